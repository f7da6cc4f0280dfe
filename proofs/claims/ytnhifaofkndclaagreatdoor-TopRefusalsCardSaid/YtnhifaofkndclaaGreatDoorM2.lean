/- Whatever the list of numbers, TopRefusals returns true, and its argument reads as it did; its package variables are tied to the program's text. Part 2 of 15. -/
import Derived.Test.YtnhifaofkndclaaGreatDoorM1
import Derived.Laws.CopyRow
import Derived.ArgAppend
import Derived.Laws.BytesString
import Derived.Lib.AppendZeros
import Derived.Lib.AppendStr
import Derived.OrdersHeld
import Derived.OrdersIn
import Derived.ControlIn
import Derived.Scope
import Derived.RangeFuncFrom
import Derived.RangeFuncLeaves
import Derived.TacticsIn
import Derived.KernelRfl
import Derived.ProofKit
set_option linter.unusedSimpArgs false
set_option linter.unusedVariables false
set_option linter.unnecessarySimpa false
namespace Go.Abs
open Go.RowKit
inductive AppC (X Y : Prop) : Prop
 | own (h : X) : AppC X Y
 | both (h : Y) : AppC X Y
section
variable {P : Program} {ti : TypeId -> Option TI} {H : AH} {m : Nat -> Value} {S : Nat -> Prop} {w : World}
theorem run_append_where {t ty e : TypeId} {i : TypeInfo} {z : Value} (ht : P.underlying t = some (.slice e)) (hi : P.info? e = some i) (hz : i.zero = some z) (hzs : z.cells.size = i.size) (hsz : 0 < i.size)
  {v : Value} {n : Nat} {us : List Value} (hown : w.ownsRow 0 e i.size v n us) {a : Addr} {m c : Nat} {news : List Value} (hl : news.length = m * i.size) (hnews : ∀ j u, news[j]? = some u -> w.cell? (a.add j) = some u) (h1 : ∀ u ∈ news, u.oneCell' = true)
  (h63 : n + m <= maxLen) (hbytes : (n + m) * i.bytes <= 140737488355328) {v' : Value} {w' : World} (hrun : (Builtin.append_ #[t, t] ty #[v, .slice (some a) m c]).run P w = .ok v' w') :
  v'.ownBlock = v.ownBlock \/ ∀ b, b < w.heap.size -> w'.heap[b]? = w.heap[b]? := by
 have hown0 := hown
 rcases hown.2 with ⟨rfl, rfl⟩ | ⟨g, cap, cur, rfl, hbg, hg, hnc, hcm, hcs, htake⟩
 ·obtain ⟨v2, w2, h2, _, h3, _⟩ := run_append_own_at (P := P) w 0 t ty e i z i.size i.bytes ht hi hz rfl rfl hzs hsz _ 0 us hown0 a m c news hl hnews h1 h63 hbytes (Nat.zero_le _)
  rw [h2] at hrun
  injection hrun with e1 e2
  subst e1; subst e2
  exact .inr fun b hb => h3.block b hb (by simp [Value.ownBlock])
 ·by_cases hroom : n + m <= cap
  ·have hfit : n * i.size + news.length <= cur.size := by rw [hl, hcs, <- Nat.add_mul]; exact Nat.mul_le_mul_right _ hroom
   have hr := run_append_room (P := P) w t ty e i ht hi g n cap cur hg a m c news hl hnews h1 hroom hfit
   rw [hr] at hrun
   injection hrun with e1 e2
   subst e1
   exact .inl rfl
  ·have hsmall : n + m <= 9223372036854775807 := by simp only [maxLen] at h63; omega
   have holds : ∀ j u, us[j]? = some u -> w.cell? ((⟨g, 0, none⟩ : Addr).add j) = some u := hown.cells (g := g) rfl
   have hr := run_append_grow (P := P) w t ty e i z ht hi hz ⟨g, 0, none⟩ n cap us hown.1 holds a m c news hl hnews (by omega) (by omega) (growslice_fits (by omega) hbytes)
   rw [hr] at hrun
   injection hrun with e1 e2
   subst e2
   exact .inr fun b hb => heap_alloc_old w.drew _ (r := b) hb
theorem append_run (hp : Hp P H m S w) {t ty e : TypeId} {i : TypeInfo} {z : Value} (ht : P.underlying t = some (.slice e)) (hi : P.info? e = some i) (hz : i.zero = some z) (hzs : z.cells.size = i.size) (hsz : 0 < i.size)
  {v : Value} {n : Nat} {us : List Value} (ho : w.ownsRow 0 e i.size v n us) {ys : List PV} {vs : Value} (hs : Src S w i.size ys vs) (h63 : n + ys.length <= maxLen) (hbytes : (n + ys.length) * i.bytes <= 140737488355328) :
  ∃ v' w' news, (Builtin.append_ #[t, t] ty #[v, vs]).run P w = .ok v' w' /\ w'.ownsRow 0 e i.size v' (n + ys.length) (us ++ news) /\ w.grownBy w' v.ownBlock /\
   (v' = .slice none 0 0 ↔ v = .slice none 0 0 /\ ys.length = 0) /\ (v'.ownBlock = v.ownBlock \/ v'.ownBlock = some w.heap.size) /\ (v'.ownBlock = v.ownBlock \/ ∀ b, b < w.heap.size -> w'.heap[b]? = w.heap[b]?) /\
   ∀ (k : Nat) (c : PV), (flat ys)[k]? = some c -> ∃ u : Value, news[k]? = some u /\ RdP S w c u /\ u.oneCell' = true := by
 have some_ : ∀ (a : Addr) (c : Nat) (news : List Value), vs = .slice (some a) ys.length c -> news.length = ys.length * i.size -> (∀ (j : Nat) (u : Value), news[j]? = some u -> w.cell? (a.add j) = some u) ->
   (∀ (k : Nat) (c : PV), (flat ys)[k]? = some c -> ∃ u : Value, news[k]? = some u /\ RdP S w c u /\ u.oneCell' = true) -> ∃ v' w' news, (Builtin.append_ #[t, t] ty #[v, vs]).run P w = .ok v' w' /\ w'.ownsRow 0 e i.size v' (n + ys.length) (us ++ news) /\ w.grownBy w' v.ownBlock /\
  (v' = .slice none 0 0 ↔ v = .slice none 0 0 /\ ys.length = 0) /\ (v'.ownBlock = v.ownBlock \/ v'.ownBlock = some w.heap.size) /\ (v'.ownBlock = v.ownBlock \/ ∀ b, b < w.heap.size -> w'.heap[b]? = w.heap[b]?) /\
  ∀ (k : Nat) (c : PV), (flat ys)[k]? = some c -> ∃ u : Value, news[k]? = some u /\ RdP S w c u /\ u.oneCell' = true := by
  rintro a c news rfl hl hat hr
  have h1 : ∀ u ∈ news, u.oneCell' = true := by
   intro u hu
   obtain ⟨j, hj, rfl⟩ := List.mem_iff_getElem.1 hu
   have hjf : j < (flat ys).length := by rw [flat_length hs.ok]; omega
   obtain ⟨u', hu', _, h1⟩ := hr j _ (List.getElem?_eq_getElem hjf)
   rw [List.getElem?_eq_getElem hj] at hu'
   injection hu' with hu'
   rw [hu']
   exact h1
  obtain ⟨v', w', h2, h3, h4, h5, h6⟩ := run_append_own_at (P := P) w 0 t ty e i z i.size i.bytes ht hi hz rfl rfl hzs hsz v n us ho a ys.length c news hl hat h1 h63 hbytes (Nat.zero_le _)
  exact ⟨v', w', news, h2, h3, h4, h5, h6, run_append_where ht hi hz hzs hsz ho hl hat h1 h63 hbytes h2, hr⟩
 rcases hs.at_ with ⟨rfl, a, c, rfl⟩ | ⟨a, c, news, h1, h2, h3, h4⟩
 ·rcases a with _ | a
  ·refine ⟨v, w, [], run_append_nilSrc 0 t ty e i ht hi v _ us ho c, by simpa using ho, ⟨rfl, rfl, rfl, Nat.le_refl _, fun _ _ _ => rfl⟩, by simp, .inl rfl, .inl rfl, by simp [flat]⟩
  ·exact some_ a c [] rfl (by simp) (by simp) (by simp [flat])
 ·exact some_ a c news h1 h2 h3 h4
theorem Stp.appendBoth (hp : Hp P H m S w) {t ty e : TypeId} {i : TypeInfo} {z : Value} (ht : P.underlying t = some (.slice e)) (hi : P.info? e = some i) (hz : i.zero = some z) (hzs : z.cells.size = i.size) (hsz : 0 < i.size)
  {id : Nat} {nl : Bool} {xs ys : List PV} {vs : Value} (hl : live H id (.buf e nl xs)) (hs : Src S w i.size ys vs) (h63 : xs.length + ys.length <= maxLen) (hbytes : (xs.length + ys.length) * i.bytes <= 140737488355328) :
  ∃ v' w' S', (Builtin.append_ #[t, t] ty #[m id, vs]).run P w = .ok v' w' /\
   Stp P H m S w (H.set id (some (.frz nl xs)) ++ [some (.frz (ys.isEmpty && nl) (xs ++ ys))]) (upd m H.length v') S' w' /\
   Rd P (H.set id (some (.frz nl xs)) ++ [some (.frz (ys.isEmpty && nl) (xs ++ ys))]) (upd m H.length v') S' w' (.buf H.length) v' := by
 obtain ⟨i', us, hi', _, ho, hzx, hrx, hnl⟩ := hp.obj id _ hl
 rw [hi] at hi'
 injection hi' with hi'
 subst hi'
 obtain ⟨v', w', news, hrun, hown', hgrow, hnil', hat, hkeep, hry⟩ := append_run (ty := ty) hp ht hi hz hzs hsz ho hs h63 hbytes
 have hid : id < H.length := (List.getElem?_eq_some_iff.1 hl).1
 let S' : Nat -> Prop := fun b => S b \/ (m id).ownBlock = some b \/ v'.ownBlock = some b
 have hk : Keeps S w w' := fun b hb => hgrow.block b (hp.sub b hb) fun he => hp.out id _ b hl (.inl he.symm) hb
 have hupd : upd m H.length v' H.length = v' := if_pos rfl
 have hlen : (H.set id (some (.frz nl xs)) ++ [some (.frz (ys.isEmpty && nl) (xs ++ ys))] : AH).length = H.length + 1 := by simp
 have lv : ∀ {j : Nat} {o : AO}, live (H.set id (some (.frz nl xs)) ++ [some (.frz (ys.isEmpty && nl) (xs ++ ys))]) j o ->
   (j = H.length /\ o = .frz (ys.isEmpty && nl) (xs ++ ys)) \/ (j = id /\ o = .frz nl xs) \/ (j < H.length /\ j ≠ id /\ live H j o) := by
  intro j o h
  rcases live_push h with ⟨h1, h2⟩ | ⟨h1, h2⟩
  ·rw [List.length_set] at h1; exact .inl ⟨h1, h2⟩
  ·rw [List.length_set] at h1
   rcases live_set h2 with ⟨h3, h4⟩ | ⟨h3, h4⟩
   ·injection h4 with h4; exact .inr (.inl ⟨h3, h4.symm⟩)
   ·exact .inr (.inr ⟨h1, h3, h4⟩)
 have mOld : ∀ {j : Nat}, j < H.length -> upd m H.length v' j = m j := fun hj => if_neg (by omega)
 have hzall : ∀ x ∈ xs ++ ys, x.cells.length = i.size := fun x hx => (List.mem_append.1 hx).elim (hzx x) (hs.ok x)
 have hul : us.length = (flat xs).length := by rw [ho.1, flat_length hzx]
 have hcell : ∀ (k : Nat) (c : PV), (flat (xs ++ ys))[k]? = some c -> ∃ u : Value, (us ++ news)[k]? = some u /\ RdP S w' c u /\ u.oneCell' = true := by
  intro k c hk'
  rw [flat_append] at hk'
  by_cases hkl : k < (flat xs).length
  ·rw [List.getElem?_append_left hkl] at hk'
   obtain ⟨u, hu, h1, h2⟩ := hrx k c hk'
   exact ⟨u, by rw [List.getElem?_append_left (by omega)]; exact hu, h1.mono hk (fun _ h => h), h2⟩
  ·rw [List.getElem?_append_right (by omega)] at hk'
   obtain ⟨u, hu, h1, h2⟩ := hry _ c hk'
   exact ⟨u, by rw [List.getElem?_append_right (by omega), hul]; exact hu, h1.mono hk (fun _ h => h), h2⟩
 have hnewOK : OK P H m S w' v' (.buf e (ys.isEmpty && nl) (xs ++ ys)) := by
  refine ⟨i, us ++ news, hi, hsz, by rw [List.length_append]; exact hown', hzall, hcell, ?_⟩
  rw [hnil', <- hnl, Bool.and_eq_true, List.isEmpty_iff]
  constructor
  ·rintro ⟨rfl, h⟩; exact ⟨h, rfl⟩
  ·rintro ⟨h, h0⟩; exact ⟨List.eq_nil_of_length_eq_zero h0, h⟩
 have hnew : RdP S' w' (.list (ys.isEmpty && nl) (xs ++ ys)) v' := RdP.of_own hnewOK (fun _ h => .inl h) fun b hb => .inr (.inr hb)
 have hold : Older H (H.set id (some (.frz nl xs)) ++ [some (.frz (ys.isEmpty && nl) (xs ++ ys))]) m (upd m H.length v') := by
  refine ⟨by rw [hlen]; omega, fun j hj p hp' => ⟨mOld hj, ?_⟩⟩
  rcases lv hp' with ⟨h1, _⟩ | ⟨rfl, rfl⟩ | ⟨_, _, h3⟩
  ·omega
  ·exact ⟨_, hl, fun _ _ _ he => (by cases he), fun _ _ _ he => (by cases he), fun _ he => (by cases he)⟩
  ·exact ⟨p, h3, fun e nl xs he => ⟨nl, xs, he, Nat.le_refl _⟩, fun _ _ l he => ⟨l, he⟩, fun _ h => h⟩
 have hread : RdP S' w' (.list nl xs) (m id) := by
  rcases hkeep with hb | hb
  ·rcases ho.2 with ⟨hv, h0⟩ | ⟨g, cap, cur, hv, _, hh, hc, hm, hcs, htk⟩
   ·have hx : xs = [] := List.eq_nil_of_length_eq_zero h0
    have hn : nl = true := hnl.2 hv
    subst hx; subst hn
    rw [hv]
    exact .nil
   ·have hn : nl = false := by
     cases nl
     ·rfl
     ·have := hnl.1 rfl; rw [hv] at this; cases this
    subst hn
    have hg : v'.ownBlock = some g := by rw [hb, hv]; rfl
    have hcells := hown'.cells hg
    have hS : S' g := .inr (.inr hg)
    have hfl : ∀ (k : Nat) (c : PV), (flat xs)[k]? = some c -> ∃ u : Value, (us ++ news)[k]? = some u /\ RdP S w' c u /\ u.oneCell' = true := fun k c hk' =>
     hcell k c (by rw [flat_append, List.getElem?_append_left (List.getElem?_eq_some_iff.1 hk').1]; exact hk')
    rw [hv]
    refine .list xs _ cap i.size (fun k => ((us ++ news)[k]?).getD undef) (fun _ => hS) hc hm hzx (fun k c hk' => ?_) fun k c hk' => ?_
    ·obtain ⟨u, hu, _, h1⟩ := hfl k c hk'
     rw [hu]
     exact ⟨hcells k u hu, h1⟩
    ·obtain ⟨u, hu, h2, _⟩ := hfl k c hk'
     rw [hu]
     exact h2.mono (fun _ _ => rfl) fun _ h => .inl h
  ·have hok := hp.obj id _ hl
   have h2 : OK P H m S w' (m id) (.buf e nl xs) := OK.mono hk (fun _ h => h) (Older.refl _ _) hok fun b hb' => hb b (hok.blk_lt hb')
   exact RdP.of_own h2 (fun _ h => .inl h) fun b hb => .inr (.inl hb)
 have hlt' : ∀ b, v'.ownBlock = some b -> b < w'.heap.size := fun b hb => (hown'.lt b hb).2
 have osm : ∀ {j : Nat} {o : AO}, j ≠ id -> live H j o -> ∀ {b}, Own w' (m j) o b -> Own w (m j) o b := fun {j o} hne h3 b hb => (Own.same (hp.obj j o h3) fun b hb => hgrow.block b ((hp.obj j o h3).blk_lt hb) fun he => hne (hp.inj j id o _ b h3 hl hb (.inl he.symm))).1 hb
 refine ⟨v', w', S', hrun, ⟨hold, ⟨fun j o hj => ?_, fun a b oa ob g ha hb hga hgb => ?_, fun b hb => ?_, fun j o b hj hb hS => ?_, hp.glb.mono hk fun _ h => .inl h⟩, hk, fun _ h => .inl h, hgrow.os, hgrow.tape, hgrow.output, hgrow.size, fun b hlt hn => ?_, fun b hb => ?_, fun b hb => ?_, fun b hb => ?_⟩, ?_⟩
 ·rcases lv hj with ⟨rfl, rfl⟩ | ⟨rfl, rfl⟩ | ⟨h1, h2, h3⟩
  ·rw [hupd]; exact hnew
  ·rw [mOld hid]; exact hread
  ·rw [mOld h1]
   exact OK.mono hk (fun _ h => .inl h) hold (hp.obj j o h3) fun b hb => hgrow.block b ((hp.obj j o h3).blk_lt hb) fun he => h2 (hp.inj j id o _ b h3 hl hb (.inl he.symm))
 ·rcases lv ha with ⟨rfl, rfl⟩ | ⟨rfl, rfl⟩ | ⟨h1, h2, h3⟩
  ·exact absurd hga not_own_frz
  ·exact absurd hga not_own_frz
  ·rcases lv hb with ⟨rfl, rfl⟩ | ⟨rfl, rfl⟩ | ⟨g1, g2, g3⟩
   ·exact absurd hgb not_own_frz
   ·exact absurd hgb not_own_frz
   ·rw [mOld h1] at hga
    rw [mOld g1] at hgb
    exact hp.inj a b oa ob g h3 g3 (osm h2 h3 hga) (osm g2 g3 hgb)
 ·rcases hb with hb | hb | hb
  ·exact Nat.lt_of_lt_of_le (hp.sub b hb) hgrow.size
  ·exact Nat.lt_of_lt_of_le ((hp.obj id _ hl).blk_lt (.inl hb)) hgrow.size
  ·exact hlt' b hb
 ·rcases lv hj with ⟨rfl, rfl⟩ | ⟨rfl, rfl⟩ | ⟨h1, h2, h3⟩
  ·exact absurd hb not_own_frz
  ·exact absurd hb not_own_frz
  ·rw [mOld h1] at hb
   replace hb := osm h2 h3 hb
   rcases hS with hS | hS | hS
   ·exact hp.out j o b h3 hb hS
   ·exact h2 (hp.inj j id o _ b h3 hl hb (.inl hS))
   ·rcases hat with h | h
    ·rw [h] at hS
     exact h2 (hp.inj j id o _ b h3 hl hb (.inl hS))
    ·rw [h] at hS
     injection hS with hS
     have := (hp.obj j o h3).blk_lt hb
     omega
 ·exact hgrow.block b hlt fun he => hn ⟨id, _, hl, .inl he.symm⟩
 ·rcases hb with hb | hb | hb
  ·exact .inl hb
  ·exact .inr (.inl ⟨id, _, hl, .inl hb⟩)
  ·rcases hat with h | h
   ·rw [h] at hb
    exact .inr (.inl ⟨id, _, hl, .inl hb⟩)
   ·rw [h] at hb
    injection hb with hb
    exact .inr (.inr (by omega))
 ·obtain ⟨j, o, h1, h2⟩ := hb
  rcases lv h1 with ⟨rfl, rfl⟩ | ⟨rfl, rfl⟩ | ⟨g1, g2, g3⟩
  ·exact absurd h2 not_own_frz
  ·exact absurd h2 not_own_frz
  ·rw [mOld g1] at h2
   exact .inl ⟨j, o, g3, osm g2 g3 h2⟩
 ·rcases hb with hb | hb | hb
  ·exact .inl hb
  ·rcases hkeep with h | h
   ·refine .inr (hnewOK.isC (.inl ?_) rfl)
    show v'.ownBlock = _
    rw [h]; exact hb
   ·obtain ⟨vs, T, f, h1⟩ := (hp.obj id _ hl).isC (.inl hb) rfl
    exact .inr ⟨vs, T, f, (h b ((hp.obj id _ hl).blk_lt (.inl hb))).trans h1⟩
  ·exact .inr (hnewOK.isC (.inl hb) rfl)
 ·have hform : ∃ a l c, v' = .slice a l c := by
   rcases hown'.2 with ⟨h, _⟩ | ⟨g, cap, cur, h, _⟩
   ·exact ⟨_, _, _, h⟩
   ·exact ⟨_, _, _, h⟩
  obtain ⟨a, l, c, rfl⟩ := hform
  exact .buf _ _ _ _ (by rw [hlen]; omega) fun o ho' => hupd
end
end Go.Abs
namespace Go.Abs
open Go.RowKit
def keyD : TK -> Option TypeDesc
 | .int k => some (.int k)
 | .str => some .string
 | _ => none
inductive LookA (d : TypeDesc) (key : Value) (es : List (Value × Value)) (k : Option Value -> Prop) : Prop
 | mk (r : Option Value) (h0 : MapKept.IsKey d key) (h1 : ∀ e ∈ es, MapKept.IsKey d e.1) (h2 : HasK key es r) (hk : k r) : LookA d key es k
def allV : List PV -> Bool
 | [] => true
 | .v _ :: r => allV r
 | _ :: _ => false
def valsV : List PV -> List Value
 | [] => []
 | .v x :: r => x :: valsV r
 | _ :: r => undef :: valsV r
theorem det_vals {S : Nat -> Prop} {w : World} : ∀ {cs : List PV} {vs : List Value}, allV cs = true -> vs.length = cs.length -> (∀ k c, cs[k]? = some c -> RdP S w c (vs.getD k undef)) -> vs = valsV cs
 | [], vs, _, hl, _ => List.eq_nil_of_length_eq_zero hl
 | .v x :: r, v :: vs, h, hl, hr => by
  have h1 := hr 0 (.v x) rfl
  have h2 : v = x := by
   cases h1 with
   | v _ _ => rfl
  have h3 := det_vals (cs := r) (vs := vs) h (by simpa using hl) fun k c hk => by simpa using hr (k + 1) c (by simpa using hk)
  rw [valsV, <- h3, h2]
 | .v x :: r, [], _, hl, _ => by simp at hl
 | .list _ _ :: r, _, h, _, _ => by cases h
 | .agg _ :: r, _, h, _, _ => by cases h
theorem det_v (x : Value) (S : Nat -> Prop) (w : World) (v : Value) (h : RdP S w (.v x) v) : v = x := by
 cases h with
 | v _ _ => rfl
theorem det_agg {cs : List PV} (hc : allV cs = true) (S : Nat -> Prop) (w : World) (v : Value) (h : RdP S w (.agg cs) v) : v = .agg (valsV cs).toArray := by
 cases h with
 | agg _ vs hl ho hr =>
  have := det_vals (vs := vs.toList) hc (by simpa using hl) fun k c hk => by
   have := hr k c hk
   simpa [Array.getD_eq_getD_getElem?, List.getD_eq_getElem?_getD] using this
  rw [<- this]
def aggV (cs : List PV) : Value := .agg (valsV cs).toArray
def oneV (cs : List PV) : Bool := allV cs && (valsV cs).all (·.oneCell')
def SKey (ti : TypeId -> Option TI) (fs : List (TypeId × Nat)) (cs : List PV) (x : Value) : Prop := ∃ ds b, oneV ds = true /\ x = aggV ds /\ eqPs ti fs cs ds = some b /\ (b = true ↔ x = aggV cs)
inductive LookS (ti : TypeId -> Option TI) (fs : List (TypeId × Nat)) (cs : List PV) (es : List (Value × Value)) (k : Option Value -> Prop) : Prop
 | mk (r : Option Value) (b : Bool) (h0 : oneV cs = true) (h3 : eqPs ti fs cs cs = some b) (h1 : ∀ e ∈ es, SKey ti fs cs e.1) (h2 : HasK (aggV cs) es r) (hk : k r) : LookS ti fs cs es k
def wpLookup (ti : TypeId -> Option TI) (H : AH) (t : TypeId) (ok : Bool) (x ix : AV) (k : AV -> Prop) : Prop := match x, ix, ti t with
 | .mp id, .p (.v kv), some ⟨.map kt et, _, _, _⟩ => match ti kt, ti et, H[id]? with
  | some ⟨tk, _, _, _⟩, some ⟨_, _, _, z⟩, some (some (.map es)) => match keyD tk, z.oneCell' with
   | some d, true => LookA d kv es fun r => match ok with
    | false => k (.p (.v (r.getD z)))
    | true => k (.tup [.p (.v (r.getD z)), .p (.v (.bool r.isSome))])
   | _, _ => False
  | _, _, _ => False
 | .mp id, .p (.agg cs), some ⟨.map kt et, _, _, _⟩ => match ti kt, ti et, H[id]? with
  | some ⟨.st fs, _, _, _⟩, some ⟨_, _, _, z⟩, some (some (.map es)) => match z.oneCell' with
   | true => LookS ti fs cs es fun r => match ok with
    | false => k (.p (.v (r.getD z)))
    | true => k (.tup [.p (.v (r.getD z)), .p (.v (.bool r.isSome))])
   | false => False
  | _, _, _ => False
 | _, _, _ => False
inductive NewKey (d : TypeDesc) (key : Value) (es : List (Value × Value)) (X : Prop) : Prop
 | mk (h0 : MapKept.IsKey d key) (h1 : ∀ e ∈ es, MapKept.IsKey d e.1) (h2 : ∀ e ∈ es, e.1 ≠ key) (hk : X) : NewKey d key es X
def wpMapUpdate (ti : TypeId -> Option TI) (H : AH) (t : TypeId) (x ix v : AV) (k : AV -> AH -> Prop) : Prop := match x, ix, v, ti t with
 | .mp id, .p (.v kv), .p (.v vv), some ⟨.map kt _, _, _, _⟩ => match ti kt, H[id]? with
  | some ⟨tk, _, _, _⟩, some (some (.map es)) => match keyD tk with
   | some d => NewKey d kv es (k .dead (H.set id (some (.map (es ++ [(kv, vv)])))))
   | none => False
  | _, _ => False
 | .mp id, .p (.agg cs), .p (.v vv), some ⟨.map kt _, _, _, _⟩ => match ti kt, H[id]? with
  | some ⟨.st fs, _, _, _⟩, some (some (.map es)) => LookS ti fs cs es fun r => r = none /\ k .dead (H.set id (some (.map (es ++ [(aggV cs, vv)]))))
  | _, _ => False
 | _, _, _, _ => False
def bstr (ns : List Int) : ByteArray := ns.foldl (fun r n => r.push (UInt8.ofNat n.toNat)) ByteArray.empty
inductive BytesA (xs : List PV) (k : AV -> Prop) : Prop
 | mk (ns : List Int) (h : xs = ns.map fun n => .v (.int .u8 n)) (hk : k (.p (.v (.string (bstr ns)))))
def bytesT (ti : TypeId -> Option TI) (src dst : TypeId) : Bool := match ti src, ti dst with
 | some ⟨.sl e, _, _, _⟩, some ⟨.str, _, _, _⟩ => match ti e with
  | some ⟨.int .u8, _, _, _⟩ => true
  | _ => false
 | _, _ => false
def wpConvB (ti : TypeId -> Option TI) (H : AH) (src dst : TypeId) (x : AV) (k : AV -> Prop) : Prop := match x with
 | .buf id => match ti src, ti dst, H[id]? with
  | some ⟨.sl e, _, _, _⟩, some ⟨.str, _, _, _⟩, some (some (.buf e' _ xs)) => match ti e, Nat.beq e e' with
   | some ⟨.int .u8, _, _, _⟩, true => BytesA xs k
   | _, _ => False
  | _, _, _ => False
 | .p (.list nl xs) => match bytesT ti src dst with
  | true => BytesA xs k
  | false => wpConv ti src dst (.p (.list nl xs)) k
 | x => wpConv ti src dst x k
section
variable {P : Program} {ti : TypeId -> Option TI} {H : AH} {m : Nat -> Value} {S : Nat -> Prop} {w : World}
theorem keyD_of {t : TypeId} {i : TI} (hi : tiOf P t = some i) {d : TypeDesc} (hd : keyD i.k = some d) : P.underlying t = some d := by
 obtain ⟨inf, d', _, hu, _, _, _, hkd, _⟩ := tiOf_spec hi
 rw [hu]
 cases d' <;> simp [kindOf] at hkd <;> rw [<- hkd] at hd <;> simp [keyD] at hd <;> simp [hd]
theorem valsV_length : ∀ (cs : List PV), (valsV cs).length = cs.length
 | [] => rfl
 | .v _ :: r => by simp [valsV, valsV_length r]
 | .list _ _ :: r => by simp [valsV, valsV_length r]
 | .agg _ :: r => by simp [valsV, valsV_length r]
theorem valsV_at {cs : List PV} (h : oneV cs = true) : ∀ (k : Nat) (c : PV), cs[k]? = some c -> RdP S w c ((valsV cs).getD k undef) := by
 induction cs with
 | nil => intro k c hk; cases hk
 | cons x r ih =>
  intro k c hk
  unfold oneV at h
  simp only [Bool.and_eq_true] at h
  cases x with
  | v x =>
   simp only [allV, valsV, List.all_cons, Bool.and_eq_true] at h
   cases k with
   | zero => simp at hk; subst hk; exact .v _ h.2.1
   | succ k => simpa [valsV] using ih (by unfold oneV; simp [h.1, h.2.2]) k c (by simpa using hk)
  | list => cases h.1
  | agg => cases h.1
theorem rdP_agg {cs : List PV} (h : oneV cs = true) : (aggV cs = .agg (valsV cs).toArray) /\ (valsV cs).toArray.size = cs.length /\ ∀ (k : Nat) (c : PV), cs[k]? = some c -> RdP S w c ((valsV cs).toArray.getD k undef) :=
 ⟨rfl, by simp [valsV_length], fun k c hk => by simpa [Array.getD_eq_getD_getElem?, List.getD_eq_getElem?_getD] using valsV_at (S := S) (w := w) h k c hk⟩
theorem run_checkKey_st (hT : TabOK P ti) {xs : List PV} {vs : Array Value} (hlx : vs.size = xs.length) (hx : ∀ k c, xs[k]? = some c -> RdP S w c (vs.getD k undef)) {F : Array Field} {kt : TypeId} (hd : P.underlying kt = some (.struct F)) (hn : ∀ f ∈ F.toList, f.name ≠ "_") {r : Bool}
  (hr : eqPs ti (F.toList.map fun f => (f.type, f.offset)) xs xs = some r) (em : Bool) (w' : World) : (Instr.checkKey em 10000 kt (.agg vs)).run P w' = .ok () w' := by
 unfold Instr.checkKey
 simp only [Sem.run_bind, run_underlying hd, Result.andThen_ok]
 rw [<- Array.forIn_toList]
 generalize F.toList = L at hn hr
 induction L generalizing r with
 | nil => simp
 | cons f L ih =>
  unfold eqPs at hr
  simp only [List.map_cons] at hr
  have hname := hn f (List.mem_cons_self ..)
  split at hr
  ·rename_i i x y r' hi hxs hys hr'
   have hv : vs[f.offset]? = some x := by
    have h1 := hx _ _ hxs
    have h2 : f.offset < vs.size := by have := (List.getElem?_eq_some_iff.1 hxs).1; omega
    generalize hg : vs.getD f.offset undef = v at h1
    cases h1
    simp [h2] at hg ⊢
    exact hg
   obtain ⟨inf, d, _, hd2, _, _, _, hk, _⟩ := tiOf_spec (hT.ok _ _ hi)
   have hrest := ih (fun g hg => hn g (List.mem_cons_of_mem _ hg)) hr'
   have hpc : (part f.type vs f.offset).run P w' = .ok x w' /\ (Instr.checkKey em 9999 f.type x).run P w' = .ok () w' := by
    split at hr
    ·rename_i hki
     rw [hki] at hk
     cases d <;> simp [kindOf] at hk
     refine ⟨by simp [part, isAgg, run_underlying hd2, hv], ?_⟩
     unfold Instr.checkKey
     simp only [Sem.run_bind, run_underlying hd2, Result.andThen_ok]
     rfl
    ·rename_i hki
     rw [hki] at hk
     cases d <;> simp [kindOf] at hk
     refine ⟨by simp [part, isAgg, run_underlying hd2, hv], ?_⟩
     unfold Instr.checkKey
     simp only [Sem.run_bind, run_underlying hd2, Result.andThen_ok]
     rfl
    ·rename_i hki
     rw [hki] at hk
     cases d <;> simp [kindOf] at hk
     refine ⟨by simp [part, isAgg, run_underlying hd2, hv], ?_⟩
     unfold Instr.checkKey
     simp only [Sem.run_bind, run_underlying hd2, Result.andThen_ok]
     rfl
    ·cases hr
   simp only [List.forIn_cons, Sem.run_bind, hname, ne_eq, not_false_eq_true, if_true, Result.andThen_ok, hpc.1, hpc.2, Sem.run_pure]
   simpa only [ne_eq, Sem.run_pure] using hrest
  ·cases hr
theorem findAsking_spec {kt : TypeId} {kv : Value} {w' : World} : ∀ (l : List MapEntry) (i : Nat), (∀ e ∈ l, ∃ b : Bool, (Op.equal kt kv e.key).run P w' = .ok b w' /\ (b = true ↔ e.key = kv)) ->
  ((Instr.findAsking kt kv l i).run P w' = .ok none w' /\ ∀ e ∈ l, e.key ≠ kv) \/ ∃ j e, (Instr.findAsking kt kv l i).run P w' = .ok (some (j, e.val)) w' /\ e ∈ l /\ e.key = kv
 | [], i, _ => .inl ⟨by simp [Instr.findAsking], by simp⟩
 | e :: l, i, h => by
  obtain ⟨b, h1, h2⟩ := h e (List.mem_cons_self ..)
  cases b with
  | true => exact .inr ⟨i, e, by simp [Instr.findAsking, h1], List.mem_cons_self .., h2.1 rfl⟩
  | false =>
   have hne : e.key ≠ kv := fun he => by cases h2.2 he
   rcases findAsking_spec l (i + 1) (fun y hy => h y (List.mem_cons_of_mem _ hy)) with ⟨h3, h4⟩ | ⟨j, e', h3, h4, h5⟩
   ·refine .inl ⟨by simp [Instr.findAsking, h1, h3], fun y hy => ?_⟩
    rcases List.mem_cons.1 hy with rfl | hy
    ·exact hne
    ·exact h4 y hy
   ·exact .inr ⟨j, e', by simp [Instr.findAsking, h1, h3], List.mem_cons_of_mem _ h4, h5⟩
theorem run_findKey_st {kt : TypeId} {F : Array Field} (hd : P.underlying kt = some (.struct F)) {kv : Value} {w' : World} (l : List MapEntry) : (Instr.findKey kt kv l).run P w' = (Instr.findAsking kt kv l 0).run P w' := by
 unfold Instr.findKey
 simp only [Sem.run_bind, run_underlying hd, Result.andThen_ok]
 cases l with
 | nil => simp [Instr.findNow, Instr.findAsking]
 | cons e l => simp [Instr.findNow, Instr.sameNow]
theorem lookS_runs (hT : TabOK P ti) {kt : TypeId} {fs : List (TypeId × Nat)} {sz b0 : Nat} {z0 : Value} (hi : ti kt = some ⟨.st fs, sz, b0, z0⟩) {cs : List PV} {es : List (Value × Value)} {k : Option Value -> Prop} (h : LookS ti fs cs es k) {ents : Array MapEntry} (he : ents.toList.map (fun e => (e.key, e.val)) = es) :
  ∃ r, k r /\ HasK (aggV cs) es r /\ (∀ (em : Bool) (w' : World), (Instr.checkKey em 10000 kt (aggV cs)).run P w' = .ok () w') /\
   ((r = none /\ ∀ w' : World, (Instr.findKey kt (aggV cs) ents.toList).run P w' = .ok none w') \/ ∃ v, r = some v /\ ∀ w' : World, ∃ j, (Instr.findKey kt (aggV cs) ents.toList).run P w' = .ok (some (j, v)) w') := by
 obtain ⟨r, b, h0, h3, h1, h2, hk⟩ := h
 have hti := hT.ok _ _ hi
 obtain ⟨inf, d, _, hd, _, _, _, hkd, _⟩ := tiOf_spec hti
 cases d <;> simp [kindOf] at hkd
 rename_i F
 obtain ⟨hsi, _, hnm⟩ := tiOf_plain hti hd
 have hF : P.fieldsOf kt = F := by simp [Program.fieldsOf, hd]
 have hx := fun w => rdP_agg (S := fun _ => True) (w := w) h0
 have heq : ∀ (w' : World), ∀ e ∈ ents.toList, ∃ b : Bool, (Op.equal kt (aggV cs) e.key).run P w' = .ok b w' /\ (b = true ↔ e.key = aggV cs) := by
  intro w' e hm
  obtain ⟨ds, b, g1, g2, g3, g4⟩ := h1 (e.key, e.val) (by rw [<- he]; exact List.mem_map_of_mem hm)
  simp only at g2 g4
  refine ⟨b, ?_, g4⟩
  rw [g2]
  have hy := rdP_agg (S := fun _ => True) (w := w') g1
  have hrun := run_eqFields (S := fun _ => True) (w := w') hT (hx w').2.1 (hx w').2.2 hy.2.1 hy.2.2 (P.fieldsOf kt).toList (fun f hf => hnm f (by rw [hF] at hf; simpa using hf)) b (by rw [hF, hkd]; exact g3) w'
  show (Op.equalIn 10000 kt (.agg _) (.agg _)).run P w' = _
  rw [run_equalIn_struct w' 9999 kt _ _ (by rw [hF]; exact hd) hsi, hrun]
 refine ⟨r, hk, h2, fun em w' => run_checkKey_st (S := fun _ => True) (w := w') hT (hx w').2.1 (hx w').2.2 hd (fun f hf => hnm f (by simpa using hf)) (r := b) (by rw [hkd]; exact h3) em w', ?_⟩
 cases r with
 | none =>
  refine .inl ⟨rfl, fun w' => ?_⟩
  rw [run_findKey_st hd]
  rcases findAsking_spec ents.toList 0 (heq w') with ⟨g1, _⟩ | ⟨j, e, g1, g2, g3⟩
  ·exact g1
  ·exact absurd g3 (h2 (e.key, e.val) (by rw [<- he]; exact List.mem_map_of_mem g2))
 | some v =>
  refine .inr ⟨v, rfl, fun w' => ?_⟩
  rw [run_findKey_st hd]
  rcases findAsking_spec ents.toList 0 (heq w') with ⟨_, g2⟩ | ⟨j, e, g1, g2, g3⟩
  ·obtain ⟨⟨e, hm, hek⟩, _⟩ := h2
   rw [<- he] at hm
   obtain ⟨x, hx, rfl⟩ := List.mem_map.1 hm
   exact absurd hek (g2 x hx)
  ·have hv : e.val = v := h2.2 (e.key, e.val) (by rw [<- he]; exact List.mem_map_of_mem g2) g3
   exact ⟨j, by rw [g1, hv]⟩
theorem wpLookup_sound (hT : TabOK P ti) (hp : Hp P H m S w) {t : TypeId} {ok : Bool} {x ix : AV} {k : AV -> Prop} {xv iv : Value} (h : wpLookup ti H t ok x ix k) (hx : Rd P H m S w x xv) (hi : Rd P H m S w ix iv) :
  ∃ av v, k av /\ Rd P H m S w av v /\ (Instr.lookup t xv iv ok).run P w = .ok v w := by
 unfold wpLookup at h
 split at h
 ·rename_i id kv kt et _ _ _ hti
  split at h
  ·rename_i tk _ _ _ _ _ _ z es hk he hl
   split at h
   ·rename_i d hd hz1
    have h1 := map_of (hT.ok _ _ hti) rfl
    have h2 := keyD_of (hT.ok _ _ hk) hd
    obtain ⟨inf, d', hinf, _, hz, _⟩ := tiOf_spec (hT.ok _ _ he)
    obtain ⟨b, ents, c, h3, h4, h5, h6⟩ := hp.obj id _ hl
    have hiv := hi.pv.1
    subst hiv
    obtain ⟨r, g0, g1, g2, hk⟩ := h
    cases hx with
    | mp _ b' hid hb' =>
     have h7 := hb' _ hl
     rw [h3] at h7
     injection h7 with h7; injection h7 with h7
     subst h7
     have hrun := run_lookup_map (P := P) (z := z) h1 h2 (by simp [zeroValue, typeInfo, hinf, hz]) h4 g0 h5 g1 g2 ok
     have hro : (r.getD z).oneCell' = true := by
      cases r with
      | none => exact hz1
      | some v =>
       obtain ⟨⟨e, hm, hek⟩, hv⟩ := g2
       rw [<- hv e hm hek]
       exact h6 e hm
     cases ok with
     | false => exact ⟨_, _, hk, .p _ _ (.v _ hro), hrun⟩
     | true =>
      refine ⟨_, _, hk, .tup _ _ rfl fun j c hj => ?_, hrun⟩
      match j, hj with
      | 0, hj => cases hj; exact .p _ _ (.v _ hro)
      | 1, hj => cases hj; exact Rd.mk rfl
   ·cases h
  ·cases h
 ·rename_i id cs kt et _ _ _ hti
  split at h
  ·rename_i fs _ _ _ _ _ _ z es hk he hl
   split at h
   ·rename_i hz1
    have h1 := map_of (hT.ok _ _ hti) rfl
    obtain ⟨inf, d', hinf, _, hz, _⟩ := tiOf_spec (hT.ok _ _ he)
    obtain ⟨b, ents, c, h3, h4, h5, h6⟩ := hp.obj id _ hl
    obtain ⟨r, hk, g2, g0, g3⟩ := lookS_runs (P := P) hT hk h h5
    obtain ⟨_, _, h0, _, _, _, _⟩ := h
    cases hi with | p _ _ hi =>
    have hiv := det_agg (by unfold oneV at h0; simp only [Bool.and_eq_true] at h0; exact h0.1) S w iv hi
    have hiv : iv = aggV cs := hiv
    subst hiv
    cases hx with
    | mp _ b' hid hb' =>
     have h7 := hb' _ hl
     rw [h3] at h7
     injection h7 with h7; injection h7 with h7
     subst h7
     have hzr : (zeroValue et).run P w = .ok z w := by simp [zeroValue, typeInfo, hinf, hz]
     have hro : (r.getD z).oneCell' = true := by
      cases r with
      | none => exact hz1
      | some v =>
       obtain ⟨⟨e, hm, hek⟩, hv⟩ := g2
       rw [<- hv e hm hek]
       exact h6 e hm
     have hrun : (Instr.lookup t (.map (some b)) (aggV cs) ok).run P w = .ok (if ok then .tuple #[r.getD z, .bool r.isSome] else r.getD z) w := by
      rcases g3 with ⟨rfl, g3⟩ | ⟨v, rfl, g3⟩
      ·cases ok <;> simp [Instr.lookup, run_underlying h1, MapKept.run_getObj_map h4, g0, g3, hzr, Result.andThen]
      ·obtain ⟨j, g3⟩ := g3 w
       cases ok <;> simp [Instr.lookup, run_underlying h1, MapKept.run_getObj_map h4, g0, g3, Result.andThen]
     cases ok with
     | false => exact ⟨_, _, hk, .p _ _ (.v _ hro), hrun⟩
     | true =>
      refine ⟨_, _, hk, .tup _ _ rfl fun j c hj => ?_, hrun⟩
      match j, hj with
      | 0, hj => cases hj; exact .p _ _ (.v _ hro)
      | 1, hj => cases hj; exact Rd.mk rfl
   ·cases h
  ·cases h
 ·cases h
theorem Stp.newMap (hp : Hp P H m S w) (t : TypeId) :
  Stp P H m S w (H ++ [some (.map [])]) (upd m H.length (.map (some w.heap.size))) S (w.alloc (.map #[] 0)) /\
  Rd P (H ++ [some (.map [])]) (upd m H.length (.map (some w.heap.size))) S (w.alloc (.map #[] 0)) (.mp H.length) (.map (some w.heap.size)) /\
  (Instr.makeMap t none).run P w = .ok (.map (some w.heap.size)) (w.alloc (.map #[] 0)) := by
 refine ⟨Stp.push hp rfl rfl rfl (by simp) (fun b hb => Below.heap_alloc w _ _ hb) (fun hk => ?_) (fun b hb => ?_), ?_, ?_⟩
 ·exact ⟨w.heap.size, #[], 0, rfl, heap_alloc_new w _, rfl, fun e he => by cases he⟩
 ·have hb := (own_iff rfl).1 hb
  simp [Abs.blk] at hb
  omega
 ·exact .mp _ _ (by simp) fun o hl => if_pos rfl
 ·simp [Instr.makeMap]
theorem Stp.putMap (hp : Hp P H m S w) {id b c c' : Nat} {ks ks' : List (Value × Value)} {es es' : Array MapEntry} (hl : live H id (.map ks)) (hm : m id = .map (some b)) (hb : w.heap[b]? = some (.map es c))
  (hk : es'.toList.map (fun e => (e.key, e.val)) = ks') (hv : ∀ e ∈ ks', e.2.oneCell' = true) :
  Stp P H m S w (H.set id (some (.map ks'))) m S { w with heap := w.heap.setIfInBounds b (.map es' c') } := by
 have hset := MapKept.heap_set (o' := .map es' c') hb
 refine Stp.at_ (fun j => j = id) hp (older_set hl (fun e nl xs he => by cases he)) (fun j p hj hlp => ?_) rfl rfl rfl (by simp) (fun b2 hlt hn => ?_) (fun j p hj hlp hk2 => ?_) (fun j p b2 hj hlp hbb => ?_) (fun i j _ _ _ hi hj _ _ _ _ => hi.trans hj.symm)
 ·rcases live_set hlp with ⟨rfl, _⟩ | ⟨_, hl'⟩
  ·exact absurd rfl hj
  ·exact ⟨hl', rfl⟩
 ·refine hset.2 b2 fun e => ?_
  subst e
  exact hn id _ rfl hl (.inl (by rw [hm]; rfl))
 ·subst hj
  rcases live_set hlp with ⟨_, he⟩ | ⟨hne, _⟩
  ·injection he with he
   subst he
   exact ⟨b, es', c', hm, hset.1, hk, hv⟩
  ·exact absurd rfl hne
 ·subst hj
  rcases live_set hlp with ⟨_, he⟩ | ⟨hne, _⟩
  ·injection he with he
   subst he
   refine .inl ⟨j, _, rfl, hl, ?_⟩
   rw [hm] at hbb ⊢
   exact hbb
  ·exact absurd rfl hne
theorem wpMapUpdate_sound (hT : TabOK P ti) (hp : Hp P H m S w) {t : TypeId} {x ix v : AV} {k : AV -> AH -> Prop} {xv iv vv : Value} (h : wpMapUpdate ti H t x ix v k) (hx : Rd P H m S w x xv) (hi : Rd P H m S w ix iv) (hvv : Rd P H m S w v vv) :
  ∃ H' w', k .dead H' /\ Stp P H m S w H' m S w' /\ (Instr.mapUpdate t xv iv vv).run P w = .ok () w' := by
 unfold wpMapUpdate at h
 split at h
 ·rename_i id kv vv0 kt _ _ _ _ hti
  split at h
  ·rename_i tk _ _ _ es hk hl
   split at h
   ·rename_i d hd
    have h1 := map_of (hT.ok _ _ hti) rfl
    have h2 := keyD_of (hT.ok _ _ hk) hd
    obtain ⟨g0, g1, g2, hk⟩ := h
    obtain ⟨b, ents, c, h3, h4, h5, h6⟩ := hp.obj id _ hl
    have hiv := hi.pv.1
    subst hiv
    obtain ⟨hvv', hone⟩ := hvv.pv
    subst hvv'
    cases hx with
    | mp _ b' hid hb' =>
     have h7 := hb' _ hl
     rw [h3] at h7
     injection h7 with h7; injection h7 with h7
     subst h7
     rcases find_spec g0 h5 g1 (r := none) g2 with ⟨_, h8⟩ | ⟨v, j, h8, _⟩
     ·refine ⟨_, _, hk, Stp.putMap hp hl h3 h4 (es' := ents.push { key := _, val := _, born := c }) (c' := c + 1) (by rw [Array.toList_push, List.map_append, h5]; rfl) (fun e he => ?_), ?_⟩
      ·rcases List.mem_append.1 he with he | he
       ·exact h6 e he
       ·rw [List.mem_singleton.1 he]; exact hone
      ·simp [Instr.mapUpdate, run_underlying h1, MapKept.run_getObj_map h4, MapKept.run_checkKey h2 g0, MapKept.run_findKey h2 h8, MapKept.run_setObj_map _ h4, Result.andThen]
     ·cases h8
   ·cases h
  ·cases h
 ·rename_i id cs vv0 kt _ _ _ _ hti
  split at h
  ·rename_i fs _ _ _ es hk hl
   have h1 := map_of (hT.ok _ _ hti) rfl
   obtain ⟨b, ents, c, h3, h4, h5, h6⟩ := hp.obj id _ hl
   obtain ⟨r, ⟨hr, hk⟩, g2, g0, g3⟩ := lookS_runs (P := P) hT hk h h5
   subst hr
   obtain ⟨_, _, h0, _, _, _, _⟩ := h
   cases hi with | p _ _ hi =>
   have hiv := det_agg (by unfold oneV at h0; simp only [Bool.and_eq_true] at h0; exact h0.1) S w iv hi
   have hiv : iv = aggV cs := hiv
   subst hiv
   obtain ⟨hvv', hone⟩ := hvv.pv
   subst hvv'
   cases hx with
   | mp _ b' hid hb' =>
    have h7 := hb' _ hl
    rw [h3] at h7
    injection h7 with h7; injection h7 with h7
    subst h7
    rcases g3 with ⟨_, h8⟩ | ⟨v, h8, _⟩
    ·refine ⟨_, _, hk, Stp.putMap hp hl h3 h4 (es' := ents.push { key := _, val := _, born := c }) (c' := c + 1) (by rw [Array.toList_push, List.map_append, h5]; rfl) (fun e he => ?_), ?_⟩
     ·rcases List.mem_append.1 he with he | he
      ·exact h6 e he
      ·rw [List.mem_singleton.1 he]; exact hone
     ·simp [Instr.mapUpdate, run_underlying h1, MapKept.run_getObj_map h4, g0, h8, MapKept.run_setObj_map _ h4, Result.andThen]
      rfl
    ·cases h8
  ·cases h
 ·cases h
theorem flat_ints (ns : List Int) : flat (ns.map fun n => PV.v (.int .u8 n)) = ns.map fun n => PV.v (.int .u8 n) := by
 unfold flat
 induction ns with
 | nil => rfl
 | cons n r ih => rw [List.map_cons, List.flatMap_cons, ih]; rfl
theorem wpConvB_sound (hT : TabOK P ti) (hp : Hp P H m S w) {src dst : TypeId} {x : AV} {k : AV -> Prop} {xv : Value} (h : wpConvB ti H src dst x k) (hx : Rd P H m S w x xv) :
  ∃ av v, k av /\ Rd P H m S w av v /\ (convert src dst xv).run P w = .ok v w := by
 unfold wpConvB at h
 split at h
 ·rename_i id
  split at h
  ·rename_i e _ _ _ _ _ _ e' nl xs hs hd hl
   split at h
   ·rename_i he hee
    have hee := Nat.eq_of_beq_eq_true hee
    subst hee
    obtain ⟨ns, rfl, hk⟩ := h
    have h1 := slice_of (hT.ok _ _ hs) rfl
    have h2 := str_of (hT.ok _ _ hd) rfl
    have h3 := int_of (hT.ok _ _ he) rfl
    obtain ⟨i, us, hinf, hpos, ho, hz, hr, _⟩ := hp.obj id _ hl
    have hv := hx.bufAt hl
    subst hv
    refine ⟨_, _, hk, Rd.mk rfl, ?_⟩
    rcases ho.2 with ⟨hn, h0⟩ | ⟨g, cap, cur, hn, _, hh, hc, hmx, hsz, htk⟩
    ·have : ns = [] := by simpa using h0
     subst this
     rw [hn, run_convert_bytes_string w src dst _ none 0 0 h1 h3 h2]
     simp [Conv.bytesToString, bstr]
    ·rw [hn, run_convert_bytes_string w src dst _ _ _ _ h1 h3 h2]
     have hcell : ∀ j v, (ns.map (Value.int .u8))[j]? = some v -> w.cell? ((⟨g, 0, none⟩ : Addr).add j) = some v := fun j v hj => by
      rw [add_lit, cell_at hh, Nat.zero_add]
      have h5 : (flat (ns.map fun n => PV.v (.int .u8 n)))[j]? = some (PV.v v) := by
       rw [flat_ints, List.getElem?_map]
       rw [List.getElem?_map] at hj
       cases hj2 : ns[j]? with
       | none => rw [hj2] at hj; cases hj
       | some n => rw [hj2] at hj; injection hj with hj; subst hj; rfl
      obtain ⟨u, hu, hru, _⟩ := hr j _ h5
      have e2 : u = v := by cases hru; rfl
      subst e2
      rw [<- htk, List.getElem?_take] at hu
      split at hu
      ·rw [<- Array.getElem?_toList]; exact hu
      ·cases hu
     have := run_loadCells_list (P := P) (w := w) ⟨g, 0, none⟩ (ns.map (Value.int .u8)) hcell
     rw [List.length_map] at this
     rw [List.length_map]
     exact run_bytesToString w _ _ _ ns this
   ·cases h
  ·cases h
 ·rename_i nl xs
  split at h
  ·rename_i hbt
   obtain ⟨ns, rfl, hk⟩ := h
   unfold bytesT at hbt
   split at hbt
   ·rename_i e _ _ _ _ _ _ hs hd
    split at hbt
    ·rename_i he
     have h1 := slice_of (hT.ok _ _ hs) rfl
     have h2 := str_of (hT.ok _ _ hd) rfl
     have h3 := int_of (hT.ok _ _ he) rfl
     have hxr : RdP S w (.list nl (ns.map fun n => .v (.int .u8 n))) xv := by cases hx with | p _ _ h => exact h
     have hsrc := src_of_list hxr (sz := 1) (fun x hx => by
      simp only [List.mem_map] at hx
      obtain ⟨n, _, rfl⟩ := hx
      rfl)
     refine ⟨_, _, hk, Rd.mk rfl, ?_⟩
     have key : ∀ (a : Addr) (c : Nat), (∀ j v, (ns.map (Value.int .u8))[j]? = some v -> w.cell? (a.add j) = some v) -> (convert src dst (.slice (some a) ns.length c)).run P w = .ok (.string (bstr ns)) w := by
      intro a c hcell
      rw [run_convert_bytes_string w src dst _ _ _ _ h1 h3 h2]
      have := run_loadCells_list (P := P) (w := w) a (ns.map (Value.int .u8)) hcell
      rw [List.length_map] at this
      exact run_bytesToString w _ _ _ ns this
     rcases hsrc.at_ with ⟨h0, a, c, rfl⟩ | ⟨a, c, news, rfl, hnl, hat, hr⟩
     ·have : ns = [] := by simpa using h0
      subst this
      cases a with
      | none =>
       rw [run_convert_bytes_string w src dst _ none 0 c h1 h3 h2]
       simp [Conv.bytesToString, bstr]
      | some a => exact key a c (by simp)
     ·rw [List.length_map]
      refine key a c fun j v hj => ?_
      have h5 : (flat (ns.map fun n => PV.v (.int .u8 n)))[j]? = some (PV.v v) := by
       rw [flat_ints, List.getElem?_map]
       rw [List.getElem?_map] at hj
       cases hj2 : ns[j]? with
       | none => rw [hj2] at hj; cases hj
       | some n => rw [hj2] at hj; injection hj with hj; subst hj; rfl
      obtain ⟨u, hu, hru, _⟩ := hr j _ h5
      have e2 : u = v := by cases hru; rfl
      subst e2
      exact hat j u hu
    ·cases hbt
   ·cases hbt
  ·obtain ⟨av, v, h1, h2, h3⟩ := wpConv_sound hT h hx
   exact ⟨av, v, h1, h2, h3 w⟩
 ·obtain ⟨av, v, h1, h2, h3⟩ := wpConv_sound hT h hx
  exact ⟨av, v, h1, h2, h3 w⟩
end
end Go.Abs
namespace Go.Abs
open Go.RowKit
section
variable {P : Program} {ti : TypeId -> Option TI} {H : AH} {m : Nat -> Value} {S : Nat -> Prop} {w : World}
theorem Stp.view (hp : Hp P H m S w) {id : Nat} {o o' : AO} (hl : live H id o) (hnb : ∀ e nl xs, o' ≠ .buf e nl xs) (hok : ∀ H', Older H H' m m -> OK P H m S w (m id) o -> OK P H' m S w (m id) o') (hb : ∀ b, Own w (m id) o' b -> Own w (m id) o b) (hbL : ∀ e xs l, o' = .bufL e xs l -> ∃ l0, o = .bufL e xs l0 := by intro _ _ _ h; cases h) (hbR : ∀ e, o'.row = some e -> o.row = some e := by intro _ h; first | exact h | cases h) :
  Stp P H m S w (H.set id (some o')) m S w := by
 have hold : Older H (H.set id (some o')) m m := older_set hl (fun e nl xs he => absurd he (hnb e nl xs)) hbL hbR
 refine Stp.at_ (fun j => j = id) hp hold (fun j p hj hlp => ?_) rfl rfl rfl (Nat.le_refl _) (fun _ _ _ => rfl) (fun j p hj hlp _ => ?_) (fun j p b hj hlp hbb => ?_) (fun i j _ _ _ hi hj _ _ _ _ => hi.trans hj.symm)
 ·rcases live_set hlp with ⟨rfl, _⟩ | ⟨_, hl'⟩
  ·exact absurd rfl hj
  ·exact ⟨hl', rfl⟩
 ·subst hj
  rcases live_set hlp with ⟨_, he⟩ | ⟨hne, _⟩
  ·injection he with he
   subst he
   exact hok _ hold (hp.obj j o hl)
  ·exact absurd rfl hne
 ·subst hj
  rcases live_set hlp with ⟨_, he⟩ | ⟨hne, _⟩
  ·injection he with he
   subst he
   exact .inl ⟨j, o, rfl, hl, hb b hbb⟩
  ·exact absurd rfl hne
theorem OK.arr_of {H' : AH} {mv : Value} {xs : List PV} (h : OK P H m S w mv (.cells (xs.map AV.p))) : OK P H' m S w mv (.arr xs) := by
 obtain ⟨b, T, vs, h1, h2, h3, h4⟩ := h
 refine ⟨b, T, vs, h1, h2, by rw [List.length_map] at h3; exact h3, fun k c hk => ?_⟩
 obtain ⟨h5, h6⟩ := h4 k (.p c) (by rw [List.getElem?_map, hk]; rfl)
 cases h5 with | p _ _ h => exact ⟨h, h6⟩
theorem OK.cells_of {H' : AH} {mv : Value} {xs : List PV} (h : OK P H m S w mv (.arr xs)) : OK P H' m S w mv (.cells (xs.map AV.p)) := by
 obtain ⟨b, T, vs, h1, h2, h3, h4⟩ := h
 refine ⟨b, T, vs, h1, h2, by rw [List.length_map]; exact h3, fun k c hk => ?_⟩
 rw [List.getElem?_map, Option.map_eq_some_iff] at hk
 obtain ⟨y, hy, rfl⟩ := hk
 obtain ⟨h5, h6⟩ := h4 k y hy
 exact ⟨.p _ _ h5, h6⟩
theorem Stp.toCells (hp : Hp P H m S w) {id : Nat} {xs : List PV} (hl : live H id (.arr xs)) : Stp P H m S w (H.set id (some (.cells (xs.map AV.p)))) m S w :=
 Stp.view hp hl (fun _ _ _ => by simp) (fun _ _ h => h.cells_of) (fun b h => by exact own_to h rfl rfl rfl)
theorem Stp.toArr (hp : Hp P H m S w) {id : Nat} {xs : List PV} (hl : live H id (.cells (xs.map AV.p))) : Stp P H m S w (H.set id (some (.arr xs))) m S w :=
 Stp.view hp hl (fun _ _ _ => by simp) (fun _ _ h => h.arr_of) (fun b h => by exact own_to h rfl rfl rfl)
theorem live_at {H : AH} {id : Nat} {o : AO} (h : id < H.length) : live (H.set id (some o)) id o := by
 unfold live; rw [List.getElem?_set_self h]
theorem live_lt {H : AH} {id : Nat} {o : AO} (h : live H id o) : id < H.length := (List.getElem?_eq_some_iff.1 h).1
theorem Stp.retireO (hp : Hp P H m S w) {id b : Nat} {o : AO} (hl : live H id o) (ho : o.isMap = false) (hb : Own w (m id) o b) :
  Stp P H m S w (H.set id none) m (fun c => S c \/ c = b) w := by
 have hlive : ∀ {j : Nat} {o : AO}, live (H.set id none) j o -> j ≠ id /\ live H j o := by
  intro j o h
  rcases live_set h with ⟨_, h⟩ | h
  ·cases h
  ·exact h
 have hold : Older H (H.set id none) m m := ⟨by simp, fun j _ o h => ⟨rfl, o, (hlive h).2, fun e nl xs he => ⟨nl, xs, he, Nat.le_refl _⟩, fun _ _ l he => ⟨l, he⟩, fun _ h => h⟩⟩
 refine ⟨hold, ⟨fun j o h => OK.mono (fun _ _ => rfl) (fun _ h => .inl h) hold (hp.obj j o (hlive h).2) fun _ _ => rfl, fun i j oi oj c hi hj => hp.inj i j oi oj c (hlive hi).2 (hlive hj).2, fun c hc => ?_, fun j o c h hb' hc => ?_, hp.glb.mono (fun _ _ => rfl) fun _ h => .inl h⟩,
  fun _ _ => rfl, fun _ h => .inl h, rfl, rfl, rfl, Nat.le_refl _, fun _ _ _ => rfl, fun c hc => ?_, fun c hc => ?_, fun c hc => ?_⟩
 ·rcases hc with hc | rfl
  ·exact hp.sub c hc
  ·exact (hp.obj id _ hl).blk_lt hb
 ·rcases hc with hc | rfl
  ·exact hp.out j o c (hlive h).2 hb' hc
  ·exact (hlive h).1 (hp.inj j id o _ c (hlive h).2 hl hb' hb)
 ·rcases hc with hc | rfl
  ·exact .inl hc
  ·exact .inr (.inl ⟨id, _, hl, hb⟩)
 ·obtain ⟨j, o, h1, h2⟩ := hc
  exact .inl ⟨j, o, (hlive h1).2, h2⟩
 ·rcases hc with hc | rfl
  ·exact .inl hc
  ·exact .inr ((hp.obj id _ hl).isC hb ho)
def bigAr (i : TI) : Bool := match i.k with
 | .ar n _ => Nat.ble 16 n
 | _ => false
def zeroP (i : TI) : List PV := i.zero.cells.toList.map ofCell
theorem zeroP_eq (i : TI) : zeroCells i = (zeroP i).map AV.p := by unfold zeroCells zeroP; rw [List.map_map]; rfl
theorem Stp.newArr (hp : Hp P H m S w) {t : TypeId} {i : TI} (hi : tiOf P t = some i) :
  Stp P H m S w (H ++ [some (.arr (zeroP i))]) (upd m H.length (.pointer (some ⟨w.heap.size, 0, none⟩))) S (w.alloc (.cells i.zero.cells t)) /\
  Rd P (H ++ [some (.arr (zeroP i))]) (upd m H.length (.pointer (some ⟨w.heap.size, 0, none⟩))) S (w.alloc (.cells i.zero.cells t)) (.ptr H.length 0) (.pointer (some ⟨w.heap.size, 0, none⟩)) := by
 have h1 := (Stp.newCells hp (zero_rdl (H := H) (m := m) (S := S) (w := w) hi) t).1
 rw [zeroP_eq] at h1
 have hl : live (H ++ [some (AO.cells ((zeroP i).map AV.p))]) H.length (.cells ((zeroP i).map AV.p)) := by unfold live; simp
 have h2 := h1.trans (Stp.toArr h1.hp hl)
 have e : (H ++ [some (AO.cells ((zeroP i).map AV.p))]).set H.length (some (.arr (zeroP i))) = H ++ [some (.arr (zeroP i))] := by
  rw [List.set_append_right _ _ (Nat.le_refl _)]; simp
 rw [e] at h2
 exact ⟨h2, .ptr _ _ _ (by simp) fun o hl => ⟨w.heap.size, if_pos rfl, rfl⟩⟩
inductive CellS (xs : List PV) (off : Nat) (y : PV) (k : List PV -> Prop) : Prop
 | mk (n : Nat) (zs : List PV) (hn : off = n) (h : n < xs.length) (e : xs.set n y = zs) (hk : k zs)
theorem setAt_map : ∀ (ys : List PV) (xs : List PV) (off : Nat), off + ys.length <= xs.length -> setAt (xs.map AV.p) off (ys.map AV.p) = ((xs.take off) ++ ys ++ xs.drop (off + ys.length)).map AV.p
 | [], xs, off, _ => by simp [setAt]
 | y :: r, xs, off, h => by
  have h2 : off + (r.length + 1) <= xs.length := h
  show setAt ((xs.map AV.p).set off (.p y)) (off + 1) (r.map AV.p) = _
  have e : (xs.map AV.p).set off (.p y) = (xs.set off y).map AV.p := by rw [List.map_set]
  rw [e, setAt_map r (xs.set off y) (off + 1) (by rw [List.length_set]; omega)]
  congr 1
  rw [List.take_set, List.drop_set_of_lt (by omega), List.take_succ_eq_append_getElem (by omega), List.set_append_right _ _ (by rw [List.length_take]; omega)]
  have : off - (xs.take off).length = 0 := by rw [List.length_take]; omega
  rw [this]
  simp [Nat.add_assoc, Nat.add_comm 1]
theorem Stp.storeArr (hp : Hp P H m S w) {t : TypeId} {i : TI} (hi : tiOf P t = some i) {id off : Nat} {xs ys : List PV} (hH : live H id (.arr xs)) {x : AV} {v : Value} (hx : Rd P H m S w x v) (hc : x.cells = ys.map AV.p) (h1 : x.cells.all AV.one = true) (hxl : x.cells.length = i.size)
  (hle : off + ys.length <= xs.length) {va : Value} (ha : Rd P H m S w (.ptr id off) va) :
  ∃ w', (Instr.storeAt t va v).run P w = .ok () w' /\ Stp P H m S w (H.set id (some (.arr (xs.take off ++ ys ++ xs.drop (off + ys.length))))) m S w' := by
 have hid := live_lt hH
 have g1 := Stp.toCells hp hH
 have hyl : ys.length = i.size := by rw [<- hxl, hc, List.length_map]
 obtain ⟨w', g2, g3⟩ := Stp.storeCells g1.hp hi (live_at hid) (hx.mono g1.keeps g1.sub g1.old) h1 hxl (by rw [List.length_map]; omega) (ha.mono g1.keeps g1.sub g1.old)
 rw [hc, setAt_map _ _ _ hle, List.set_set] at g3
 have g4 := (g1.trans g3).trans (Stp.toArr g3.hp (live_at hid))
 rw [List.set_set] at g4
 exact ⟨w', g2, g4⟩
def wpStoreArr (i : TI) (H : AH) (id off : Nat) (xs : List PV) (x : AV) (k : AV -> AH -> Prop) : Prop := match i.k.isAgg with
 | false => match x with
  | .p y => match y.one && Nat.beq i.size 1 with
   | true => CellS xs off y fun zs => k .dead (H.set id (some (.arr zs)))
   | false => False
  | _ => False
 | true => match off, x with
  | 0, .p (.agg ys) => WholeA ys i.size (WholeA xs i.size (k .dead (H.set id (some (.arr ys)))))
  | _, _ => False
theorem one_cells {y : PV} (h : y.one = true) : y.cells = [y] := by
 cases y with
 | v x => rfl
 | list nl xs => rfl
 | agg cs => cases h
theorem agg_one {ys : List PV} {v : Value} (h : RdP S w (.agg ys) v) : (ys.map AV.p).all AV.one = true := by
 cases h with
 | agg _ vs hl ho hr =>
  rw [List.all_eq_true]
  intro c hc
  obtain ⟨y, hy, rfl⟩ := List.mem_map.1 hc
  obtain ⟨k, hk, rfl⟩ := List.getElem_of_mem hy
  have h1 := hr k _ (List.getElem?_eq_getElem hk)
  have h2 := ho k _ (List.getElem?_eq_getElem hk)
  generalize ys[k] = y at h1 ⊢
  generalize vs.getD k undef = u at h1 h2
  cases y with
  | v x => rfl
  | list nl xs => rfl
  | agg cs =>
   cases h1 with
   | agg _ us => cases h2
theorem wpStoreArr_sound (hp : Hp P H m S w) {t : TypeId} {i : TI} (hi : tiOf P t = some i) {id off : Nat} {xs : List PV} (hH : live H id (.arr xs)) {x : AV} {v va : Value} {k : AV -> AH -> Prop} (h : wpStoreArr i H id off xs x k) (hx : Rd P H m S w x v) (ha : Rd P H m S w (.ptr id off) va) :
  ∃ H' w', k .dead H' /\ (Instr.storeAt t va v).run P w = .ok () w' /\ Stp P H m S w H' m S w' := by
 unfold wpStoreArr at h
 split at h
 ·split at h
  ·rename_i y
   split at h
   ·rename_i hc
    simp only [Bool.and_eq_true] at hc
    obtain ⟨hy1, hs⟩ := hc
    have hs := Nat.eq_of_beq_eq_true hs
    obtain ⟨n, zs, rfl, hlt, rfl, hk⟩ := h
    have hcl : (AV.p y).cells = [y].map AV.p := by cases y with
     | v x => rfl
     | list nl xs => rfl
     | agg cs => cases hy1
    have hone : ((AV.p y).cells).all AV.one = true := by
     rw [hcl]; cases y with
     | v x => rfl
     | list nl xs => rfl
     | agg cs => cases hy1
    obtain ⟨w', g1, g2⟩ := Stp.storeArr (ys := [y]) (off := off) hp hi hH hx hcl hone (by rw [hcl, hs]; rfl) hlt ha
    refine ⟨_, w', hk, g1, ?_⟩
    have e : xs.set off y = xs.take off ++ [y] ++ xs.drop (off + [y].length) := by
     rw [List.set_eq_take_append_cons_drop, if_pos hlt]; simp
    rw [e]
    exact g2
   ·cases h
  ·cases h
 ·split at h
  ·rename_i ys
   obtain ⟨h1, h2, hk⟩ := h
   have hcl : (AV.p (.agg ys)).cells = ys.map AV.p := rfl
   have h1one : ((AV.p (.agg ys)).cells).all AV.one = true := by
    rw [hcl]
    cases hx with | p _ _ h => exact agg_one h
   obtain ⟨w', g1, g2⟩ := Stp.storeArr (ys := ys) (off := 0) hp hi hH hx hcl h1one (by rw [hcl, List.length_map]; exact h1) (by omega) ha
   refine ⟨_, w', hk, g1, ?_⟩
   have e : xs.take 0 ++ ys ++ xs.drop (0 + ys.length) = ys := by
    rw [List.drop_eq_nil_of_le (by omega)]; simp
   rw [e] at g2
   exact g2
  ·cases h
theorem Stp.trunc (hp : Hp P H m S w) {id : Nat} {e : TypeId} {nl : Bool} {xs : List PV} (hl : live H id (.buf e nl xs)) {a : Option Addr} {c h : Nat} (hm : m id = .slice a xs.length c) (hh : h <= xs.length) :
  Stp P H m S w (H.set id none ++ [some (.buf e nl (xs.take h))]) (upd m H.length (.slice a h c)) S w := by
 have hid : id < H.length := (List.getElem?_eq_some_iff.1 hl).1
 have hlen : (H.set id none).length = H.length := by simp
 have hnot : ∀ {o}, ¬ live (H.set id none) id o := fun {o} h => by
  rcases live_set h with ⟨_, he⟩ | ⟨hne, _⟩
  ·cases he
  ·exact hne rfl
 have hup : upd m H.length (.slice a h c) H.length = .slice a h c := if_pos rfl
 have hlv : ∀ {j o}, live (H.set id none ++ [some (.buf e nl (xs.take h))]) j o -> (j = H.length /\ o = .buf e nl (xs.take h)) \/ (j ≠ id /\ j < H.length /\ live H j o) := fun {j o} h1 => by
  rcases live_push h1 with ⟨h2, h3⟩ | ⟨h2, h3⟩
  ·exact .inl ⟨by rw [h2, hlen], h3⟩
  ·rcases live_set h3 with ⟨_, he⟩ | ⟨hne, h4⟩
   ·cases he
   ·exact .inr ⟨hne, by omega, h4⟩
 have hold : Older H (H.set id none ++ [some (.buf e nl (xs.take h))]) m (upd m H.length (.slice a h c)) := by
  refine Older.trans (H' := H.set id none) (m' := m) ⟨by simp, fun j hj o' h => ⟨rfl, o', (by rcases live_set h with ⟨_, he⟩ | ⟨_, h⟩; cases he; exact h), fun _ _ _ e => ⟨_, _, e, Nat.le_refl _⟩, fun _ _ l e => ⟨l, e⟩, fun _ h => h⟩⟩ ?_
  have := older_push (H := H.set id none) (m := m) (.buf e nl (xs.take h)) (.slice a h c)
  rw [hlen] at this
  exact this
 obtain ⟨inf, us, hinf, hsz, ho, hz, hr, hn⟩ := hp.obj id _ hl
 refine Stp.at_ (fun j => j = id \/ j = H.length) hp hold (fun j o hj h1 => ?_) rfl rfl rfl (Nat.le_refl _) (fun _ _ _ => rfl) (fun j o hj h1 _ => ?_) (fun j o b hj h1 hb => ?_) (fun i j _ _ _ hi hj h1 h2 _ _ => ?_)
 ·rcases hlv h1 with ⟨rfl, _⟩ | ⟨h2, h3, h4⟩
  ·exact absurd (.inr rfl) hj
  ·exact ⟨h4, if_neg (by omega)⟩
 ·rcases hlv h1 with ⟨rfl, rfl⟩ | ⟨h2, h3, h4⟩
  ·rw [hup]
   have hfl : flat xs = flat (xs.take h) ++ flat (xs.drop h) := by
    unfold flat
    rw [<- List.flatMap_append, List.take_append_drop]
   have htl : (xs.take h).length = h := by rw [List.length_take]; omega
   have hfl2 : (flat (xs.take h)).length = h * inf.size := by rw [flat_length (sz := inf.size) (fun x hx => hz x (List.mem_of_mem_take hx)), htl]
   refine ⟨inf, us.take (h * inf.size), hinf, hsz, ⟨?_, ?_⟩, fun x hx => hz x (List.mem_of_mem_take hx), fun k c2 hk => ?_, ?_⟩
   ·have : h * inf.size <= xs.length * inf.size := Nat.mul_le_mul_right _ hh
    rw [List.length_take, ho.1, htl]; omega
   ·rw [htl]
    rcases ho.2 with ⟨hv, h0⟩ | ⟨g, cap, cur, hv, h0, hh2, hc, hcm, hcs, htk⟩
    ·rw [hm] at hv
     injection hv with e1 e2 e3
     exact .inl ⟨by rw [e1, e3, show h = 0 by omega], by omega⟩
    ·rw [hm] at hv
     injection hv with e1 e2 e3
     refine .inr ⟨g, cap, cur, by rw [e1, e3], h0, hh2, by omega, hcm, hcs, ?_⟩
     rw [<- htk, List.take_take]
     congr 1
     have : h * inf.size <= xs.length * inf.size := Nat.mul_le_mul_right _ hh
     omega
   ·have hkl : k < h * inf.size := by rw [<- hfl2]; exact (List.getElem?_eq_some_iff.1 hk).1
    obtain ⟨u, h5, h6, h7⟩ := hr k c2 (by rw [hfl, List.getElem?_append_left (by omega)]; exact hk)
    exact ⟨u, by rw [List.getElem?_take, if_pos hkl]; exact h5, h6, h7⟩
   ·rw [hn, hm]
    constructor
    ·intro e
     injection e with e1 e2 e3
     rw [e1, e3, show h = 0 by omega]
    ·intro e
     injection e with e1 e2 e3
     rcases ho.2 with ⟨hv, h0⟩ | ⟨g, cap, cur, hv, _⟩
     ·rw [hm] at hv; exact hv
     ·rw [hm, e1] at hv; injection hv with e4; cases e4
  ·rcases hj with rfl | rfl
   ·exact absurd rfl h2
   ·omega
 ·rcases hlv h1 with ⟨rfl, rfl⟩ | ⟨h2, h3, h4⟩
  ·rw [hup] at hb
   refine .inl ⟨id, _, .inl rfl, hl, ?_⟩
   rw [hm]
   refine .inl ?_
   show (Value.slice a xs.length c).ownBlock = some b
   have hb : (Value.slice a h c).ownBlock = some b := (own_iff rfl).1 hb
   cases a with
   | none => exact hb
   | some x => exact hb
  ·rcases hj with rfl | rfl
   ·exact absurd rfl h2
   ·omega
 ·rcases hlv h1 with ⟨e1, _⟩ | ⟨g1, g2, _⟩ <;> rcases hlv h2 with ⟨e2, _⟩ | ⟨g3, g4, _⟩
  ·exact e1.trans e2.symm
  ·rcases hj with rfl | rfl
   ·exact absurd rfl g3
   ·omega
  ·rcases hi with rfl | rfl
   ·exact absurd rfl g1
   ·omega
  ·rcases hi with rfl | rfl
   ·exact absurd rfl g1
   ·omega
inductive CutO (X Y : Prop) : Prop
 | part (h : X) : CutO X Y
 | own (h : Y) : CutO X Y
def wpTrunc (ti : TypeId -> Option TI) (H : AH) (t : TypeId) (id : Nat) (lo hi mx : Option AV) (k : AV -> AH -> Prop) : Prop := match lo, hi, mx with
 | none, some h, none => match ti t with
  | some ⟨.sl e, _, _, _⟩ => match ti e with
   | some _ => match H[id]?, asI h with
    | some (some (.buf e' nl xs)), some h => match Nat.beq e e' with
     | true => (0 <= h /\ h <= (xs.length : Int)) /\ IsL (xs.take h.toNat) fun ys => k (.buf H.length) (H.set id none ++ [some (.buf e nl ys)])
     | false => False
    | _, _ => False
   | none => False
  | _ => False
 | _, _, _ => False
theorem wpTrunc_sound (hT : TabOK P ti) (hp : Hp P H m S w) {t : TypeId} {id : Nat} {lo hi mx : Option AV} {k : AV -> AH -> Prop} {vx : Value} {vlo vhi vmx : Option Value} (h : wpTrunc ti H t id lo hi mx k) (hx : Rd P H m S w (.buf id) vx)
  (hlo : lo = none /\ vlo = none \/ ∃ b v, lo = some b /\ vlo = some v /\ Rd P H m S w b v) (hhi : hi = none /\ vhi = none \/ ∃ b v, hi = some b /\ vhi = some v /\ Rd P H m S w b v) (hmx : mx = none /\ vmx = none \/ ∃ b v, mx = some b /\ vmx = some v /\ Rd P H m S w b v) :
  ∃ av H' m' S' v, k av H' /\ (Instr.sliceAt t vx vlo vhi vmx).run P w = .ok v w /\ Stp P H m S w H' m' S' w /\ Rd P H' m' S' w av v := by
 unfold wpTrunc at h
 split at h
 ·rename_i h'
  split at h
  ·rename_i e _ _ _ hti
   split at h
   ·rename_i ie hie
    split at h
    ·rename_i e' nl xs hq hH hI
     split at h
     ·rename_i hbe
      obtain rfl := Nat.eq_of_beq_eq_true hbe
      obtain ⟨⟨h0, h1⟩, ys, rfl, hk⟩ := h
      rcases hlo with ⟨_, rfl⟩ | ⟨b, v, hb, _⟩
      rotate_left
      ·cases hb
      rcases hmx with ⟨_, rfl⟩ | ⟨b, v, hb, _⟩
      rotate_left
      ·cases hb
      rcases hhi with ⟨hb, _⟩ | ⟨b, v, hb, rfl, hrv⟩
      ·cases hb
      injection hb with hb
      subst hb
      obtain ⟨kd, rfl⟩ := asI_eq hI hrv
      have hu := slice_of (hT.ok _ _ hti) rfl
      obtain ⟨inf, hinf, hs⟩ := size_of (hT.ok _ _ hie)
      obtain ⟨a, c, hm, _, hlc, _⟩ := buf_form hp hH
      have hv := hx.bufAt hH
      rw [hm] at hv
      subst hv
      have hbd := bd_of (P := P) (lo := none) (hi := some (.int kd hq)) (ho := some hq) (l := 0) (.inl ⟨rfl, rfl⟩) (.inr ⟨kd, hq, rfl, rfl⟩) ⟨Int.le_refl _, h0, h1⟩ hlc
      have hst := Stp.trunc hp hH hm (h := hq.toNat) (by omega)
      refine ⟨_, _, _, _, .slice a hq.toNat c, hk, ?_, hst, ?_⟩
      ·have hrun := run_cut_slice (P := P) (a := a) hu hinf hbd w
       rw [hrun]
       congr 2
       ·split
        ·rfl
        ·cases a with
         | none => rfl
         | some x => show some (x.add (0 * inf.size)) = some x; rw [Nat.zero_mul]; rfl
      ·refine .buf _ _ _ _ (by simp) fun o hl2 => ?_
       have : upd m H.length (.slice a hq.toNat c) H.length = .slice a hq.toNat c := if_pos rfl
       exact this
     ·cases h
    ·cases h
   ·cases h
  ·cases h
 ·cases h
def wpCutArr (ti : TypeId -> Option TI) (H : AH) (t : TypeId) (x : AV) (lo hi mx : Option AV) (k : AV -> AH -> Prop) : Prop := match x with
 | .ptr id 0 => match ti t, lo, hi, mx with
  | some ⟨.ar n e, _, _, _⟩, none, some h, none => match H[id]?, asI h, ti e with
   | some (some (.arr xs)), some h, some ⟨_, 1, _, _⟩ => (0 <= h /\ h <= n /\ n <= 65536) /\ WholeA xs n (k (.p (.list false (xs.take h.toNat))) (H.set id none))
   | _, _, _ => False
  | _, _, _, _ => False
 | .p (.list nl xs) => match lo, hi, mx, ti t with
  | none, some h, some m, some ⟨.sl e, _, _, _⟩ => match asI h, asI m, ti e with
   | some h, some m, some _ => (h = m /\ 0 <= h /\ h <= (xs.length : Int)) /\ IsL (xs.take h.toNat) fun ys => k (.cap nl ys) H
   | _, _, _ => False
  | lo, hi, mx, _ => wpSlice ti H t (.p (.list nl xs)) lo hi mx fun v => k v H
 | .buf id => CutO (wpSlice ti H t (.buf id) lo hi mx fun v => k v H) (wpTrunc ti H t id lo hi mx k)
 | x => wpSlice ti H t x lo hi mx fun v => k v H
theorem ar_of' {t : TypeId} {i : TI} {n : Nat} {e : TypeId} (hi : tiOf P t = some i) (hk : i.k = .ar n e) : P.underlying t = some (.array n e) := by
 obtain ⟨inf, d, _, hd, _, _, _, hkd, _⟩ := tiOf_spec hi
 rw [hk] at hkd
 cases d <;> simp [kindOf] at hkd
 obtain ⟨rfl, rfl⟩ := hkd
 exact hd
theorem one_flat : ∀ {xs : List PV}, (∀ x ∈ xs, x.one = true) -> flat xs = xs
 | [], _ => rfl
 | x :: r, h => by
  show x.cells ++ flat r = _
  rw [one_cells (h x (List.mem_cons_self ..)), one_flat fun y hy => h y (List.mem_cons_of_mem _ hy)]; rfl
theorem one_of {y : PV} {u : Value} (h : RdP S w y u) (h1 : u.oneCell' = true) : y.one = true := by
 cases h with
 | v x _ => rfl
 | nil => rfl
 | list => rfl
 | agg => cases h1
theorem wpCutArr_sound (hT : TabOK P ti) (hp : Hp P H m S w) {t : TypeId} {x : AV} {lo hi mx : Option AV} {k : AV -> AH -> Prop} {vx : Value} {vlo vhi vmx : Option Value} (h : wpCutArr ti H t x lo hi mx k) (hx : Rd P H m S w x vx)
  (hlo : lo = none /\ vlo = none \/ ∃ b v, lo = some b /\ vlo = some v /\ Rd P H m S w b v) (hhi : hi = none /\ vhi = none \/ ∃ b v, hi = some b /\ vhi = some v /\ Rd P H m S w b v) (hmx : mx = none /\ vmx = none \/ ∃ b v, mx = some b /\ vmx = some v /\ Rd P H m S w b v)
  (hsl : ∀ {k' : AV -> Prop}, wpSlice ti H t x lo hi mx k' -> ∃ av v, k' av /\ Rd P H m S w av v /\ (Instr.sliceAt t vx vlo vhi vmx).run P w = .ok v w) :
  ∃ av H' m' S' v, k av H' /\ (Instr.sliceAt t vx vlo vhi vmx).run P w = .ok v w /\ Stp P H m S w H' m' S' w /\ Rd P H' m' S' w av v := by
 unfold wpCutArr at h
 split at h
 ·rename_i id
  split at h
  ·rename_i n e _ _ _ hv hti
   split at h
   ·rename_i xs h' _ _ _ hH hI hte
    obtain ⟨⟨h0, h1, h2⟩, hlen, hk⟩ := h
    rcases hlo with ⟨_, rfl⟩ | ⟨b, v, hb, _⟩
    rotate_left
    ·cases hb
    rcases hmx with ⟨_, rfl⟩ | ⟨b, v, hb, _⟩
    rotate_left
    ·cases hb
    rcases hhi with ⟨hb, _⟩ | ⟨b, v, hb, rfl, hrv⟩
    ·cases hb
    injection hb with hb
    subst hb
    obtain ⟨kd, rfl⟩ := asI_eq hI hrv
    obtain ⟨b, T, vs, hm1, hh, hl, hr⟩ := hp.obj id _ hH
    cases hx with
    | ptr _ _ a hid hpt =>
     obtain ⟨b', hm2, rfl⟩ := hpt _ hH
     rw [hm1] at hm2
     obtain rfl : b = b' := by injection hm2 with h2; injection h2 with h2; injection h2
     have hu := ar_of' (hT.ok _ _ hti) rfl
     obtain ⟨inf, d, hinf, _⟩ := tiOf_spec (hT.ok _ _ hte)
     have hst := Stp.retireO hp hH rfl (b := b) (.inl (by rw [hm1]; rfl))
     obtain ⟨_, hrun⟩ := bd_of (P := P) (len := n) (cap := n) (l := 0) (ho := some h') (lo := none) (hi := some (.int kd h')) (.inl ⟨rfl, rfl⟩) (.inr ⟨kd, h', rfl, rfl⟩) ⟨Int.le_refl _, h0, h1⟩ (Nat.le_refl _)
     have hone : ∀ y ∈ xs.take h'.toNat, y.one = true := fun y hy => by
      obtain ⟨j, hj, rfl⟩ := List.getElem_of_mem (List.mem_of_mem_take hy)
      obtain ⟨g1, g2⟩ := hr j _ (List.getElem?_eq_getElem hj)
      exact one_of g1 g2
     have htl : (xs.take h'.toNat).length = h'.toNat := by rw [List.length_take]; omega
     refine ⟨_, _, _, _, .slice (some ⟨b, 0, none⟩) (xs.take h'.toNat).length n, hk, ?_, hst, .p _ _ (.list _ _ n 1 (fun j => vs.getD j undef) (fun _ => .inr rfl) (by rw [htl]; omega) (by simp only [maxLen]; omega) (fun y hy => by rw [one_cells (hone y hy)]; rfl) (fun j c hj => ?_) fun j c hj => ?_)⟩
     ·simp [Instr.sliceAt, run_underlying hu, Instr.sureAddr, hrun w rfl, sizeOf, typeInfo, hinf, htl, Addr.add]
     ·rw [one_flat hone, List.getElem?_take] at hj
      split at hj
      ·obtain ⟨_, g2⟩ := hr j c hj
       have hlt : j < vs.size := Nat.lt_of_lt_of_le (List.getElem?_eq_some_iff.1 hj).1 hl
       refine ⟨?_, g2⟩
       rw [add_lit, cell_at hh, Nat.zero_add]
       simp [Array.getD, hlt]
      ·cases hj
     ·rw [one_flat hone, List.getElem?_take] at hj
      split at hj
      ·exact (hr j c hj).1.mono (fun _ _ => rfl) (fun _ h => .inl h)
      ·cases hj
   ·cases h
  ·cases h
 ·split at h
  ·rename_i e _ _ _ hti
   split at h
   ·rename_i h1 m1 _ hI1 hI2 hte
    obtain ⟨⟨rfl, h0, h2⟩, _, rfl, hk⟩ := h
    rcases hlo with ⟨_, rfl⟩ | ⟨b, v, hb, _⟩
    rotate_left
    ·cases hb
    rcases hhi with ⟨hb, _⟩ | ⟨b, v, hb, rfl, hrv⟩
    ·cases hb
    injection hb with hb
    subst hb
    rcases hmx with ⟨hb, _⟩ | ⟨b, v, hb, rfl, hrv2⟩
    ·cases hb
    injection hb with hb
    subst hb
    obtain ⟨kd, rfl⟩ := asI_eq hI1 hrv
    obtain ⟨kd2, rfl⟩ := asI_eq hI2 hrv2
    have hu := slice_of (hT.ok _ _ hti) rfl
    obtain ⟨inf, d, hinf, _⟩ := tiOf_spec (hT.ok _ _ hte)
    cases hx with
    | p _ _ hr =>
     obtain ⟨a, c, rfl, _, hlc, _⟩ := Rd.listNil (P := P) (H := H) (m := m) (.p _ _ hr)
     exact ⟨_, H, m, S, _, hk, run_cap3 hu hinf h0 (by omega) w, Stp.refl hp, .cap _ _ _ _ (hr.take3 (by omega))⟩
   ·cases h
  ·obtain ⟨av, v, h1, h2, h3⟩ := hsl h
   exact ⟨av, H, m, S, v, h1, h3, Stp.refl hp, h2⟩
 ·cases h with
  | part h =>
   obtain ⟨av, v, h1, h2, h3⟩ := hsl h
   exact ⟨av, H, m, S, v, h1, h3, Stp.refl hp, h2⟩
  | own h => exact wpTrunc_sound hT hp h hx hlo hhi hmx
 ·obtain ⟨av, v, h1, h2, h3⟩ := hsl h
  exact ⟨av, H, m, S, v, h1, h3, Stp.refl hp, h2⟩
def strPV (b : ByteArray) : List PV := b.data.toList.map fun c => PV.v (.int .u8 c.toNat)
theorem strPV_length (b : ByteArray) : (strPV b).length = b.size := by
 rw [strPV, List.length_map, Array.length_toList]
 rfl
theorem appRun_string {t u ty e : TypeId} {i : TypeInfo} (ht : P.underlying t = some (.slice e)) (hu : P.underlying u = some .string) (hi : P.info? e = some i) (hz : i.zero = some (.int .u8 0)) (hsize : i.size = 1) (hby : i.bytes = 1)
  {v : Value} {n : Nat} {us : List Value} (ho : w.ownsRow 0 e i.size v n us) (b : ByteArray) (h63 : n + b.size <= maxLen) (hbytes : n + b.size <= 140737488355328) :
  AppRun P S w e i.size (Builtin.append_ #[t, u] ty #[v, .string b]) v n us (strPV b) := by
 rw [hsize] at ho ⊢
 have hsmall : n + b.size <= 9223372036854775807 := by simp only [maxLen] at h63; omega
 have hl := strPV_length b
 obtain ⟨v', w', h1, h2, h3, h4⟩ := Lib.run_append_own_string (P := P) w 0 t u ty e i ht hu hi hz hsize hby v n us ho b h63 hbytes (Nat.zero_le _)
 refine ⟨v', w', Lib.strCells b, h1, by rw [hl]; exact h2, h3, by rw [hl]; exact h4, ?_, fun k c hk => ?_⟩
 ·have hown := ho
  rcases ho.2 with ⟨rfl, rfl⟩ | ⟨g, cap, cur, rfl, hbg, hg, hnc, hcm, hcs, htake⟩
  ·by_cases hm : b.size = 0
   ·have := h4.2 ⟨rfl, hm⟩
    subst this
    exact .inl rfl
   ·have hr := run_append_nil_string (P := P) w t u ty e i (.int .u8 0) ht hu hi hz b (by omega) (by omega) (by rw [hby]; omega)
    rw [h1] at hr
    injection hr with hr _
    subst hr
    exact .inr rfl
  ·by_cases hroom : n + b.size <= cap
   ·have hr := Lib.run_append_room_string (P := P) w t u ty e i ht hu hi hsize g n cap cur hg b hroom (by omega)
    rw [h1] at hr
    injection hr with hr _
    subst hr
    exact .inl rfl
   ·have hxl : us.length = n := by simpa using hown.1
    have hr := Lib.run_append_grow_string (P := P) w t u ty e i (.int .u8 0) ht hu hi hz ⟨g, 0, none⟩ n cap us (by rw [hsize]; omega) (hown.cells (g := g) rfl) b (by omega) (by omega) (by rw [hby]; exact growslice_fits (by omega) (by omega))
    rw [h1] at hr
    injection hr with hr _
    subst hr
    exact .inr rfl
 ·have hf : flat (strPV b) = strPV b := by
   unfold strPV
   generalize b.data.toList = l
   unfold flat
   induction l with
   | nil => rfl
   | cons x r ih => rw [List.map_cons, List.flatMap_cons, ih]; rfl
  rw [hf, strPV, List.getElem?_map, Option.map_eq_some_iff] at hk
  obtain ⟨x, hx, rfl⟩ := hk
  refine ⟨.int .u8 x.toNat, ?_, .v _ rfl, rfl⟩
  rw [Lib.strCells, List.getElem?_map, hx]
  rfl
def wpAppS1 (H : AH) (e : TypeId) (ob : Option Nat) (nl : Bool) (xs : List PV) (b : ByteArray) (k : AV -> AH -> Prop) : Prop :=
 IsL (strPV b) fun ys => AppA xs ys 1 fun zs => k (.buf H.length) (kill H ob ++ [some (.buf e (ys.isEmpty && nl) zs)])
def wpAppS (ti : TypeId -> Option TI) (H : AH) (t t' : TypeId) (s x : AV) (k : AV -> AH -> Prop) : Prop := match ti t, ti t', x with
 | some ⟨.sl e, _, _, _⟩, some ⟨.str, _, _, _⟩, .p (.v (.string b)) => match ti e with
  | some ⟨_, 1, 1, .int .u8 (.ofNat 0)⟩ => match s with
   | .p (.list true []) => wpAppS1 H e none true [] b k
   | .buf id => match H[id]? with
    | some (some (.buf e' nl xs)) => match Nat.beq e e' with
     | true => wpAppS1 H e (some id) nl xs b k
     | false => False
    | _ => False
   | _ => False
  | _ => False
 | _, _, _ => False
theorem wpAppS_sound {ty : TypeId} (hT : TabOK P ti) (hp : Hp P H m S w) {t t' : TypeId} {s x : AV} {k : AV -> AH -> Prop} {vs vx : Value} (h : wpAppS ti H t t' s x k) (hs : Rd P H m S w s vs) (hx : Rd P H m S w x vx) :
  ∃ av H' m' S' v w', k av H' /\ (Builtin.append_ #[t, t'] ty #[vs, vx]).run P w = .ok v w' /\ Stp P H m S w H' m' S' w' /\ Rd P H' m' S' w' av v := by
 unfold wpAppS at h
 split at h
 ·rename_i e _ _ _ _ _ _ b hti hti'
  obtain ⟨rfl, _⟩ := hx.pv
  split at h
  ·rename_i tk hte
   have hu := slice_of (hT.ok _ _ hti) rfl
   have hu' := str_of (hT.ok _ _ hti') rfl
   obtain ⟨inf, d, hinf, hd, hz, hsz, hby, _, _, _⟩ := tiOf_spec (hT.ok _ _ hte)
   simp only at hsz hby hz
   have fin : ∀ {ob : Option Nat} {nl : Bool} {xs : List PV}, Base H m e ob vs nl xs -> wpAppS1 H e ob nl xs b k ->
     ∃ av H' m' S' v w', k av H' /\ (Builtin.append_ #[t, t'] ty #[vs, .string b]).run P w = .ok v w' /\ Stp P H m S w H' m' S' w' /\ Rd P H' m' S' w' av v := by
    intro ob nl xs hb h
    obtain ⟨_, rfl, _, rfl, ⟨h1, h2⟩, hk⟩ := h
    have hl := strPV_length b
    rw [List.length_append] at h1 h2
    obtain ⟨v', w', h3, h4, h5⟩ := Stp.appendCore hp hinf (by omega) hb (fun x hx => by
     simp only [strPV, List.mem_map] at hx
     obtain ⟨y, _, rfl⟩ := hx
     rw [hsz]
     rfl) fun us ho => appRun_string (ty := ty) (S := S) hu hu' hinf hz hsz hby ho b (by omega) (by omega)
    exact ⟨_, _, _, _, v', w', hk, h3, h4, h5⟩
   split at h
   ·exact fin (.inl ⟨rfl, hs.nilList, rfl, rfl⟩) h
   ·rename_i id
    split at h
    ·rename_i e' nl xs hH
     split at h
     ·rename_i hbe
      obtain rfl := Nat.eq_of_beq_eq_true hbe
      exact fin (.inr ⟨id, rfl, hH, hs.bufAt hH⟩) h
     ·cases h
    ·cases h
   ·cases h
  ·cases h
 ·cases h
def wpAppZ (ti : TypeId -> Option TI) (H : AH) (t t' : TypeId) (s x : AV) (k : AV -> AH -> Prop) : Prop := match s, asI x, ti t, ti t' with
 | .p (.list true []), some n, some ⟨.sl e, _, _, _⟩, some ⟨.int _, _, _, _⟩ => match ti e with
  | some ⟨_, _ + 1, by_, z⟩ => (0 < n /\ n * (by_ : Int) <= 281474976710656 /\ n <= 4611686018427387904) /\ IsL (List.replicate n.toNat (pz z)) fun ys => k (.buf H.length) (H ++ [some (.buf e false ys)])
  | _ => False
 | _, _, _, _ => wpAppS ti H t t' s x k
theorem wpAppZ_sound {ty : TypeId} (hT : TabOK P ti) (hp : Hp P H m S w) {t t' : TypeId} {s x : AV} {k : AV -> AH -> Prop} {vs vx : Value} (h : wpAppZ ti H t t' s x k) (hs : Rd P H m S w s vs) (hx : Rd P H m S w x vx) :
  ∃ av H' m' S' v w', k av H' /\ (Builtin.append_ #[t, t'] ty #[vs, vx]).run P w = .ok v w' /\ Stp P H m S w H' m' S' w' /\ Rd P H' m' S' w' av v := by
 unfold wpAppZ at h
 split at h
 ·rename_i n e _ _ _ kd _ _ _ hI hti hti'
  split at h
  ·rename_i ke sz0 by_ z hte
   obtain ⟨⟨h0, hb, hm⟩, ⟨_, rfl, hk⟩⟩ := h
   have hu := slice_of (hT.ok _ _ hti) rfl
   have hu' := int_of (hT.ok _ _ hti') rfl
   obtain ⟨inf, d, hinf, hd, hz, hsz, hby, _, hzs, hz1⟩ := tiOf_spec (hT.ok _ _ hte)
   simp only at hsz hby hz hzs hz1
   obtain ⟨kx, rfl⟩ := asI_eq hI hx
   have hvs : vs = .slice none 0 0 := by
    cases hs with
    | p _ _ h => cases h with
     | nil => rfl
   subst hvs
   obtain ⟨N, rfl⟩ : ∃ N : Nat, n = N := ⟨n.toNat, by omega⟩
   have hrun := Lib.run_append_nil_zeros (P := P) w t t' ty e inf z kx kd hu hu' hinf hz N (by omega) (by omega) (by omega) (by rw [hby]; have h5 : ((N * by_ : Nat) : Int) <= 281474976710656 := (by rw [Int.natCast_mul]; exact hb); omega)
   have hge := grownCap_ge w N 0 e
   have hle := grownCap_le_maxLen w N 0 e (by unfold maxLen; omega)
   generalize hcap : grownCap w N 0 e = cap at hrun hge hle
   have hcl : Stp P H m S w H m S w.drew := Stp.at_ (fun _ => False) hp (Older.refl _ _) (fun j o _ h => ⟨h, rfl⟩) rfl rfl rfl (Nat.le_refl _) (fun _ _ _ => rfl) (fun _ _ h => h.elim) (fun _ _ _ h => h.elim) (fun _ _ _ _ _ h => h.elim)
   have hpc : (pz z).cells.length = inf.size := by rw [pz_cells]; simp [hzs, hsz]
   have e2 : z.cells.size = inf.size := by omega
   have hcs : (Builtin.zeroCells z.cells N ++ Builtin.zeroCells z.cells (cap - N)).size = cap * inf.size := by
    rw [Array.size_append, size_zeroCells, size_zeroCells, e2, <- Nat.add_mul]
    congr 1
    omega
   have hnb := Stp.newBuf (P := P) (w := w.drew) (e := e) (i := inf) (xs := List.replicate N (pz z)) (cur := Builtin.zeroCells z.cells N ++ Builtin.zeroCells z.cells (cap - N)) (n := N) (cap := cap) hcl.hp hinf (by omega) (by simp) (by omega) (by omega) hcs
    (fun x hx => by rw [List.eq_of_mem_replicate hx]; exact hpc) (fun j c hk' => by
     obtain ⟨h1, h2⟩ := flat_replicate _ _ _ _ hk'
     rw [hpc] at h1 h2
     rw [pz_cells, List.getElem?_map, Option.map_eq_some_iff] at h1
     obtain ⟨u, hu1, rfl⟩ := h1
     have hml : j % inf.size < z.cells.size := by have := (List.getElem?_eq_some_iff.1 hu1).1; simpa using this
     have e1 : z.cells[j % inf.size] = u := by
      have := hu1
      simpa [hml] using this
     refine ⟨u, ?_, ?_, ?_⟩
     ·have e3 : z.cells[j % inf.size]! = u := by rw [getElem!_pos z.cells _ hml]; exact e1
      rw [Array.getElem?_append_left (by rw [size_zeroCells, e2]; exact h2)]
      simp [Builtin.zeroCells, e2, h2, e3]
     ·exact ofCell_sound (by rw [<- e1]; exact hz1 _ (Array.getElem_mem hml))
     ·rw [<- e1]; exact hz1 _ (Array.getElem_mem hml))
   exact ⟨_, _, _, _, _, _, hk, hrun, hcl.trans hnb.1, hnb.2⟩
  ·cases h
 ·exact wpAppS_sound hT hp h hs hx
end
end Go.Abs
namespace Go.Abs
open Go.RowKit
section
variable {P : Program} {ti : TypeId -> Option TI} {H : AH} {m : Nat -> Value} {S : Nat -> Prop} {w : World}
theorem Stp.storeL (hp : Hp P H m S w) {t : TypeId} {i : TI} (hi : tiOf P t = some i) {id off : Nat} {e : TypeId} {xs : List PV} {l : List AV} (hH : live H id (.bufL e xs l)) {x : AV} {v : Value} (hx : Rd P H m S w x v) (h1 : x.cells.all AV.one = true) (hxl : x.cells.length = i.size)
  (hle : off + i.size <= l.length) {va : Value} (ha : Rd P H m S w (.lptr id off) va) :
  ∃ w', (Instr.storeAt t va v).run P w = .ok () w' /\ Stp P H m S w (H.set id (some (.bufL e xs (setAt l off x.cells)))) m S w' := by
 obtain ⟨inf, g, cap, cur, hinf, hsz, hm, hh, hc1, hc2, hcs, hll, hz, hr1, hr2⟩ := bufL_form hp hH
 have hva : va = .pointer (some ⟨g, xs.length * inf.size + off, none⟩) := by
  cases ha with
  | lptr _ _ a hid hb =>
   obtain ⟨i2, g2, l0, c0, hi2, hm2, rfl⟩ := hb _ _ _ hH
   rw [hinf] at hi2
   injection hi2 with hi2
   subst hi2
   rw [hm] at hm2
   injection hm2 with h2; injection h2 with h2; injection h2 with h2
   subst h2
   rfl
 subst hva
 obtain ⟨hs, hc⟩ := hx.cells (one_or h1)
 have hoc : ∀ u ∈ v.cells.toList, u.oneCell' = true := by
  intro u hu
  obtain ⟨j, hj, rfl⟩ := List.mem_iff_getElem.1 hu
  have hj' : j < x.cells.length := by rw [<- hs]; simpa using hj
  have := (hc j _ (List.getElem?_eq_getElem hj')).2
  have hj2 : j < v.cells.size := by simpa using hj
  simpa [Array.getD, hj2] using this
 have hvl : v.cells.toList.length = i.size := by rw [Array.length_toList, hs, hxl]
 have hmul : (xs.length + 1) * inf.size <= cap * inf.size := Nat.mul_le_mul_right _ hc1
 have hsm : (xs.length + 1) * inf.size = xs.length * inf.size + inf.size := Nat.succ_mul _ _
 refine ⟨_, run_storeAt_of hi hh (by rw [hs, hxl]) hoc (by omega), ?_⟩
 have hle' : xs.length * inf.size + off + v.cells.toList.length <= cur.toList.length := by
  have : cur.toList.length = cur.size := by simp
  omega
 have hlen : (setAt l off x.cells).length = l.length := by
  have h3 := setAt_length off x.cells 0 l
  rwa [Nat.add_zero] at h3
 have hold : Older H (H.set id (some (.bufL e xs (setAt l off x.cells)))) m m := older_set hH (fun _ _ _ h => by cases h) fun e2 xs2 l2 h => by
  injection h with h1 h2 h3
  subst h1; subst h2
  exact ⟨_, rfl⟩
 refine Stp.store hp (o := .bufL e xs l) (T := e) (cur := cur) hH (.inl (by rw [hm]; rfl)) hh (fun _ _ _ h => by cases h) (fun b h => by exact own_to h rfl rfl rfl) (fun hk hh' => ?_) (fun e2 xs2 l2 h => by
  injection h with h1 h2 h3
  subst h1; subst h2
  exact ⟨_, rfl⟩)
 refine ⟨inf, ((Abs.splice cur.toList (xs.length * inf.size + off) v.cells.toList).take ((xs.length + 1) * inf.size)), hinf, hsz, ⟨?_, .inr ⟨g, cap, _, hm, Nat.zero_le _, hh', hc1, hc2, ?_, rfl⟩⟩, hz, by rw [hlen]; exact hll, fun k c hk' => ?_, fun k c hk' => ?_⟩
 ·rw [List.length_take, splice_length hle']
  show min _ cur.size = _
  omega
 ·show (Abs.splice _ _ _).length = _
  rw [splice_length hle', Array.length_toList, hcs]
 ·obtain ⟨u, hu, hru, hu1⟩ := hr1 k c hk'
  have hkl : k < xs.length * inf.size := by rw [<- flat_length hz]; exact (List.getElem?_eq_some_iff.1 hk').1
  refine ⟨u, ?_, hru.mono hk (fun _ h => h), hu1⟩
  rw [List.getElem?_take, if_pos (by omega), splice_out hle' (by omega)]
  exact hu
 ·rcases setAt_at x.cells off l k c hk' (by omega) with ⟨j, rfl, hj⟩ | ⟨hko, hkc⟩
  ·have hjl : j < v.cells.toList.length := by have := (List.getElem?_eq_some_iff.1 hj).1; omega
   have hj2 : j < v.cells.size := by simpa using hjl
   have h3 := hc j c hj
   have e2 : v.cells.getD j undef = v.cells[j] := by simp [Array.getD, hj2]
   rw [e2] at h3
   refine ⟨v.cells[j], ?_, h3.1.mono hk (fun _ h => h) hold, h3.2⟩
   rw [List.getElem?_take, if_pos (by omega), <- Nat.add_assoc, splice_in hle' hjl]
   simp [hj2]
  ·obtain ⟨u, hu, hru, hu1⟩ := hr2 k c hkc
   have hkl : k < l.length := (List.getElem?_eq_some_iff.1 hkc).1
   refine ⟨u, ?_, hru.mono hk (fun _ h => h) hold, hu1⟩
   rw [List.getElem?_take, if_pos (by omega), splice_out hle' (by omega)]
   exact hu
def moveH (H : AH) (id j g : Nat) (o : AO) (cs : List AV) : AH := ((H.set g none) ++ [some o]).set id (some (AO.cells (cs.set j (.buf H.length))))
theorem moveH_live {id j g : Nat} {o' : AO} {cs : List AV} {k : Nat} {o : AO} (hid : id < H.length) (h : live (moveH H id j g o' cs) k o) :
  (k = id /\ o = .cells (cs.set j (.buf H.length))) \/ (k = H.length /\ o = o') \/ (k ≠ id /\ k ≠ g /\ k < H.length /\ live H k o) := by
 unfold moveH at h
 rcases live_set h with ⟨rfl, he⟩ | ⟨hne, h⟩
 ·injection he with he
  exact .inl ⟨rfl, he.symm⟩
 ·rcases live_push h with ⟨h1, h2⟩ | ⟨h1, h2⟩
  ·rw [List.length_set] at h1
   exact .inr (.inl ⟨h1, h2⟩)
  ·rw [List.length_set] at h1
   rcases live_set h2 with ⟨_, he⟩ | ⟨hg, h3⟩
   ·cases he
   ·exact .inr (.inr ⟨hne, hg, h1, h3⟩)
theorem Stp.move (hp : Hp P H m S w) {id j g : Nat} {o o' : AO} {cs : List AV} (hl : live H id (.cells cs)) (hj : cs[j]? = some (.buf g)) (hg : live H g o) (hne : id ≠ g)
  (hok : ∀ H' m', Older H H' m m' -> OK P H m S w (m g) o -> OK P H' m' S w (m g) o') (hb : ∀ b, Own w (m g) o' b -> Own w (m g) o b) :
  Stp P H m S w (moveH H id j g o' cs) (upd m H.length (m g)) S w := by
 have hid : id < H.length := (List.getElem?_eq_some_iff.1 hl).1
 have hgl : g < H.length := (List.getElem?_eq_some_iff.1 hg).1
 obtain ⟨b, T, vs, g1, g2, g3, g4⟩ := hp.obj id _ hl
 have hlt : ∀ {k : Nat}, k < H.length -> upd m H.length (m g) k = m k := fun {k} h => if_neg (by omega)
 have hN : upd m H.length (m g) H.length = m g := if_pos rfl
 have hold : Older H (moveH H id j g o' cs) m (upd m H.length (m g)) := by
  refine ⟨by simp [moveH], fun k hk p hlv => ⟨hlt hk, ?_⟩⟩
  rcases moveH_live hid hlv with ⟨rfl, rfl⟩ | ⟨h2, _⟩ | ⟨_, _, _, h2⟩
  ·exact ⟨_, hl, (fun _ _ _ he => by cases he), (fun _ _ _ he => by cases he), fun _ he => by cases he⟩
  ·omega
  ·exact ⟨_, h2, fun e2 nl2 xs2 he => ⟨nl2, xs2, he, Nat.le_refl _⟩, fun e2 xs2 l2 he => ⟨l2, he⟩, fun _ h => h⟩
 refine Stp.at_ (fun k => k = g \/ k = H.length \/ k = id) hp hold (fun k o hk hlv => ?_) rfl rfl rfl (Nat.le_refl _) (fun _ _ _ => rfl) (fun k o hk hlv hkp => ?_) (fun k o b2 hk hlv hbb => ?_) (fun k1 k2 o1 o2 b2 hk1 hk2 hl1 hl2 hb1 hb2 => ?_)
 ·rcases moveH_live hid hlv with ⟨h2, _⟩ | ⟨h2, _⟩ | ⟨_, _, h3, h2⟩
  ·exact absurd (.inr (.inr h2)) hk
  ·exact absurd (.inr (.inl h2)) hk
  ·exact ⟨h2, hlt h3⟩
 ·rcases moveH_live hid hlv with ⟨rfl, rfl⟩ | ⟨rfl, rfl⟩ | ⟨h3, h4, h5, _⟩
  ·rw [hlt hid]
   refine ⟨b, T, vs, g1, g2, by rw [List.length_set]; exact g3, fun q c hc => ?_⟩
   rw [List.getElem?_set] at hc
   split at hc
   ·rename_i hjk
    subst hjk
    split at hc
    ·injection hc with hc
     subst hc
     obtain ⟨h5, h6⟩ := g4 _ _ hj
     refine ⟨?_, h6⟩
     generalize vs.getD j undef = u at h5
     cases h5 with
     | buf _ a l c hid5 h5 =>
      exact .buf _ _ _ _ (by simp [moveH]) fun p _ => by rw [hN]; exact h5 o hg
    ·cases hc
   ·exact ⟨(g4 q c hc).1.mono hkp (fun _ h => h) hold, (g4 q c hc).2⟩
  ·rw [hN]
   exact hok _ _ hold (hp.obj g _ hg)
  ·rcases hk with h | h | h <;> omega
 ·rcases moveH_live hid hlv with ⟨rfl, rfl⟩ | ⟨rfl, rfl⟩ | ⟨h3, h4, h5, _⟩
  ·rw [hlt hid] at hbb
   exact .inl ⟨_, _, .inr (.inr rfl), hl, own_to hbb rfl rfl rfl⟩
  ·rw [hN] at hbb
   exact .inl ⟨g, _, .inl rfl, hg, hb _ hbb⟩
  ·rcases hk with h | h | h <;> omega
 ·have key : ∀ {k : Nat} {p : AO}, (k = g \/ k = H.length \/ k = id) -> live (moveH H id j g o' cs) k p -> Own w (upd m H.length (m g) k) p b2 -> (k = id /\ Own w (m id) (.cells cs) b2) \/ (k = H.length /\ Own w (m g) o b2) := fun {k p} hk hlv hbb => by
   rcases moveH_live hid hlv with ⟨rfl, rfl⟩ | ⟨rfl, rfl⟩ | ⟨h3, h4, h5, _⟩
   ·rw [hlt hid] at hbb
    exact .inl ⟨rfl, own_to hbb rfl rfl rfl⟩
   ·rw [hN] at hbb
    exact .inr ⟨rfl, hb _ hbb⟩
   ·rcases hk with h | h | h <;> omega
  rcases key hk1 hl1 hb1 with ⟨rfl, h3⟩ | ⟨rfl, h3⟩ <;> rcases key hk2 hl2 hb2 with ⟨rfl, h4⟩ | ⟨rfl, h4⟩
  ·rfl
  ·exact absurd (hp.inj _ _ _ _ b2 hl hg h3 h4) hne
  ·exact absurd (hp.inj _ _ _ _ b2 hl hg h4 h3) hne
  ·rfl
theorem OK.openL {H' : AH} {m' : Nat -> Value} {mv : Value} {e : TypeId} {nl : Bool} {xs : List PV} {y : PV} (h : OK P H m S w mv (.buf e nl (xs ++ [y]))) : OK P H' m' S w mv (.bufL e xs (y.cells.map .p)) := by
 obtain ⟨i, us, h1, h2, h3, h4, h5, h6⟩ := h
 have hz : ∀ x ∈ xs, x.cells.length = i.size := fun x hx => h4 x (by simp [hx])
 have hy : y.cells.length = i.size := h4 y (by simp)
 rw [List.length_append, List.length_singleton] at h3
 refine ⟨i, us, h1, h2, h3, hz, by rw [List.length_map]; exact hy, fun k c hk => h5 k c ?_, fun k c hk => ?_⟩
 ·rw [flat_append, List.getElem?_append_left (List.getElem?_eq_some_iff.1 hk).1]
  exact hk
 ·rw [List.getElem?_map, Option.map_eq_some_iff] at hk
  obtain ⟨d, hd, rfl⟩ := hk
  obtain ⟨u, hu, hr, h1⟩ := h5 (xs.length * i.size + k) d (by
   rw [flat_append, List.getElem?_append_right (by rw [flat_length hz]; omega), flat_length hz, Nat.add_sub_cancel_left]
   simpa [flat] using hd)
  exact ⟨u, hu, .p _ _ hr, h1⟩
theorem OK.closeL {H' : AH} {m' : Nat -> Value} {mv : Value} {e : TypeId} {xs ps : List PV} {l : List AV} {y : PV} (hl : ∀ (k : Nat) (c : PV), ps[k]? = some c -> ∃ a, l[k]? = some a /\ ∀ v, Rd P H m S w a v -> RdP S w c v) (hps : ps.length = l.length) (hy : y.cells = ps)
  (h : OK P H m S w mv (.bufL e xs l)) : OK P H' m' S w mv (.buf e false (xs ++ [y])) := by
 obtain ⟨i, us, h1, h2, h3, h4, h5, h6, h7⟩ := h
 refine ⟨i, us, h1, h2, by rw [List.length_append, List.length_singleton]; exact h3, fun x hx => ?_, fun k c hk => ?_, ?_⟩
 ·rcases List.mem_append.1 hx with hx | hx
  ·exact h4 x hx
  ·rw [List.mem_singleton] at hx
   subst hx
   rw [hy, hps, h5]
 ·rw [flat_append] at hk
  by_cases hkl : k < (flat xs).length
  ·rw [List.getElem?_append_left hkl] at hk
   exact h6 k c hk
  ·rw [List.getElem?_append_right (by omega)] at hk
   have hk2 : ps[k - (flat xs).length]? = some c := by rw [<- hy]; simpa [flat] using hk
   obtain ⟨a, ha, hr⟩ := hl _ c hk2
   obtain ⟨u, hu, hru, hu1⟩ := h7 _ a ha
   rw [flat_length h4] at hu hkl
   rw [show xs.length * i.size + (k - xs.length * i.size) = k by omega] at hu
   exact ⟨u, hu, hr u hru, hu1⟩
 ·constructor
  ·intro h; cases h
  ·intro h
   rcases h3.2 with ⟨_, h8⟩ | ⟨g, cap, cur, hm, _⟩
   ·omega
   ·rw [h] at hm; cases hm
end
end Go.Abs
namespace Go.Abs
open Go.RowKit
section
variable {P : Program} {ti : TypeId -> Option TI} {H : AH} {m : Nat -> Value} {S : Nat -> Prop} {w : World}
theorem row_index {sz q j n : Nat} (hj : j < n) (hq : q < sz) : j * sz + q < n * sz := by
 have : (j + 1) * sz <= n * sz := Nat.mul_le_mul_right _ hj
 rw [Nat.succ_mul] at this
 omega
theorem rowBlk_us {e e2 : TypeId} {nl : Bool} {sz q : Nat} {xs : List PV} {h : Option Nat} {l : List AV} {gn : Option (Nat -> Bool)} {mv : Value} {us : List Value} {b : Nat} (ho : w.ownsRow 0 e sz mv xs.length us) (hq : q < sz) :
  rowBlk w mv b (.rws e nl sz q e2 xs h l gn) ↔ ∃ j u, j < xs.length /\ notAt h j /\ gone gn j = false /\ us[j * sz + q]? = some u /\ u.ownBlock = some b := by
 constructor
 ·rintro ⟨j, g, l', c, u, hj, hne, hgn, hv, hc, hub⟩
  have hlt : j * sz + q < us.length := by rw [ho.1]; exact row_index hj hq
  refine ⟨j, u, hj, hne, hgn, ?_, hub⟩
  have h1 := row_cell ho hv (List.getElem?_eq_getElem hlt)
  rw [hc] at h1
  rw [List.getElem?_eq_getElem hlt, <- h1]
 ·rintro ⟨j, u, hj, hne, hgn, hu, hub⟩
  rcases ho.2 with ⟨_, h0⟩ | ⟨g, cap, cur, hv, _⟩
  ·omega
  ·exact ⟨j, g, _, _, u, hj, hne, hgn, hv, row_cell ho hv hu, hub⟩
theorem Stp.storeW (hp : Hp P H m S w) {t : TypeId} {i : TI} (hi : tiOf P t = some i) {id p off : Nat} {e e2 : TypeId} {nl : Bool} {sz q : Nat} {xs : List PV} {l : List AV} {gn : Option (Nat -> Bool)} (hH : live H id (.rws e nl sz q e2 xs (some p) l gn)) {x : AV} {v : Value} (hx : Rd P H m S w x v)
  (h1 : x.cells.all AV.one = true) (hxl : x.cells.length = i.size) (hle : off + i.size <= l.length) {va : Value} (ha : Rd P H m S w (.wptr id p off) va) :
  ∃ w', (Instr.storeAt t va v).run P w = .ok () w' /\ Stp P H m S w (H.set id (some (.rws e nl sz q e2 xs (some p) (setAt l off x.cells) gn))) m S w' := by
 obtain ⟨inf, i2, us, hinf, hsz, hq, hi2, h02, ho, hz, hn, hR, hHo, hA1, hA2⟩ := hp.obj id _ hH
 obtain ⟨hpl, hll, hrl⟩ := hHo p rfl
 rcases ho.2 with ⟨_, h0⟩ | ⟨g, cap, cur, hm, _, hh, hc1, hc2, hcs, htk⟩
 ·omega
 have hva : va = .pointer (some ⟨g, p * sz + off, none⟩) := by
  cases ha with
  | wptr _ _ _ a hid hb =>
   obtain ⟨i3, g2, l0, c0, hi3, hm2, rfl⟩ := hb _ e hH rfl
   rw [hinf] at hi3
   injection hi3 with hi3
   subst hi3
   rw [hm] at hm2
   injection hm2 with h2; injection h2 with h2; injection h2 with h2
   subst h2
   rw [hsz]
 subst hva
 obtain ⟨hs, hc⟩ := hx.cells (one_or h1)
 have hoc : ∀ u ∈ v.cells.toList, u.oneCell' = true := by
  intro u hu
  obtain ⟨j, hj, rfl⟩ := List.mem_iff_getElem.1 hu
  have hj' : j < x.cells.length := by rw [<- hs]; simpa using hj
  have := (hc j _ (List.getElem?_eq_getElem hj')).2
  have hj2 : j < v.cells.size := by simpa using hj
  simpa [Array.getD, hj2] using this
 have hvl : v.cells.toList.length = i.size := by rw [Array.length_toList, hs, hxl]
 have hmul : xs.length * sz <= cap * sz := Nat.mul_le_mul_right _ hc1
 have hm3 : (p + 1) * sz <= xs.length * sz := Nat.mul_le_mul_right _ hpl
 rw [Nat.succ_mul] at hm3
 refine ⟨_, run_storeAt_of hi hh (by rw [hs, hxl]) hoc (by omega), ?_⟩
 have hle' : p * sz + off + v.cells.toList.length <= cur.toList.length := by
  have : cur.toList.length = cur.size := by simp
  omega
 have hlen : (setAt l off x.cells).length = l.length := by
  have h3 := setAt_length off x.cells 0 l
  rwa [Nat.add_zero] at h3
 have hold : Older H (H.set id (some (.rws e nl sz q e2 xs (some p) (setAt l off x.cells) gn))) m m := older_set hH (fun _ _ _ h => by cases h)
 have hul : us.length = xs.length * sz := ho.1
 generalize hus' : (Abs.splice cur.toList (p * sz + off) v.cells.toList).take (xs.length * sz) = us'
 have other : ∀ {j k : Nat}, j < xs.length -> j ≠ p -> k < sz -> us'[j * sz + k]? = us[j * sz + k]? := by
  intro j k hj hjp hk
  have h3 := row_index hj hk
  rw [<- hus', List.getElem?_take, if_pos h3, splice_out hle' ?_, <- htk, List.getElem?_take, if_pos h3]
  rcases Nat.lt_or_gt_of_ne hjp with h | h
  ·have := row_index (sz := sz) h hk
   omega
  ·have : (p + 1) * sz <= j * sz := Nat.mul_le_mul_right _ h
   rw [Nat.succ_mul] at this
   omega
 have ho' : ∀ {new : Array Value}, new = (Abs.splice cur.toList (p * sz + off) v.cells.toList).toArray -> (w.setRow g new).heap[g]? = some (.cells new e (0, 0)) -> (w.setRow g new).ownsRow 0 e sz (m id) xs.length us' := by
  rintro new rfl hh'
  refine ⟨?_, .inr ⟨g, cap, _, hm, Nat.zero_le _, hh', hc1, hc2, ?_, hus'⟩⟩
  ·rw [<- hus', List.length_take, splice_length hle']
   have : cur.toList.length = cur.size := by simp
   omega
  ·show (Abs.splice _ _ _).length = _
   rw [splice_length hle', Array.length_toList, hcs]
 have hh' := setRow_heap w g cur (Abs.splice cur.toList (p * sz + off) v.cells.toList).toArray e (0, 0) hh
 refine Stp.store hp (o := .rws e nl sz q e2 xs (some p) l gn) (T := e) (cur := cur) hH (.inl (by rw [hm]; rfl)) hh (fun _ _ _ h => by cases h) (fun b hb => ?_) fun hk hh'' => ?_
 ·rcases hb with hb | hb
  ·exact .inl hb
  ·obtain ⟨j, u, hj, hne, hgn, hu, hub⟩ := (rowBlk_us (ho' rfl hh') hq).1 hb
   rw [other hj (fun h => hne (by rw [h])) hq] at hu
   exact .inr ((rowBlk_us ho hq).2 ⟨j, u, hj, hne, hgn, hu, hub⟩)
 ·refine ⟨inf, i2, us', hinf, hsz, hq, hi2, h02, ho' rfl hh'', hz, hn, fun j y hy hne k c hk' => ?_, fun p' hp' => ?_, fun j b u hj hne hgn hu => ?_, fun j j' b u u' hj hj' hne hne' hg hg' hu hu' => ?_⟩
  ·have hj : j < xs.length := (List.getElem?_eq_some_iff.1 hy).1
   have hks : k < sz := by rw [<- hz y (List.mem_of_getElem? hy)]; exact (List.getElem?_eq_some_iff.1 hk').1
   obtain ⟨u, hu, h3, h4, h5⟩ := hR j y hy hne k c hk'
   refine ⟨u, by rw [other hj (fun h => hne (by rw [h])) hks]; exact hu, h3, fun hkq => (h4 hkq).mono hk (fun _ h => h), fun hkq hgn => ?_⟩
   obtain ⟨nl2, ys, h6, h7⟩ := h5 hkq hgn
   refine ⟨nl2, ys, h6, h7.mono hk (fun _ h => h) fun b hub => ?_⟩
   subst hkq
   exact setRow_other w g b _ fun e => hA1 j b u hj hne hgn hu hub (by rw [hm, <- e]; rfl)
  ·injection hp' with hp'
   subst hp'
   refine ⟨hpl, by rw [hlen]; exact hll, fun k c hk' => ?_⟩
   have hks : k < sz := by rw [<- hll, <- hlen]; exact (List.getElem?_eq_some_iff.1 hk').1
   rcases setAt_at x.cells off l k c hk' (by omega) with ⟨j, rfl, hj⟩ | ⟨hko, hkc⟩
   ·have hjl : j < v.cells.toList.length := by have := (List.getElem?_eq_some_iff.1 hj).1; omega
    have hj2 : j < v.cells.size := by simpa using hjl
    have h3 := hc j c hj
    have e2 : v.cells.getD j undef = v.cells[j] := by simp [Array.getD, hj2]
    rw [e2] at h3
    refine ⟨v.cells[j], ?_, h3.1.mono hk (fun _ h => h) hold, h3.2⟩
    rw [<- hus', List.getElem?_take, if_pos (by omega), <- Nat.add_assoc, splice_in hle' hjl]
    simp [hj2]
   ·obtain ⟨u, hu, hru, hu1⟩ := hrl k c hkc
    refine ⟨u, ?_, hru.mono hk (fun _ h => h) hold, hu1⟩
    rw [<- hus', List.getElem?_take, if_pos (by omega), splice_out hle' (by omega), ]
    rw [<- htk, List.getElem?_take, if_pos (by omega)] at hu
    exact hu
  ·rw [other hj (fun h => hne (by rw [h])) hq] at hu
   exact hA1 j b u hj hne hgn hu
  ·rw [other hj (fun h => hne (by rw [h])) hq] at hu
   rw [other hj' (fun h => hne' (by rw [h])) hq] at hu'
   exact hA2 j j' b u u' hj hj' hne hne' hg hg' hu hu'
def openWH (H : AH) (id p : Nat) (e : TypeId) (nl : Bool) (sz q : Nat) (e2 : TypeId) (xs : List PV) (gn : Option (Nat -> Bool)) (x : PV) (nl2 : Bool) (ys : List PV) : AH :=
 H.set id (some (.rws e nl sz q e2 xs (some p) ((x.cells.map AV.p).set q (.buf H.length)) gn)) ++ [some (.buf e2 nl2 ys)]
theorem Stp.openW (hp : Hp P H m S w) {id p : Nat} {e e2 : TypeId} {nl : Bool} {sz q : Nat} {xs : List PV} {l0 : List AV} {gn : Option (Nat -> Bool)} (hl : live H id (.rws e nl sz q e2 xs none l0 gn)) {x : PV} (hx : xs[p]? = some x) (hg : gone gn p = false) {nl2 : Bool} {ys : List PV} (hxq : x.cells[q]? = some (.list nl2 ys)) :
  ∃ v, Stp P H m S w (openWH H id p e nl sz q e2 xs gn x nl2 ys) (upd m H.length v) S w := by
 obtain ⟨inf, i2, us, hinf, hsz, hq, hi2, h02, ho, hz, hn, hR, hHo, hA1, hA2⟩ := hp.obj id _ hl
 have hpl : p < xs.length := (List.getElem?_eq_some_iff.1 hx).1
 have hna : ∀ j, notAt none j := fun j h => by cases h
 obtain ⟨u, nl3, ys3, hu, hu1, hxq2, hok⟩ := rows_at hz hq hR hx (hna p) hg
 rw [hxq] at hxq2
 injection hxq2 with hxq2; injection hxq2 with h1 h2
 subst h1; subst h2
 have hid : id < H.length := (List.getElem?_eq_some_iff.1 hl).1
 have lv : ∀ {j : Nat} {o : AO}, live (openWH H id p e nl sz q e2 xs gn x nl2 ys) j o -> (j = id /\ o = .rws e nl sz q e2 xs (some p) ((x.cells.map AV.p).set q (.buf H.length)) gn) \/ (j = H.length /\ o = .buf e2 nl2 ys) \/ (j ≠ id /\ j < H.length /\ live H j o) := by
  intro j o h
  unfold openWH at h
  rcases live_push h with ⟨h3, h4⟩ | ⟨h3, h4⟩
  ·rw [List.length_set] at h3; exact .inr (.inl ⟨h3, h4⟩)
  ·rw [List.length_set] at h3
   rcases live_set h4 with ⟨h5, h6⟩ | ⟨h5, h6⟩
   ·injection h6 with h6; exact .inl ⟨h5, h6.symm⟩
   ·exact .inr (.inr ⟨h5, h3, h6⟩)
 have hlt : ∀ {j : Nat}, j < H.length -> upd m H.length u j = m j := fun {j} h => if_neg (by omega)
 have hN : upd m H.length u H.length = u := if_pos rfl
 have hold : Older H (openWH H id p e nl sz q e2 xs gn x nl2 ys) m (upd m H.length u) := by
  refine ⟨by simp [openWH], fun j hj o' h => ⟨hlt hj, ?_⟩⟩
  rcases lv h with ⟨rfl, rfl⟩ | ⟨h3, _⟩ | ⟨_, _, h3⟩
  ·exact ⟨_, hl, (fun _ _ _ he => by cases he), (fun _ _ _ he => by cases he), fun _ he => he⟩
  ·omega
  ·exact ⟨_, h3, fun e nl xs he => ⟨nl, xs, he, Nat.le_refl _⟩, fun _ _ l he => ⟨l, he⟩, fun _ h => h⟩
 have hrb : ∀ {b}, u.ownBlock = some b -> Own w (m id) (.rws e nl sz q e2 xs none l0 gn) b := fun hub => .inr ((rowBlk_us ho hq).2 ⟨p, u, hpl, hna p, hg, hu, hub⟩)
 have hform : ∃ a l c, u = .slice a l c := by
  obtain ⟨_, _, _, _, h5, _⟩ := hok
  rcases h5.2 with ⟨h, _⟩ | ⟨g, cap, cur, h, _⟩
  ·exact ⟨_, _, _, h⟩
  ·exact ⟨_, _, _, h⟩
 refine ⟨u, Stp.at_ (fun j => j = id \/ j = H.length) hp hold (fun j o hj h => ?_) rfl rfl rfl (Nat.le_refl _) (fun _ _ _ => rfl) (fun j o hj h hk => ?_) (fun j o b hj h hbb => ?_) (fun i j oi oj b hi hj hli hlj hbi hbj => ?_)⟩
 ·rcases lv h with ⟨h3, _⟩ | ⟨h3, _⟩ | ⟨_, h4, h3⟩
  ·exact absurd (.inl h3) hj
  ·exact absurd (.inr h3) hj
  ·exact ⟨h3, hlt h4⟩
 ·rcases lv h with ⟨rfl, rfl⟩ | ⟨rfl, rfl⟩ | ⟨h3, h4, _⟩
  ·rw [hlt hid]
   refine ⟨inf, i2, us, hinf, hsz, hq, hi2, h02, ho, hz, hn, fun j' y hy _ k c hk' => hR j' y hy (hna j') k c hk', fun p' hp' => ?_, fun j' b u' hj' _ => hA1 j' b u' hj' (hna j'), fun j1 j2 b u1 u2 h1 h2 _ _ => hA2 j1 j2 b u1 u2 h1 h2 (hna j1) (hna j2)⟩
   injection hp' with hp'
   subst hp'
   refine ⟨hpl, by rw [List.length_set, List.length_map]; exact hz x (List.mem_of_getElem? hx), fun k c hk' => ?_⟩
   rw [List.getElem?_set] at hk'
   split at hk'
   ·rename_i hqk
    subst hqk
    split at hk'
    ·injection hk' with hk'
     subst hk'
     refine ⟨u, hu, ?_, hu1⟩
     obtain ⟨a, l, c, rfl⟩ := hform
     exact .buf _ _ _ _ (by simp [openWH]) fun o _ => hN
    ·cases hk'
   ·rename_i hqk
    rw [List.getElem?_map, Option.map_eq_some_iff] at hk'
    obtain ⟨d, hd, rfl⟩ := hk'
    obtain ⟨u', h3, h4, h5, _⟩ := hR p x hx (hna p) k d hd
    exact ⟨u', h3, .p _ _ (h5 fun h => hqk h.symm), h4⟩
  ·rw [hN]; exact hok
  ·rcases hj with h | h
   ·exact absurd h h3
   ·omega
 ·rcases lv h with ⟨rfl, rfl⟩ | ⟨rfl, rfl⟩ | ⟨h3, h4, _⟩
  ·rw [hlt hid] at hbb
   refine .inl ⟨_, _, .inl rfl, hl, ?_⟩
   rcases hbb with hbb | hbb
   ·exact .inl hbb
   ·obtain ⟨j', u', g1, _, g3, g4, g5⟩ := (rowBlk_us ho hq).1 hbb
    exact .inr ((rowBlk_us ho hq).2 ⟨j', u', g1, hna j', g3, g4, g5⟩)
  ·rw [hN] at hbb
   exact .inl ⟨id, _, .inl rfl, hl, hrb ((own_iff rfl).1 hbb)⟩
  ·rcases hj with h | h
   ·exact absurd h h3
   ·omega
 ·have cross : ∀ {b}, Own w (m id) (.rws e nl sz q e2 xs (some p) ((x.cells.map AV.p).set q (.buf H.length)) gn) b -> u.ownBlock = some b -> False := by
   intro b hb hub
   rcases hb with hb | hb
   ·exact hA1 p b u hpl (hna p) hg hu hub hb
   ·obtain ⟨j', u', g1, g2, g3, g4, g5⟩ := (rowBlk_us ho hq).1 hb
    exact g2 (by rw [hA2 j' p b u' u g1 hpl (hna j') (hna p) g3 hg g4 hu g5 hub])
  rcases lv hli with ⟨rfl, rfl⟩ | ⟨rfl, rfl⟩ | ⟨h3, h4, _⟩
  ·rcases lv hlj with ⟨rfl, rfl⟩ | ⟨rfl, rfl⟩ | ⟨h5, h6, _⟩
   ·rfl
   ·rw [hlt hid] at hbi
    rw [hN] at hbj
    exact (cross hbi ((own_iff rfl).1 hbj)).elim
   ·rcases hj with h | h
    ·exact absurd h h5
    ·omega
  ·rcases lv hlj with ⟨rfl, rfl⟩ | ⟨rfl, rfl⟩ | ⟨h5, h6, _⟩
   ·rw [hlt hid] at hbj
    rw [hN] at hbi
    exact (cross hbj ((own_iff rfl).1 hbi)).elim
   ·rfl
   ·rcases hj with h | h
    ·exact absurd h h5
    ·omega
  ·rcases hi with h | h
   ·exact absurd h h3
   ·omega
theorem Stp.closeW (hp : Hp P H m S w) {id p G : Nat} {e e2 : TypeId} {nl : Bool} {sz q : Nat} {xs : List PV} {l : List AV} {gn : Option (Nat -> Bool)} (hl : live H id (.rws e nl sz q e2 xs (some p) l gn)) (hlq : l[q]? = some (.buf G)) {nl2 : Bool} {ys : List PV} (hG : live H G (.buf e2 nl2 ys))
  {ps : List PV} (hps : allP ((l.set q (.p (.list nl2 ys))).map (thaw H)) = some ps) {y : PV} (hy : y.cells = ps) :
  Stp P H m S w ((H.set G none).set id (some (.rws e nl sz q e2 (xs.set p y) none [] gn))) m S w := by
 obtain ⟨inf, i2, us, hinf, hsz, hq, hi2, h02, ho, hz, hn, hR, hHo, hA1, hA2⟩ := hp.obj id _ hl
 obtain ⟨hpl, hll, hrl⟩ := hHo p rfl
 have hne : id ≠ G := fun h => by
  subst h
  unfold live at hl hG
  rw [hl] at hG
  cases hG
 have hna : ∀ j, notAt none j := fun j h => by cases h
 have hid : id < H.length := (List.getElem?_eq_some_iff.1 hl).1
 obtain ⟨u, hu, hru, hu1⟩ := hrl q _ hlq
 have huG : u = m G := hru.bufAt hG
 have hokG : OKb P S w (m G) e2 nl2 ys := hp.obj G _ hG
 have hps2 := allP_some hps
 have hpsl : ps.length = sz := by have := congrArg List.length hps2; simp at this; omega
 have hpk : ∀ (k : Nat) (c : PV), ps[k]? = some c -> ∃ a, (l.set q (.p (.list nl2 ys)))[k]? = some a /\ thaw H a = .p c := by
  intro k c hk
  have : ((l.set q (.p (.list nl2 ys))).map (thaw H))[k]? = some (.p c) := by rw [hps2, List.getElem?_map, hk]; rfl
  rw [List.getElem?_map, Option.map_eq_some_iff] at this
  exact this
 have lv : ∀ {j : Nat} {o : AO}, live ((H.set G none).set id (some (.rws e nl sz q e2 (xs.set p y) none [] gn))) j o -> (j = id /\ o = .rws e nl sz q e2 (xs.set p y) none [] gn) \/ (j ≠ id /\ j ≠ G /\ live H j o) := by
  intro j o h
  rcases live_set h with ⟨h5, h6⟩ | ⟨h5, h6⟩
  ·injection h6 with h6; exact .inl ⟨h5, h6.symm⟩
  ·rcases live_set h6 with ⟨_, h7⟩ | ⟨h7, h8⟩
   ·cases h7
   ·exact .inr ⟨h5, h7, h8⟩
 have hold : Older H ((H.set G none).set id (some (.rws e nl sz q e2 (xs.set p y) none [] gn))) m m := by
  refine ⟨by simp, fun j hj o' h => ⟨rfl, ?_⟩⟩
  rcases lv h with ⟨rfl, rfl⟩ | ⟨_, _, h3⟩
  ·exact ⟨_, hl, (fun _ _ _ he => by cases he), (fun _ _ _ he => by cases he), fun _ he => he⟩
  ·exact ⟨_, h3, fun e nl xs he => ⟨nl, xs, he, Nat.le_refl _⟩, fun _ _ l he => ⟨l, he⟩, fun _ h => h⟩
 have ho' : w.ownsRow 0 e sz (m id) (xs.set p y).length us := by rw [List.length_set]; exact ho
 have hGo : ∀ {b}, u.ownBlock = some b -> Own w (m G) (.buf e2 nl2 ys) b := fun hub => .inl (by rw [<- huG]; exact hub)
 have hno : ∀ {b}, u.ownBlock = some b -> ¬ Own w (m id) (.rws e nl sz q e2 xs (some p) l gn) b := fun hub h => hne (hp.inj _ _ _ _ _ hl hG h (hGo hub))
 refine Stp.at_ (fun j => j = id \/ j = G) hp hold (fun j o hj h => ?_) rfl rfl rfl (Nat.le_refl _) (fun _ _ _ => rfl) (fun j o hj h hk => ?_) (fun j o b hj h hbb => ?_) (fun i j oi oj b hi hj hli hlj hbi hbj => ?_)
 ·rcases lv h with ⟨h3, _⟩ | ⟨_, h4, h3⟩
  ·exact absurd (.inl h3) hj
  ·exact ⟨h3, rfl⟩
 ·rcases lv h with ⟨rfl, rfl⟩ | ⟨h3, h4, _⟩
  ·refine ⟨inf, i2, us, hinf, hsz, hq, hi2, h02, ho', fun x hx => ?_, hn, fun j' x hx _ k c hk' => ?_, fun _ h => (by cases h), fun j' b u' hj' _ hgn hu' hub => ?_, fun j1 j2 b u1 u2 h1 h2 _ _ hg1 hg2 k1 k2 kb1 kb2 => ?_⟩
   ·rcases List.mem_or_eq_of_mem_set hx with h | rfl
    ·exact hz x h
    ·rw [hy, hpsl]
   ·rw [List.getElem?_set] at hx
    split at hx
    ·rename_i hpj
     subst hpj
     try rw [if_pos hpl] at hx
     injection hx with hx
     subst hx
     rw [hy] at hk'
     obtain ⟨a, ha, hth⟩ := hpk k c hk'
     rw [List.getElem?_set] at ha
     split at ha
     ·rename_i hqk
      subst hqk
      try rw [if_pos (by rw [hll]; exact hq)] at ha
      injection ha with ha
      subst ha
      have hc : PV.list nl2 ys = c := by
       have : thaw H (.p (.list nl2 ys)) = .p (.list nl2 ys) := rfl
       rw [this] at hth
       injection hth
      exact ⟨u, hu, hu1, fun h => absurd rfl h, fun _ _ => ⟨nl2, ys, hc.symm, by rw [huG]; exact hokG⟩⟩
     ·rename_i hqk
      obtain ⟨u', h5, h6, h7⟩ := hrl k a ha
      refine ⟨u', h5, h7, fun _ => ?_, fun h => absurd h.symm hqk⟩
      have h8 := thaw_sound hp h6
      rw [hth] at h8
      cases h8 with | p _ _ h => exact h
    ·rename_i hpj
     exact hR j' x hx (fun h => hpj (by injection h)) k c hk'
   ·rw [List.length_set] at hj'
    by_cases hjp : j' = p
    ·subst hjp
     rw [hu] at hu'
     injection hu' with hu'
     subst hu'
     exact fun h => hno hub (.inl h)
    ·exact hA1 j' b u' hj' (fun h => hjp (by injection h with h; exact h.symm)) hgn hu' hub
   ·rw [List.length_set] at h1 h2
    have key : ∀ {j' : Nat} {u' : Value}, j' < xs.length -> j' ≠ p -> gone gn j' = false -> us[j' * sz + q]? = some u' -> u'.ownBlock = some b -> u.ownBlock = some b -> False := fun {j' u'} h1 hjp hg1 k1 kb1 hub =>
     hno hub (.inr ((rowBlk_us ho hq).2 ⟨j', u', h1, (fun h => hjp (by injection h with h; exact h.symm)), hg1, k1, kb1⟩))
    by_cases hj1 : j1 = p <;> by_cases hj2 : j2 = p
    ·rw [hj1, hj2]
    ·subst hj1
     rw [hu] at k1
     injection k1 with k1
     subst k1
     exact (key h2 hj2 hg2 k2 kb2 kb1).elim
    ·subst hj2
     rw [hu] at k2
     injection k2 with k2
     subst k2
     exact (key h1 hj1 hg1 k1 kb1 kb2).elim
    ·exact hA2 j1 j2 b u1 u2 h1 h2 (fun h => hj1 (by injection h with h; exact h.symm)) (fun h => hj2 (by injection h with h; exact h.symm)) hg1 hg2 k1 k2 kb1 kb2
  ·rcases hj with h | h
   ·exact absurd h h3
   ·exact absurd h h4
 ·rcases lv h with ⟨rfl, rfl⟩ | ⟨h3, h4, _⟩
  ·rcases hbb with hbb | hbb
   ·exact .inl ⟨_, _, .inl rfl, hl, .inl hbb⟩
   ·obtain ⟨j', u', g1, _, g3, g4, g5⟩ := (rowBlk_us ho' hq).1 hbb
    rw [List.length_set] at g1
    by_cases hjp : j' = p
    ·subst hjp
     rw [hu] at g4
     injection g4 with g4
     subst g4
     exact .inl ⟨G, _, .inr rfl, hG, hGo g5⟩
    ·exact .inl ⟨_, _, .inl rfl, hl, .inr ((rowBlk_us ho hq).2 ⟨j', u', g1, (fun h => hjp (by injection h with h; exact h.symm)), g3, g4, g5⟩)⟩
  ·rcases hj with h | h
   ·exact absurd h h3
   ·exact absurd h h4
 ·have key : ∀ {j : Nat} {o : AO}, (j = id \/ j = G) -> live ((H.set G none).set id (some (.rws e nl sz q e2 (xs.set p y) none [] gn))) j o -> j = id := fun {j o} hj h => by
   rcases lv h with ⟨h, _⟩ | ⟨h3, h4, _⟩
   ·exact h
   ·rcases hj with h | h
    ·exact h
    ·exact absurd h h4
  rw [key hi hli, key hj hlj]
theorem Stp.takeW (hp : Hp P H m S w) {id p : Nat} {e e2 : TypeId} {nl : Bool} {sz q : Nat} {xs : List PV} {l : List AV} {gn : Option (Nat -> Bool)} (hl : live H id (.rws e nl sz q e2 xs (some p) l gn)) {x : PV} (hx : xs[p]? = some x) (hc : ∀ k c, x.cells[k]? = some c -> k ≠ q -> l[k]? = some (.p c)) :
  Stp P H m S w (H.set id (some (.rws e nl sz q e2 xs none [] (some fun j => Nat.beq j p || gone gn j)))) m S w := by
 have hg2 : ∀ {j}, gone (some fun j => Nat.beq j p || gone gn j) j = false -> notAt (some p) j /\ gone gn j = false := by
  intro j h
  simp only [gone, Bool.or_eq_false_iff] at h
  exact ⟨(fun e => by injection e with e; rw [<- e, Nat.beq_refl] at h; cases h.1), h.2⟩
 refine Stp.view hp hl (fun _ _ _ h => by cases h) (fun H' hold h => ?_) fun b hb => ?_
 ·obtain ⟨inf, i2, us, hinf, hsz, hq, hi2, h02, ho, hz, hn, hR, hHo, hA1, hA2⟩ := h
  obtain ⟨hpl, hll, hrl⟩ := hHo p rfl
  refine ⟨inf, i2, us, hinf, hsz, hq, hi2, h02, ho, hz, hn, fun j y hy _ k c hk' => ?_, (fun _ h => by cases h), fun j b u hj _ hg => hA1 j b u hj (hg2 hg).1 (hg2 hg).2, fun j1 j2 b u1 u2 h1 h2 _ _ hg1 hg2' => hA2 j1 j2 b u1 u2 h1 h2 (hg2 hg1).1 (hg2 hg2').1 (hg2 hg1).2 (hg2 hg2').2⟩
  by_cases hjp : j = p
  ·subst hjp
   rw [hx] at hy
   injection hy with hy
   subst hy
   by_cases hkq : k = q
   ·subst hkq
    have hlk : k < l.length := by rw [hll]; exact hq
    obtain ⟨u, hu, _, hu1⟩ := hrl k _ (List.getElem?_eq_getElem hlk)
    refine ⟨u, hu, hu1, fun h => absurd rfl h, fun _ h => ?_⟩
    simp [gone] at h
   ·obtain ⟨u, hu, hru, hu1⟩ := hrl k _ (hc k c hk' hkq)
    refine ⟨u, hu, hu1, fun _ => ?_, fun h => absurd h hkq⟩
    cases hru with | p _ _ h => exact h
  ·obtain ⟨u, h1, h2, h3, h4⟩ := hR j y hy (fun h => hjp (by injection h with h; exact h.symm)) k c hk'
   exact ⟨u, h1, h2, h3, fun hkq hg => h4 hkq (hg2 hg).2⟩
 ·obtain ⟨inf, i2, us, hinf, hsz, hq, hi2, h02, ho, _⟩ := hp.obj id _ hl
  rcases hb with hb | hb
  ·exact .inl hb
  ·obtain ⟨j, u, g1, _, g3, g4, g5⟩ := (rowBlk_us ho hq).1 hb
   exact .inr ((rowBlk_us ho hq).2 ⟨j, u, g1, (hg2 g3).1, (hg2 g3).2, g4, g5⟩)
theorem okb_nil {e : TypeId} {i : TypeInfo} (hi : P.info? e = some i) (h0 : 0 < i.size) : OKb P S w (.slice none 0 0) e true [] :=
 ⟨i, [], hi, h0, World.ownsRow_nil w 0 _ _, by simp, by simp [flat], by simp⟩
theorem rdp_nil {u : Value} (h : RdP S w (.list true []) u) : u = .slice none 0 0 := by cases h; rfl
theorem Stp.toW (hT : TabOK P ti) (hp : Hp P H m S w) {id : Nat} {e e2 : TypeId} {nl : Bool} {q : Nat} {xs : List PV} (hl : live H id (.buf e nl xs)) {ie : TI} (he : ti e = some ie) {k : TK} {n b : Nat} {z : Value} (he2 : ti e2 = some ⟨k, n + 1, b, z⟩) (hq : q < ie.size) (hx : ∀ x ∈ xs, x.cells[q]? = some (.list true [])) :
  Stp P H m S w (H.set id (some (.rws e nl ie.size q e2 xs none [] none))) m S w := by
 obtain ⟨i2, _, hi2, _, _, hs2, _⟩ := tiOf_spec (hT.ok _ _ he2)
 obtain ⟨i1, _, hi1, _, _, hs1, _⟩ := tiOf_spec (hT.ok _ _ he)
 simp only at hs2
 have hq0 : ∀ {us : List Value}, xs.length * ie.size = us.length -> (∀ (k : Nat) (c : PV), (flat xs)[k]? = some c -> ∃ u : Value, us[k]? = some u /\ RdP S w c u /\ u.oneCell' = true) -> (∀ x ∈ xs, x.cells.length = ie.size) -> ∀ {j : Nat} {u : Value}, j < xs.length -> us[j * ie.size + q]? = some u -> u = .slice none 0 0 := by
  intro us _ hr hz j u hj hu
  have h1 := List.getElem?_eq_getElem hj
  obtain ⟨u', h2, h3, _⟩ := hr _ _ (flat_at hz j _ h1 q _ (hx _ (List.getElem_mem hj)))
  rw [hu] at h2
  injection h2 with h2
  subst h2
  exact rdp_nil h3
 refine Stp.view hp hl (fun _ _ _ h => by cases h) (fun H' hold h => ?_) fun b hb => ?_
 ·obtain ⟨i, us, h1, h2, ho, hz, hr, hn⟩ := h
  rw [hi1] at h1
  injection h1 with h1
  subst h1
  rw [hs1] at ho hz
  refine ⟨i1, i2, us, hi1, hs1, hq, hi2, by omega, ho, hz, hn, fun j y hy _ k c hk' => ?_, (fun _ h => by cases h), fun j b u hj _ _ hu hub => ?_, fun j1 j2 b u1 u2 h1 _ _ _ _ _ k1 _ kb1 => ?_⟩
  ·obtain ⟨u, h3, h4, h5⟩ := hr _ c (flat_at hz j y hy k c hk')
   refine ⟨u, h3, h5, fun _ => h4, fun hkq _ => ?_⟩
   subst hkq
   rw [hx y (List.mem_of_getElem? hy)] at hk'
   injection hk' with hk'
   subst hk'
   exact ⟨true, [], rfl, by rw [rdp_nil h4]; exact okb_nil hi2 (by omega)⟩
  ·rw [hq0 (by rw [ho.1]) hr hz hj hu] at hub
   cases hub
  ·rw [hq0 (by rw [ho.1]) hr hz h1 k1] at kb1
   cases kb1
 ·obtain ⟨i, us, h1, h2, ho, hz, hr, hn⟩ := hp.obj id _ hl
  rw [hi1] at h1
  injection h1 with h1
  subst h1
  rw [hs1] at ho hz
  rcases hb with hb | hb
  ·exact .inl hb
  ·obtain ⟨j, u, g1, _, _, g4, g5⟩ := (rowBlk_us ho hq).1 hb
   rw [hq0 (by rw [ho.1]) hr hz g1 g4] at g5
   cases g5
theorem Stp.newBufL (hp : Hp P H m S w) {e : TypeId} {i : TypeInfo} {l : List AV} {cur : Array Value} (hi : P.info? e = some i) (hsz : 0 < i.size) (hm : i.size <= maxLen) (hl : RdL P H m S w l cur) (hll : l.length = i.size) :
  Stp P H m S w (H ++ [some (.bufL e [] l)]) (upd m H.length (.slice (some ⟨w.heap.size, 0, none⟩) 1 1)) S (w.alloc (.cells cur e)) /\
  Rd P (H ++ [some (.bufL e [] l)]) (upd m H.length (.slice (some ⟨w.heap.size, 0, none⟩) 1 1)) S (w.alloc (.cells cur e)) (.buf H.length) (.slice (some ⟨w.heap.size, 0, none⟩) 1 1) := by
 have hcs : cur.size = i.size := by rw [hl.1, hll]
 refine ⟨Stp.push hp rfl rfl rfl (by simp) (fun b hb => Below.heap_alloc w _ _ hb) (fun hk => ?_) (fun b hb => ?_), ?_⟩
 ·refine ⟨i, cur.toList, hi, hsz, ⟨by simp [hcs], .inr ⟨w.heap.size, 1, cur, rfl, Nat.zero_le _, heap_alloc_new w _, Nat.le_refl _, by simp only [maxLen]; omega, by rw [hcs, Nat.one_mul], ?_⟩⟩, by simp, hll, by simp [flat], fun k c hk' => ?_⟩
  ·simp only [List.length_nil, Nat.zero_add, Nat.one_mul]
   rw [List.take_of_length_le (by simp [hcs])]
  ·have h1 := hl.2 k c hk'
   have hlt : k < cur.size := by rw [hcs, <- hll]; exact (List.getElem?_eq_some_iff.1 hk').1
   have e1 : cur.getD k undef = cur[k] := by simp [Array.getD, hlt]
   rw [e1] at h1
   exact ⟨cur[k], by simp [hlt], h1.1.mono hk (fun _ h => h) (older_push _ _), h1.2⟩
 ·have hb := (own_iff rfl).1 hb
  simp [Abs.blk, Value.ownBlock] at hb
  omega
 ·exact .buf _ _ _ _ (by simp) fun o hl => if_pos rfl
theorem Stp.appendW (hp : Hp P H m S w) {id : Nat} {e e2 : TypeId} {nl : Bool} {sz q : Nat} {xs : List PV} {l0 : List AV} (hl : live H id (.rws e nl sz q e2 xs none l0 none)) {A : Sem Value} {zs : List PV} {h' : Option Nat} {l' : List AV} (hzs : ∀ x ∈ zs, x.cells.length = sz)
  (hA : ∀ us, w.ownsRow 0 e sz (m id) xs.length us -> ∃ v' w' news, A.run P w = .ok v' w' /\ w'.ownsRow 0 e sz v' (xs.length + zs.length) (us ++ news) /\ w.grownBy w' (m id).ownBlock /\
   (v' = .slice none 0 0 ↔ m id = .slice none 0 0 /\ zs.length = 0) /\ (v'.ownBlock = (m id).ownBlock \/ v'.ownBlock = some w.heap.size) /\
   ((h' = none /\ (∀ x ∈ zs, x.cells[q]? = some (.list true [])) /\ ∀ (k : Nat) (c : PV), (flat zs)[k]? = some c -> ∃ u : Value, news[k]? = some u /\ RdP S w c u /\ u.oneCell' = true) \/
     (h' = some xs.length /\ zs.length = 1 /\ l'.length = sz /\ ∀ (k : Nat) (c : AV), l'[k]? = some c -> ∃ u : Value, news[k]? = some u /\ Rd P H m S w c u /\ u.oneCell' = true))) :
  ∃ v' w', A.run P w = .ok v' w' /\ Stp P H m S w (H.set id none ++ [some (.rws e (zs.isEmpty && nl) sz q e2 (xs ++ zs) h' l' none)]) (upd m H.length v') S w' /\
   Rd P (H.set id none ++ [some (.rws e (zs.isEmpty && nl) sz q e2 (xs ++ zs) h' l' none)]) (upd m H.length v') S w' (.buf H.length) v' := by
 have hok := hp.obj id _ hl
 obtain ⟨inf, i2, us, hinf, hsz, hq, hi2, h02, ho, hz, hn, hR, hHo, hA1, hA2⟩ := hok
 have hna : ∀ j, notAt none j := fun j h => by cases h
 have hid : id < H.length := (List.getElem?_eq_some_iff.1 hl).1
 obtain ⟨v', w', news, hrun, hown', hgrow, hnil', hat, hnew⟩ := hA us ho
 generalize hO : AO.rws e (zs.isEmpty && nl) sz q e2 (xs ++ zs) h' l' none = O
 have hupd : upd m H.length v' H.length = v' := if_pos rfl
 have hlt : ∀ {j : Nat}, j < H.length -> upd m H.length v' j = m j := fun {j} h => if_neg (by omega)
 have hul : us.length = xs.length * sz := ho.1
 have lv : ∀ {j : Nat} {o : AO}, live (H.set id none ++ [some O]) j o -> (j = H.length /\ o = O) \/ (j ≠ id /\ j < H.length /\ live H j o) := by
  intro j o h
  rcases live_push h with ⟨h3, h4⟩ | ⟨h3, h4⟩
  ·rw [List.length_set] at h3; exact .inl ⟨h3, h4⟩
  ·rw [List.length_set] at h3
   rcases live_set h4 with ⟨_, h6⟩ | ⟨h5, h6⟩
   ·cases h6
   ·exact .inr ⟨h5, h3, h6⟩
 have hold : Older H (H.set id none ++ [some O]) m (upd m H.length v') := by
  refine ⟨by simp, fun j hj o' h => ⟨hlt hj, ?_⟩⟩
  rcases lv h with ⟨h3, _⟩ | ⟨_, _, h3⟩
  ·omega
  ·exact ⟨_, h3, fun e nl xs he => ⟨nl, xs, he, Nat.le_refl _⟩, fun _ _ l he => ⟨l, he⟩, fun _ h => h⟩
 have hk : Keeps S w w' := fun b hb => hgrow.block b (hp.sub b hb) fun he => hp.out id _ b hl (.inl he.symm) hb
 have hold_us : ∀ {j k : Nat}, j < xs.length -> k < sz -> (us ++ news)[j * sz + k]? = us[j * sz + k]? := fun hj hk => List.getElem?_append_left (by rw [hul]; exact row_index hj hk)
 have hnew_us : ∀ {j k : Nat}, xs.length <= j -> (us ++ news)[j * sz + k]? = news[(j - xs.length) * sz + k]? := by
  intro j k hj
  have h1 : xs.length * sz <= j * sz := Nat.mul_le_mul_right _ hj
  rw [List.getElem?_append_right (by omega), hul, Nat.sub_mul]
  congr 1
  omega
 have hrow : ∀ {j b : Nat} {u : Value}, j < xs.length -> us[j * sz + q]? = some u -> u.ownBlock = some b -> w'.heap[b]? = w.heap[b]? /\ b < w.heap.size := by
  intro j b u hj hu hub
  have h1 : Own w (m id) (.rws e nl sz q e2 xs none l0 none) b := .inr ((rowBlk_us ho hq).2 ⟨j, u, hj, hna j, rfl, hu, hub⟩)
  have h2 := (hp.obj id _ hl).blk_lt h1
  exact ⟨hgrow.block b h2 fun he => hA1 j b u hj (hna j) rfl hu hub he.symm, h2⟩
 have hout : ∀ {j b : Nat} {u : Value}, j < xs.length -> us[j * sz + q]? = some u -> u.ownBlock = some b -> v'.ownBlock ≠ some b := by
  intro j b u hj hu hub h
  rcases hat with h1 | h1
  ·exact hA1 j b u hj (hna j) rfl hu hub (h1 ▸ h)
  ·rw [h1] at h
   injection h with h
   have := (hrow hj hu hub).2
   omega
 have hnewrow : ∀ {j : Nat} {u : Value}, xs.length <= j -> j < (xs ++ zs).length -> notAt h' j -> news[(j - xs.length) * sz + q]? = some u -> u = .slice none 0 0 := by
  intro j u hj hjl hne hu
  rcases hnew with ⟨_, h2, h3⟩ | ⟨h1, h2, _⟩
  ·rw [List.length_append] at hjl
   have hjz : j - xs.length < zs.length := by omega
   obtain ⟨u', h4, h5, _⟩ := h3 _ _ (flat_at hzs _ _ (List.getElem?_eq_getElem hjz) q _ (h2 _ (List.getElem_mem hjz)))
   rw [hu] at h4
   injection h4 with h4
   subst h4
   exact rdp_nil h5
  ·rw [List.length_append, h2] at hjl
   exact absurd (by rw [h1]; congr 1; omega) hne
 have hown2 : w'.ownsRow 0 e sz v' (xs ++ zs).length (us ++ news) := by rw [List.length_append]; exact hown'
 have hOK : OK P (H.set id none ++ [some O]) (upd m H.length v') S w' v' O := by
  subst hO
  refine ⟨inf, i2, us ++ news, hinf, hsz, hq, hi2, h02, hown2, fun x hx => (List.mem_append.1 hx).elim (hz x) (hzs x), ?_, fun j y hy hne k c hk' => ?_, fun p hp' => ?_, fun j b u hj hne _ hu hub => ?_, fun j1 j2 b u1 u2 h1 h2 n1 n2 _ _ k1 k2 kb1 kb2 => ?_⟩
  ·rw [hnil', <- hn, Bool.and_eq_true, List.isEmpty_iff]
   constructor
   ·rintro ⟨rfl, h⟩; exact ⟨h, rfl⟩
   ·rintro ⟨h, h0⟩; exact ⟨List.eq_nil_of_length_eq_zero h0, h⟩
  ·by_cases hj : j < xs.length
   ·rw [List.getElem?_append_left hj] at hy
    have hks : k < sz := by rw [<- hz y (List.mem_of_getElem? hy)]; exact (List.getElem?_eq_some_iff.1 hk').1
    obtain ⟨u, h1, h2, h3, h4⟩ := hR j y hy (hna j) k c hk'
    refine ⟨u, by rw [hold_us hj hks]; exact h1, h2, fun h => (h3 h).mono hk (fun _ h => h), fun hkq _ => ?_⟩
    obtain ⟨nl2, ys, h5, h6⟩ := h4 hkq rfl
    subst hkq
    exact ⟨nl2, ys, h5, h6.mono hk (fun _ h => h) fun b hub => (hrow hj h1 hub).1⟩
   ·have hj : xs.length <= j := by omega
    rw [List.getElem?_append_right hj] at hy
    rcases hnew with ⟨_, h2, h3⟩ | ⟨h1, h2, _⟩
    ·obtain ⟨u, h4, h5, h6⟩ := h3 _ c (flat_at hzs _ y hy k c hk')
     refine ⟨u, by rw [hnew_us hj]; exact h4, h6, fun _ => h5.mono hk (fun _ h => h), fun hkq _ => ?_⟩
     subst hkq
     rw [h2 y (List.mem_of_getElem? hy)] at hk'
     injection hk' with hk'
     subst hk'
     exact ⟨true, [], rfl, by rw [rdp_nil h5]; exact okb_nil hi2 h02⟩
    ·have := (List.getElem?_eq_some_iff.1 hy).1
     exact absurd (by rw [h1]; congr 1; omega) hne
  ·rcases hnew with ⟨h1, _⟩ | ⟨h1, h2, h3, h4⟩
   ·rw [h1] at hp'; cases hp'
   ·rw [h1] at hp'
    injection hp' with hp'
    subst hp'
    refine ⟨by rw [List.length_append]; omega, h3, fun k c hk' => ?_⟩
    obtain ⟨u, h5, h6, h7⟩ := h4 k c hk'
    refine ⟨u, ?_, h6.mono hk (fun _ h => h) hold, h7⟩
    rw [hnew_us (Nat.le_refl _), Nat.sub_self, Nat.zero_mul, Nat.zero_add]
    exact h5
  ·by_cases hjx : j < xs.length
   ·rw [hold_us hjx hq] at hu
    exact hout hjx hu hub
   ·rw [hnew_us (by omega)] at hu
    rw [hnewrow (by omega) hj hne hu] at hub
    cases hub
  ·by_cases hj1 : j1 < xs.length
   ·rw [hold_us hj1 hq] at k1
    by_cases hj2 : j2 < xs.length
    ·rw [hold_us hj2 hq] at k2
     exact hA2 j1 j2 b u1 u2 hj1 hj2 (hna _) (hna _) rfl rfl k1 k2 kb1 kb2
    ·rw [hnew_us (by omega)] at k2
     rw [hnewrow (by omega) h2 n2 k2] at kb2
     cases kb2
   ·rw [hnew_us (by omega)] at k1
    rw [hnewrow (by omega) h1 n1 k1] at kb1
    cases kb1
 have hform : ∃ a l c, v' = .slice a l c := by
  rcases hown'.2 with ⟨h, _⟩ | ⟨g, cap, cur, h, _⟩
  ·exact ⟨_, _, _, h⟩
  ·exact ⟨_, _, _, h⟩
 refine ⟨v', w', hrun, Stp.at_ (fun j => j = H.length \/ j = id) hp hold (fun j o hj h => ?_) hgrow.os hgrow.tape hgrow.output hgrow.size (fun b hlt hn => ?_) (fun j o hj h _ => ?_) (fun j o b hj h hbb => ?_) (fun i j oi oj b hi hj hli hlj _ _ => ?_), ?_⟩
 ·rcases lv h with ⟨h3, _⟩ | ⟨_, h4, h3⟩
  ·exact absurd (.inl h3) hj
  ·exact ⟨h3, hlt h4⟩
 ·exact hgrow.block b hlt fun he => hn id _ (.inr rfl) hl (.inl he.symm)
 ·rcases lv h with ⟨rfl, rfl⟩ | ⟨h3, h4, _⟩
  ·rw [hupd]; exact hOK
  ·rcases hj with h | h
   ·omega
   ·exact absurd h h3
 ·rcases lv h with ⟨rfl, rfl⟩ | ⟨h3, h4, _⟩
  ·rw [hupd] at hbb
   rcases hbb with hbb | hbb
   ·have hbb : v'.ownBlock = some b := by rw [<- hO] at hbb; exact hbb
    rcases hat with h1 | h1
    ·exact .inl ⟨id, _, .inr rfl, hl, .inl (by show (m id).ownBlock = some b; rw [<- h1]; exact hbb)⟩
    ·rw [h1] at hbb
     injection hbb with hbb
     exact .inr (by omega)
   ·rw [<- hO] at hbb
    obtain ⟨j, u, g1, g2, _, g4, g5⟩ := (rowBlk_us hown2 hq).1 hbb
    by_cases hjx : j < xs.length
    ·rw [hold_us hjx hq] at g4
     exact .inl ⟨id, _, .inr rfl, hl, .inr ((rowBlk_us ho hq).2 ⟨j, u, hjx, hna j, rfl, g4, g5⟩)⟩
    ·rw [hnew_us (by omega)] at g4
     rw [hnewrow (by omega) g1 g2 g4] at g5
     cases g5
  ·rcases hj with h | h
   ·omega
   ·exact absurd h h3
 ·have key : ∀ {j : Nat} {o : AO}, (j = H.length \/ j = id) -> live (H.set id none ++ [some O]) j o -> j = H.length := fun {j o} hj h => by
   rcases lv h with ⟨h, _⟩ | ⟨h3, h4, _⟩
   ·exact h
   ·rcases hj with h | h
    ·exact h
    ·exact absurd h h3
  rw [key hi hli, key hj hlj]
 ·obtain ⟨a, l, c, rfl⟩ := hform
  exact .buf _ _ _ _ (by simp) fun o _ => hupd
theorem Stp.appendWp (hp : Hp P H m S w) {t ty e e2 : TypeId} {i : TypeInfo} {z : Value} (ht : P.underlying t = some (.slice e)) (hi : P.info? e = some i) (hz : i.zero = some z) (hzs : z.cells.size = i.size) (hsz : 0 < i.size)
  {id : Nat} {nl : Bool} {q : Nat} {xs zs : List PV} {l0 : List AV} {vs : Value} (hl : live H id (.rws e nl i.size q e2 xs none l0 none)) (hs : Src S w i.size zs vs) (hq : ∀ x ∈ zs, x.cells[q]? = some (.list true [])) (h63 : xs.length + zs.length <= maxLen) (hbytes : (xs.length + zs.length) * i.bytes <= 140737488355328) :
  ∃ v' w', (Builtin.append_ #[t, t] ty #[m id, vs]).run P w = .ok v' w' /\
   Stp P H m S w (H.set id none ++ [some (.rws e (zs.isEmpty && nl) i.size q e2 (xs ++ zs) none [] none)]) (upd m H.length v') S w' /\
   Rd P (H.set id none ++ [some (.rws e (zs.isEmpty && nl) i.size q e2 (xs ++ zs) none [] none)]) (upd m H.length v') S w' (.buf H.length) v' := by
 refine Stp.appendW hp hl hs.ok fun us ho => ?_
 have some_ : ∀ (a : Addr) (c : Nat) (news : List Value), vs = .slice (some a) zs.length c -> news.length = zs.length * i.size -> (∀ (j : Nat) (u : Value), news[j]? = some u -> w.cell? (a.add j) = some u) ->
   (∀ (k : Nat) (c : PV), (flat zs)[k]? = some c -> ∃ u : Value, news[k]? = some u /\ RdP S w c u /\ u.oneCell' = true) -> ∃ v' w' news, (Builtin.append_ #[t, t] ty #[m id, vs]).run P w = .ok v' w' /\ w'.ownsRow 0 e i.size v' (xs.length + zs.length) (us ++ news) /\ w.grownBy w' (m id).ownBlock /\
  (v' = .slice none 0 0 ↔ m id = .slice none 0 0 /\ zs.length = 0) /\ (v'.ownBlock = (m id).ownBlock \/ v'.ownBlock = some w.heap.size) /\
  ∀ (k : Nat) (c : PV), (flat zs)[k]? = some c -> ∃ u : Value, news[k]? = some u /\ RdP S w c u /\ u.oneCell' = true := by
  rintro a c news rfl hl hat hr
  have h1 : ∀ u ∈ news, u.oneCell' = true := by
   intro u hu
   obtain ⟨j, hj, rfl⟩ := List.mem_iff_getElem.1 hu
   have hjf : j < (flat zs).length := by rw [flat_length hs.ok]; omega
   obtain ⟨u', hu', _, h1⟩ := hr j _ (List.getElem?_eq_getElem hjf)
   rw [List.getElem?_eq_getElem hj] at hu'
   injection hu' with hu'
   rw [hu']
   exact h1
  obtain ⟨v', w', h2, h3, h4, h5, h6⟩ := run_append_own_at (P := P) w 0 t ty e i z i.size i.bytes ht hi hz rfl rfl hzs hsz (m id) xs.length us ho a zs.length c news hl hat h1 h63 hbytes (Nat.zero_le _)
  exact ⟨v', w', news, h2, h3, h4, h5, h6, hr⟩
 rcases hs.at_ with ⟨rfl, a, c, rfl⟩ | ⟨a, c, news, h1, h2, h3, h4⟩
 ·rcases a with _ | a
  ·exact ⟨m id, w, [], run_append_nilSrc 0 t ty e i ht hi _ _ us ho c, by simpa using ho, ⟨rfl, rfl, rfl, Nat.le_refl _, fun _ _ _ => rfl⟩, by simp, .inl rfl, .inl ⟨rfl, hq, by simp [flat]⟩⟩
  ·obtain ⟨v', w', news, g1, g2, g3, g4, g5, g6⟩ := some_ a c [] rfl (by simp) (by simp) (by simp [flat])
   exact ⟨v', w', news, g1, g2, g3, g4, g5, .inl ⟨rfl, hq, g6⟩⟩
 ·obtain ⟨v', w', news, g1, g2, g3, g4, g5, g6⟩ := some_ a c news h1 h2 h3 h4
  exact ⟨v', w', news, g1, g2, g3, g4, g5, .inl ⟨rfl, hq, g6⟩⟩
theorem Stp.appendWl (hp : Hp P H m S w) {t ty e e2 : TypeId} {i : TypeInfo} {z : Value} (ht : P.underlying t = some (.slice e)) (hi : P.info? e = some i) (hz : i.zero = some z) (hzs : z.cells.size = i.size) (hsz : 0 < i.size)
  {id j : Nat} {nl : Bool} {q : Nat} {xs : List PV} {l0 l : List AV} (hl : live H id (.rws e nl i.size q e2 xs none l0 none)) (hj : live H j (.bufL e [] l)) {y : PV} (hy : y.cells.length = i.size) (h63 : xs.length + 1 <= maxLen) (hbytes : (xs.length + 1) * i.bytes <= 140737488355328) :
  ∃ v' w', (Builtin.append_ #[t, t] ty #[m id, m j]).run P w = .ok v' w' /\
   Stp P H m S w (H.set id none ++ [some (.rws e false i.size q e2 (xs ++ [y]) (some xs.length) l none)]) (upd m H.length v') S w' /\
   Rd P (H.set id none ++ [some (.rws e false i.size q e2 (xs ++ [y]) (some xs.length) l none)]) (upd m H.length v') S w' (.buf H.length) v' := by
 obtain ⟨i', g, cap, cur, hi', _, hm, hh, hc1, hc2, hcs, hll, _, _, hr⟩ := bufL_form hp hj
 rw [hi] at hi'
 injection hi' with hi'
 subst hi'
 simp only [List.length_nil, Nat.zero_mul, Nat.zero_add] at hm hc1 hr
 refine Stp.appendW (zs := [y]) (nl := nl) hp hl (fun x hx => by rw [List.mem_singleton] at hx; rw [hx]; exact hy) fun us ho => ?_
 have hle : i.size <= cur.toList.length := by
  have : 1 * i.size <= cap * i.size := Nat.mul_le_mul_right _ hc1
  rw [Array.length_toList, hcs]
  omega
 have hnl : (cur.toList.take i.size).length = 1 * i.size := by rw [List.length_take]; omega
 have hnk : ∀ {k : Nat} {u : Value}, (cur.toList.take i.size)[k]? = some u -> k < i.size /\ cur.toList[k]? = some u := by
  intro k u hu
  rw [List.getElem?_take] at hu
  split at hu
  ·exact ⟨by assumption, hu⟩
  ·cases hu
 obtain ⟨v', w', h2, h3, h4, h5, h6⟩ := run_append_own_at (P := P) w 0 t ty e i z i.size i.bytes ht hi hz rfl rfl hzs hsz (m id) xs.length us ho ⟨g, 0, none⟩ 1 cap (cur.toList.take i.size) hnl (fun k u hu => by
  rw [add_lit, Nat.zero_add, cell_at hh, <- Array.getElem?_toList]
  exact (hnk hu).2) (fun u hu => by
  obtain ⟨k, hk, rfl⟩ := List.mem_iff_getElem.1 hu
  have hku := hnk (List.getElem?_eq_getElem hk)
  obtain ⟨u', h7, _, h8⟩ := hr k _ (List.getElem?_eq_getElem (by rw [hll]; exact hku.1))
  rw [hku.2] at h7
  injection h7 with h7
  rw [h7]
  exact h8) h63 hbytes (Nat.zero_le _)
 rw [hm]
 refine ⟨v', w', _, h2, h3, h4, h5, h6, .inr ⟨rfl, rfl, hll, fun k c hk => ?_⟩⟩
 obtain ⟨u, h7, h8, h9⟩ := hr k c hk
 refine ⟨u, ?_, h8, h9⟩
 rw [List.getElem?_take, if_pos (by rw [<- hll]; exact (List.getElem?_eq_some_iff.1 hk).1)]
 exact h7
end
end Go.Abs
namespace Go.Abs
open Go.RowKit
def baseCells (i : TI) (len : Nat) : List AV := (List.range (len * i.size)).map fun k => AV.p (ofCell (i.zero.cells.getD (k % i.zero.cells.size) undef))
def chunk (ag : Bool) (sz : Nat) : Nat -> List PV -> List PV
 | 0, _ => []
 | n + 1, ps => (match ag with
  | true => .agg (ps.take sz)
  | false => match ps with
   | c :: _ => c
   | [] => .agg []) :: chunk ag sz n (ps.drop sz)
def wpSrc (H : AH) (e : TypeId) (sz : Nat) (x : AV) (k : List PV -> Prop) : Prop := match x with
 | .p (.list _ ys) => SzA ys sz (k ys)
 | .buf id2 => match H[id2]? with
  | some (some (.buf e2 _ ys)) => match Nat.beq e e2 with
   | true => k ys
   | false => False
  | some (some (.frz _ ys)) => SzA ys sz (k ys)
  | _ => False
 | _ => False
def wpApp1 (H : AH) (e : TypeId) (sz by_ : Nat) (ob : Option Nat) (nl : Bool) (xs : List PV) (x : AV) (k : AV -> AH -> Prop) : Prop :=
 wpSrc H e sz x fun ys => AppA xs ys by_ fun zs => k (.buf H.length) (kill H ob ++ [some (.buf e (ys.isEmpty && nl) zs)])
def wpApp2 (H : AH) (id : Nat) (sz by_ : Nat) (nl : Bool) (xs : List PV) (e : TypeId) (x : AV) (k : AV -> AH -> Prop) : Prop :=
 wpSrc H e sz x fun ys => AppA xs ys by_ fun zs => k (.buf H.length) (H.set id (some (.frz nl xs)) ++ [some (.frz (ys.isEmpty && nl) zs)])
inductive RowNil (ys : List PV) (q : Nat) (X : Prop) : Prop
 | mk (h : ∀ x ∈ ys, x.cells[q]? = some (.list true [])) (hk : X)
def hole0 (sz : Nat) : PV := .agg (List.replicate sz (.list true []))
def hasR (H : AH) : Bool := H.any fun o => match o with
 | some (.rws _ _ _ _ _ _ _ _ _) => true
 | _ => false
def litW (H : AH) (len : Nat) : List (Nat × AV) -> Option AV
 | [(0, x)] => match len, hasR H, avIds H x with
  | 1, true, _ :: _ => some x
  | _, _, _ => none
 | _ => none
def wpAppW0 (H : AH) (e : TypeId) (sz by_ id : Nat) (nl : Bool) (q : Nat) (e2 : TypeId) (xs : List PV) (x : AV) (k : AV -> AH -> Prop) : Prop :=
 wpSrc H e sz x fun ys => RowNil ys q (AppA xs ys by_ fun zs => k (.buf H.length) (H.set id none ++ [some (.rws e (ys.isEmpty && nl) sz q e2 zs none [] none)]))
def wpAppW (H : AH) (e : TypeId) (sz by_ id : Nat) (nl : Bool) (q : Nat) (e2 : TypeId) (xs : List PV) (x : AV) (k : AV -> AH -> Prop) : Prop := match x with
 | .buf j => match H[j]? with
  | some (some (.bufL e3 [] l)) => match Nat.beq e e3 with
   | true => AppA xs [hole0 sz] by_ fun zs => k (.buf H.length) (H.set id none ++ [some (.rws e false sz q e2 zs (some xs.length) l none)])
   | false => False
  | _ => wpAppW0 H e sz by_ id nl q e2 xs x k
 | _ => wpAppW0 H e sz by_ id nl q e2 xs x k
def wpAppend (ti : TypeId -> Option TI) (H : AH) (t : TypeId) (s x : AV) (k : AV -> AH -> Prop) : Prop := match ti t with
 | some ⟨.sl e, _, _, _⟩ => match ti e with
  | some ⟨_, sz + 1, by_, _⟩ => match s with
   | .p (.list true []) => wpApp1 H e (sz + 1) by_ none true [] x k
   | .buf id => match H[id]? with
    | some (some (.buf e' nl xs)) => match Nat.beq e e' with
     | true => AppC (wpApp1 H e (sz + 1) by_ (some id) nl xs x k) (wpApp2 H id (sz + 1) by_ nl xs e x k)
     | false => False
    | some (some (.rws e' nl sz' q e2 xs none _ none)) => match Nat.beq e e' && Nat.beq sz' (sz + 1) with
     | true => wpAppW H e (sz + 1) by_ id nl q e2 xs x k
     | false => False
    | _ => False
   | .cap _ xs => wpSrc H e (sz + 1) x fun ys => SzA xs (sz + 1) ((0 < ys.length /\ 0 < ys.length) /\ AppA xs ys by_ fun zs => k (.buf H.length) (H ++ [some (.buf e false zs)]))
   | .sub id lo hi => match H[id]? with
    | some (some (.buf e' _ xs)) => match Nat.beq e e' with
     | true => wpSrc H e (sz + 1) x fun ys => ApSub xs ys lo hi by_ fun lo' zs => k (.sub H.length lo' zs.length) (kill H (some id) ++ [some (.buf e false zs)])
     | false => False
    | _ => False
   | _ => False
  | _ => False
 | _ => False
def thawO (H : AH) (x : AV) : AV := match pvOf H x with
 | some y => .p y
 | none => match x.one with
  | true => .opq
  | false => .dead
def valV : AV -> AV
 | .clo fn [] => .p (.v (.func fn #[] #[]))
 | x => x
def wpE (ti : TypeId -> Option TI) (σ : AS) (H : AH) (op : Op) (k : AV -> AH -> Prop) : Prop := match op with
 | .alloc t => match ti t with
  | some i => match bigAr i with
   | true => k (.ptr H.length 0) (H ++ [some (.arr (zeroP i))])
   | false => k (.ptr H.length 0) (H ++ [some (.cells (zeroCells i))])
  | none => False
 | .box _ x => match (σ.ev x).cells.all AV.one with
  | true => k (.ptr H.length 0) (H ++ [some (.cells (σ.ev x).cells)])
  | false => False
 | .makeSlice t l c => match ti t with
  | some ⟨.sl e, _, _, _⟩ => match ti e, asI (σ.ev l), asI (σ.ev c) with
   | some ⟨_, _ + 1, by_, z⟩, some l, some c => (0 <= l /\ l <= c /\ (by_ : Int) * c <= 281474976710656 /\ c <= 9223372036854775807) /\ IsL (List.replicate l.toNat (pz z)) fun ys => k (.buf H.length) (H ++ [some (.buf e false ys)])
   | _, _, _ => False
  | _ => False
 | .buildSlice t len parts => match litW H len (parts.toList.map fun p => (p.1, σ.ev p.2)) with
  | some x => match ti t with
   | some ⟨.sl e, _, _, _⟩ => match ti e with
    | some ie => match x.cells.all AV.one && Nat.beq x.cells.length ie.size && Nat.ble ie.size 16777216 && Nat.blt 0 ie.size with
     | true => k (.buf H.length) (H ++ [some (.bufL e [] x.cells)])
     | false => False
    | none => False
   | _ => False
  | none => match ti t with
  | some ⟨.sl e, _, _, _⟩ => match ti e with
   | some ie =>
    let H1 := frzAll H (parts.toList.flatMap fun p => avIds H (σ.ev p.2))
    match fillA (fun j => some (j * ie.size, ie.size)) (baseCells ie len) (parts.toList.map fun p => (p.1, thawO H1 (σ.ev p.2))) with
    | some cs => match allP cs with
     | some ps => match ps.all PV.one && Nat.ble (len * ie.size) 16777216 && Nat.blt 0 ie.size && (ie.k.isAgg || Nat.beq ie.size 1) with
      | true => IsL (chunk ie.k.isAgg ie.size len ps) fun ys => k (.buf H1.length) (H1 ++ [some (.buf e false ys)])
      | false => False
     | none => match Nat.ble (len * ie.size) 16777216 && Nat.blt 0 ie.size with
      | true => k .opq H1
      | false => False
    | none => False
   | none => False
  | _ => False
 | .store t a x => match ti t with
  | some i => match σ.ev a with
   | .ptr id off => match H[id]? with
    | some (some (.cells cs)) => match (σ.ev x).cells.all AV.one && Nat.beq (σ.ev x).cells.length i.size && Nat.ble (off + i.size) cs.length with
     | true => k .dead (H.set id (some (.cells (setAt cs off (σ.ev x).cells))))
     | false => False
    | some (some (.arr xs)) => wpStoreArr i H id off xs (σ.ev x) k
    | _ => False
   | .bptr id ix off =>
    let H1 := frzAll H (avIds H (σ.ev x))
    match pvOf H1 (σ.ev x), H1[id]? with
    | some px, some (some (.buf e nl xs)) => match px.cells.all PV.one && Nat.beq px.cells.length i.size && Nat.blt 0 i.size with
     | true => IdxA xs ix fun y => match Nat.ble (off + i.size) y.cells.length with
      | true => IsL (xs.set ix (y.setAt off px.cells)) fun ys => k .dead (H1.set id (some (.buf e nl ys)))
      | false => False
     | false => False
    | _, _ => False
   | .lptr id off => match H[id]? with
    | some (some (.bufL e xs l)) => match (σ.ev x).cells.all AV.one && Nat.beq (σ.ev x).cells.length i.size && Nat.ble (off + i.size) l.length with
     | true => k .dead (H.set id (some (.bufL e xs (setAt l off (σ.ev x).cells))))
     | false => False
    | _ => False
   | .wptr id ix off => match H[id]? with
    | some (some (.rws e nl sz q e2 xs (some p) l g)) => match (σ.ev x).cells.all AV.one && Nat.beq (σ.ev x).cells.length i.size && Nat.ble (off + i.size) l.length with
     | true => ix = p /\ k .dead (H.set id (some (.rws e nl sz q e2 xs (some p) (setAt l off (σ.ev x).cells) g)))
     | false => False
    | _ => False
   | _ => False
  | none => False
 | .call c => match c.callee with
  | .builtin .append => match c.args.toList, c.argTypes.toList with
   | [s, x], [t, t'] => match Nat.beq t t' with
    | true => wpAppend ti H t (σ.ev s) (σ.ev x) k
    | false => wpAppZ ti H t t' (σ.ev s) (σ.ev x) k
   | _, _ => False
  | .builtin .copy => match c.args.toList, c.argTypes.toList with
   | [x, y], [t, _] => wpCopy ti H t (σ.ev x) (σ.ev y) k
   | _, _ => False
  | .builtin .clear => match c.args.toList, c.argTypes.toList with
   | [x], [t] => wpClear ti H t (σ.ev x) k
   | _, _ => False
  | _ => False
 | .lookup t x ix ok => wpLookup ti H t ok (σ.ev x) (σ.ev ix) fun v => k v H
 | .makeMap _ r => match r with
  | none => k (.mp H.length) (H ++ [some (.map [])])
  | some _ => False
 | .mapUpdate t x ix v => wpMapUpdate ti H t (σ.ev x) (σ.ev ix) (σ.ev v) k
 | .insert t x ix v => wpMapUpdate ti H t (σ.ev x) (σ.ev ix) (valV (σ.ev v)) k
 | .convert s d x => wpConvB ti H s d (σ.ev x) fun v => k v H
 | .slice t x lo hi mx => wpCutArr ti H t (σ.ev x) (lo.map σ.ev) (hi.map σ.ev) (mx.map σ.ev) k
 | _ => False
section
variable {P : Program} {ti : TypeId -> Option TI} {H : AH} {m : Nat -> Value} {S : Nat -> Prop} {w : World} {σ : AS} {a : Act}
theorem allP_at {cs : List AV} {ps : List PV} (h : allP cs = some ps) {vs : Array Value} (hr : RdL P H m S w cs vs) : vs.size = ps.length /\ ∀ (k : Nat) (c : PV), ps[k]? = some c -> ∃ u : Value, vs[k]? = some u /\ RdP S w c u /\ u.oneCell' = true := by
 have he := allP_some h
 subst he
 refine ⟨by rw [hr.1, List.length_map], fun k c hk => ?_⟩
 have h1 := hr.2 k (.p c) (by simp [hk])
 have hlt : k < vs.size := by rw [hr.1, List.length_map]; exact (List.getElem?_eq_some_iff.1 hk).1
 refine ⟨vs.getD k undef, by simp [Array.getD, hlt], ?_, h1.2⟩
 cases h1.1 with | p _ _ h => exact h
theorem chunk_spec (ag : Bool) (sz : Nat) (h0 : 0 < sz) (hag : ag = true \/ sz = 1) : ∀ (n : Nat) (ps : List PV), ps.length = n * sz -> ps.all PV.one = true ->
  (chunk ag sz n ps).length = n /\ flat (chunk ag sz n ps) = ps /\ ∀ x ∈ chunk ag sz n ps, x.cells.length = sz
 | 0, ps, hl, _ => by
  have : ps = [] := List.eq_nil_of_length_eq_zero (by simpa using hl)
  subst this
  simp [chunk, flat]
 | n + 1, ps, hl, h1 => by
  rw [Nat.succ_mul] at hl
  have hd : (ps.drop sz).all PV.one = true := by
   rw [List.all_eq_true] at h1 ⊢
   exact fun x hx => h1 x (List.mem_of_mem_drop hx)
  obtain ⟨h2, h3, h4⟩ := chunk_spec ag sz h0 hag n (ps.drop sz) (by rw [List.length_drop]; omega) hd
  have hfirst : ∃ y : PV, chunk ag sz (n + 1) ps = y :: chunk ag sz n (ps.drop sz) /\ y.cells = ps.take sz := by
   cases ag with
   | true => exact ⟨_, rfl, rfl⟩
   | false =>
    have hs1 : sz = 1 := by rcases hag with h | h; cases h; exact h
    subst hs1
    match ps, hl with
    | c :: r, _ =>
     refine ⟨c, rfl, ?_⟩
     have : c.one = true := by simp at h1; exact h1.1
     rw [cells_one this]
     rfl
  obtain ⟨y, hy, hyc⟩ := hfirst
  rw [hy]
  refine ⟨by simp [h2], ?_, fun x hx => ?_⟩
  ·simp only [flat, List.flatMap_cons] at h3 ⊢
   rw [h3, hyc, List.take_append_drop]
  ·rcases List.mem_cons.1 hx with rfl | hx
   ·rw [hyc, List.length_take]; omega
   ·exact h4 x hx
theorem base_rdl {e : TypeId} {ie : TI} (hie : tiOf P e = some ie) (len : Nat) (h0 : 0 < ie.size) : RdL P H m S w (baseCells ie len) ((Array.range (len * ie.size)).map (ie.zero.cells[· % ie.zero.cells.size]!)) := by
 obtain ⟨inf, d, _, _, _, _, _, _, hzs, h1⟩ := tiOf_spec hie
 refine ⟨by simp [baseCells], fun k c hk => ?_⟩
 simp only [baseCells, List.getElem?_map, Option.map_eq_some_iff] at hk
 obtain ⟨k', hk', rfl⟩ := hk
 have hlt : k < len * ie.size := by have := (List.getElem?_eq_some_iff.1 hk').1; simpa using this
 have : k' = k := by simpa [hlt] using hk'.symm
 subst this
 have hml : k' % ie.zero.cells.size < ie.zero.cells.size := Nat.mod_lt _ (by omega)
 have e1 : ((Array.range (len * ie.size)).map (ie.zero.cells[· % ie.zero.cells.size]!)).getD k' undef = ie.zero.cells[k' % ie.zero.cells.size] := by
  simp [Array.getD, hlt, hml]
 have e2 : ie.zero.cells.getD (k' % ie.zero.cells.size) undef = ie.zero.cells[k' % ie.zero.cells.size] := by simp [Array.getD, hml]
 rw [e1, e2]
 have ho := h1 _ (Array.getElem_mem hml)
 exact ⟨.p _ _ (ofCell_sound ho), ho⟩
theorem wpSrc_sound (hp : Hp P H m S w) {e : TypeId} {x : AV} {vx : Value} {k : List PV -> Prop} {i : TypeInfo} (hi : P.info? e = some i) (h : wpSrc H e i.size x k) (hx : Rd P H m S w x vx) : ∃ ys, k ys /\ Src S w i.size ys vx := by
 unfold wpSrc at h
 split at h
 ·cases hx with | p _ _ hr => exact ⟨_, h.2, src_of_list hr h.1⟩
 ·rename_i id2
  split at h
  ·rename_i e2 nl2 ys hH
   split at h
   ·rename_i hbe
    obtain rfl := Nat.eq_of_beq_eq_true hbe
    have hv := hx.bufAt hH
    subst hv
    exact ⟨_, h, src_of_buf hp hH hi⟩
   ·cases h
  ·rename_i nl2 ys hH
   have hv := hx.bufAt hH
   subst hv
   exact ⟨_, h.2, src_of_list (hp.obj _ _ hH) h.1⟩
  ·cases h
 ·cases h
theorem hole0_length (sz : Nat) : (hole0 sz).cells.length = sz := by simp [hole0, PV.cells]
theorem wpAppW0_sound (hp : Hp P H m S w) {t ty e e2 : TypeId} {inf : TypeInfo} {z : Value} {sz by_ id q : Nat} {nl : Bool} {xs : List PV} {l0 : List AV} {x : AV} {vx : Value} {k : AV -> AH -> Prop} (hu : P.underlying t = some (.slice e)) (hinf : P.info? e = some inf) (hsz : inf.size = sz + 1) (hby : inf.bytes = by_) (hz : inf.zero = some z) (hzs : z.cells.size = sz + 1)
  (hH : live H id (.rws e nl (sz + 1) q e2 xs none l0 none)) (h : wpAppW0 H e (sz + 1) by_ id nl q e2 xs x k) (hx : Rd P H m S w x vx) :
  ∃ av H' m' S' v w', k av H' /\ (Builtin.append_ #[t, t] ty #[m id, vx]).run P w = .ok v w' /\ Stp P H m S w H' m' S' w' /\ Rd P H' m' S' w' av v := by
 unfold wpAppW0 at h
 rw [<- hsz] at h hH hzs
 obtain ⟨ys, ⟨hq, ⟨_, rfl, ⟨h1, h2⟩, hk⟩⟩, hsrc⟩ := wpSrc_sound hp hinf h hx
 rw [List.length_append] at h1 h2
 obtain ⟨v', w', h3, h4, h5⟩ := Stp.appendWp (ty := ty) hp hu hinf hz hzs (by omega) hH hsrc hq h1 (by rw [hby]; exact h2)
 exact ⟨_, _, _, _, v', w', hk, h3, h4, h5⟩
theorem wpAppW_sound (hp : Hp P H m S w) {t ty e e2 : TypeId} {inf : TypeInfo} {z : Value} {sz by_ id q : Nat} {nl : Bool} {xs : List PV} {l0 : List AV} {x : AV} {vx : Value} {k : AV -> AH -> Prop} (hu : P.underlying t = some (.slice e)) (hinf : P.info? e = some inf) (hsz : inf.size = sz + 1) (hby : inf.bytes = by_) (hz : inf.zero = some z) (hzs : z.cells.size = sz + 1)
  (hH : live H id (.rws e nl (sz + 1) q e2 xs none l0 none)) (h : wpAppW H e (sz + 1) by_ id nl q e2 xs x k) (hx : Rd P H m S w x vx) :
  ∃ av H' m' S' v w', k av H' /\ (Builtin.append_ #[t, t] ty #[m id, vx]).run P w = .ok v w' /\ Stp P H m S w H' m' S' w' /\ Rd P H' m' S' w' av v := by
 unfold wpAppW at h
 split at h
 ·rename_i j
  split at h
  ·rename_i e3 l hj
   split at h
   ·rename_i hbe
    obtain rfl := Nat.eq_of_beq_eq_true hbe
    have hv := hx.bufAt hj
    subst hv
    rw [<- hsz] at h hH hzs
    obtain ⟨_, rfl, ⟨h1, h2⟩, hk⟩ := h
    rw [List.length_append, List.length_singleton] at h1 h2
    obtain ⟨v', w', h3, h4, h5⟩ := Stp.appendWl (ty := ty) hp hu hinf hz hzs (by omega) hH hj (y := hole0 inf.size) (hole0_length _) h1 (by rw [hby]; exact h2)
    exact ⟨_, _, _, _, v', w', hk, h3, h4, h5⟩
   ·cases h
  ·exact wpAppW0_sound (ty := ty) hp hu hinf hsz hby hz hzs hH h hx
 ·exact wpAppW0_sound (ty := ty) hp hu hinf hsz hby hz hzs hH h hx
theorem thawO_sound (hp : Hp P H m S w) {x : AV} {v : Value} (hx : Rd P H m S w x v) : Rd P H m S w (thawO H x) v := by
 unfold thawO
 split
 ·rename_i y hy
  exact .p _ _ (pvOf_sound hp hy hx)
 ·split
  ·rename_i h1
   refine .opq _ ?_
   cases hx with
   | p _ _ h =>
    cases h with
    | v _ h => exact h
    | nil => rfl
    | list => rfl
    | agg => cases h1
   | opq _ h => exact h
   | agg => cases h1
   | tup => cases h1
   | dead => cases h1
   | cap => cases h1
   | _ => rfl
  ·exact .dead _
theorem valV_sound {x : AV} {v : Value} (h : Rd P H m S w x v) : Rd P H m S w (valV x) v := by
 unfold valV
 split
 ·cases h with
  | clo _ _ vs hl _ =>
   have : vs = #[] := by apply Array.eq_empty_of_size_eq_zero; simpa using hl
   subst this
   exact .p _ _ (.v _ rfl)
 ·exact h
theorem setAt_full : ∀ (xs cs : List AV), xs.length = cs.length -> Abs.setAt cs 0 xs = xs := by
 intro xs cs hl
 refine List.ext_getElem? fun k => ?_
 have hsl := setAt_length 0 xs 0 cs
 rw [Nat.add_zero] at hsl
 by_cases hk : k < xs.length
 ·have h1 := List.getElem?_eq_getElem (l := Abs.setAt cs 0 xs) (i := k) (by omega)
  rcases setAt_at xs 0 cs k _ h1 (by omega) with ⟨j, rfl, hj⟩ | ⟨h2, _⟩
  ·rw [h1, <- hj]; congr 1; omega
  ·omega
 ·rw [List.getElem?_eq_none (by omega), List.getElem?_eq_none (by omega)]
theorem litW_some {len : Nat} {l : List (Nat × AV)} {x : AV} (h : litW H len l = some x) : l = [(0, x)] /\ len = 1 := by
 unfold litW at h
 split at h
 ·split at h
  ·injection h with h
   subst h
   exact ⟨rfl, rfl⟩
  ·cases h
 ·cases h
theorem wpAppend_sound (hT : TabOK P ti) (hp : Hp P H m S w) {t ty : TypeId} {s x : AV} {vs vx : Value} {k : AV -> AH -> Prop} (h : wpAppend ti H t s x k) (hs : Rd P H m S w s vs) (hx : Rd P H m S w x vx) :
  ∃ av H' m' S' v w', k av H' /\ (Builtin.append_ #[t, t] ty #[vs, vx]).run P w = .ok v w' /\ Stp P H m S w H' m' S' w' /\ Rd P H' m' S' w' av v := by
 unfold wpAppend at h
 split at h
 ·rename_i e s1 b1 z1 hti
  have hu := slice_of (hT.ok _ _ hti) rfl
  split at h
  ·rename_i ke sz by_ z hte
   obtain ⟨inf, d, hinf, hd, hz, hsz, hby, _, hzs, _⟩ := tiOf_spec (hT.ok _ _ hte)
   simp only at hsz hby hz hzs
   have fin : ∀ {ob : Option Nat} {nl : Bool} {xs : List PV}, Base H m e ob vs nl xs -> wpApp1 H e (sz + 1) by_ ob nl xs x k ->
     ∃ av H' m' S' v w', k av H' /\ (Builtin.append_ #[t, t] ty #[vs, vx]).run P w = .ok v w' /\ Stp P H m S w H' m' S' w' /\ Rd P H' m' S' w' av v := by
    intro ob nl xs hb h
    unfold wpApp1 at h
    rw [show sz + 1 = inf.size from hsz.symm] at h
    obtain ⟨ys, ⟨_, rfl, ⟨h1, h2⟩, hk⟩, hsrc⟩ := wpSrc_sound hp hinf h hx
    rw [List.length_append] at h1 h2
    obtain ⟨v', w', h3, h4, h5⟩ := Stp.append (ty := ty) hp hu hinf hz (by rw [hsz]; exact hzs) (by omega) hb hsrc h1 (by rw [hby]; exact h2)
    exact ⟨_, _, _, _, v', w', hk, h3, h4, h5⟩
   split at h
   ·exact fin (.inl ⟨rfl, hs.nilList, rfl, rfl⟩) h
   ·rename_i id
    split at h
    ·rename_i e' nl xs hH
     split at h
     ·rename_i hbe
      obtain rfl := Nat.eq_of_beq_eq_true hbe
      rcases h with h | h
      ·exact fin (.inr ⟨id, rfl, hH, hs.bufAt hH⟩) h
      ·unfold wpApp2 at h
       rw [show sz + 1 = inf.size from hsz.symm] at h
       obtain ⟨ys, ⟨_, rfl, ⟨h1, h2⟩, hk⟩, hsrc⟩ := wpSrc_sound hp hinf h hx
       rw [List.length_append] at h1 h2
       have hv := hs.bufAt hH
       subst hv
       obtain ⟨v', w', S', h3, h4, h5⟩ := Stp.appendBoth (ty := ty) hp hu hinf hz (by rw [hsz]; exact hzs) (by omega) hH hsrc h1 (by rw [hby]; exact h2)
       exact ⟨_, _, _, S', v', w', hk, h3, h4, h5⟩
     ·cases h
    ·rename_i e' nl sz' q e2 xs l0 hH
     split at h
     ·rename_i hbe
      simp only [Bool.and_eq_true] at hbe
      obtain rfl := Nat.eq_of_beq_eq_true hbe.1
      obtain rfl := Nat.eq_of_beq_eq_true hbe.2
      have hv := hs.bufAt hH
      subst hv
      exact wpAppW_sound (ty := ty) hp hu hinf hsz hby hz hzs hH h hx
     ·cases h
    ·cases h
   ·rename_i nl xs
    rw [show sz + 1 = inf.size from hsz.symm] at h
    obtain ⟨ys, ⟨hzx, ⟨hy, _⟩, _, rfl, ⟨h1, h2⟩, hk⟩, hsrc⟩ := wpSrc_sound hp hinf h hx
    rw [List.length_append] at h1 h2
    obtain ⟨v', w', h3, h4, h5⟩ := Stp.appendCap (ty := ty) hp hu hinf hz (by rw [hsz]; exact hzs) (by omega) hs hzx hsrc hy h1 (by rw [hby]; exact h2)
    exact ⟨_, _, _, _, v', w', hk, h3, h4, h5⟩
   ·rename_i id lo hi
    split at h
    ·rename_i e' nl xs hH
     split at h
     ·rename_i hbe
      obtain rfl := Nat.eq_of_beq_eq_true hbe
      rw [show sz + 1 = inf.size from hsz.symm] at h
      obtain ⟨ys, ⟨hh, hy, ⟨h1, h2⟩, hk⟩, hsrc⟩ := wpSrc_sound hp hinf h hx
      obtain ⟨lo', zs, v', w', m', h3, h4, h8, h5, h6, h7⟩ := Stp.appendSub (ty := ty) hp hu hinf hz (by rw [hsz]; exact hzs) (by omega) hH hs hh hsrc hy h1 (by rw [hby]; exact h2)
      exact ⟨_, _, _, _, v', w', hk lo' zs h3 h4 h8, h5, h6, h7⟩
     ·cases h
    ·cases h
   ·cases h
  ·cases h
 ·cases h
theorem wpE_sound (hT : TabOK P ti) (hp : Hp P σ.h m S w) (hf : ∀ t, Rd P σ.h m S w (σ.fr t) (a.tmps.getD t undef)) {o : Oper} {k : AV -> AH -> Prop} (h : wpE ti σ σ.h o.op k) :
  ∃ av H' m' S' v w', k av H' /\ ((execOp a.eval o).run P w = .ok (.value v) w' \/ (execOp a.eval o).run P w = .ok .skip w' /\ v = undef) /\ Stp P σ.h m S w H' m' S' w' /\ Rd P H' m' S' w' av v := by
 have E := fun x => ev_sound (P := P) hp.glb hf x
 generalize ho : o.op = op at h
 unfold wpE at h
 split at h
 ·rename_i t
  split at h
  ·rename_i i hti
   have hi := hT.ok _ _ hti
   split at h
   ·obtain ⟨h1, h2⟩ := Stp.newArr hp hi
    exact ⟨_, _, _, _, _, _, h, .inl (by simp only [execOp, ho]; rw [Sem.run_bind, run_alloc_of hi]; rfl), h1, h2⟩
   ·obtain ⟨h1, h2⟩ := Stp.newCells hp (zero_rdl hi) t
    exact ⟨_, _, _, _, _, _, h, .inl (by simp only [execOp, ho]; rw [Sem.run_bind, run_alloc_of hi]; rfl), h1, h2⟩
  ·cases h
 ·rename_i t x
  split at h
  ·rename_i h1
   obtain ⟨h2, h3⟩ := Stp.newCells hp ((E x).cells (one_or h1)) t
   exact ⟨_, _, _, _, _, _, h, .inl (by simp only [execOp, ho]; rw [Sem.run_bind, run_box_of]; rfl), h2, h3⟩
  ·cases h
 ·rename_i t l c
  split at h
  ·rename_i e s1 b1 z1 hti
   have hu := slice_of (hT.ok _ _ hti) rfl
   split at h
   ·rename_i ke sz by_ z l' c' hte hl hc
    obtain ⟨inf, d, hinf, hd, hz, hsz, hby, _, hzs, hz1⟩ := tiOf_spec (hT.ok _ _ hte)
    simp only at hsz hby hz hzs hz1
    obtain ⟨⟨h0, hlc, hb, hm⟩, ⟨_, rfl, hk⟩⟩ := h
    have hm : c' <= (maxLen : Nat) := by simp only [maxLen]; omega
    obtain ⟨kl, hvl⟩ := asI_eq hl (E l)
    obtain ⟨kc, hvc⟩ := asI_eq hc (E c)
    have hrun := run_make (P := P) w t e inf z hu hinf hz kl kc l' c' h0 hlc (by rw [hby]; exact hb) (by omega)
    have hpc : (pz z).cells.length = inf.size := by rw [pz_cells]; simp [hzs, hsz]
    have hnb := Stp.newBuf (P := P) (w := w) (e := e) (i := inf) (xs := List.replicate l'.toNat (pz z)) (cur := madeCells z.cells (c'.toNat * inf.size)) (n := l'.toNat) (cap := c'.toNat) hp hinf (by omega) (by simp) (by omega) (by omega) (size_madeCells _ _)
     (fun x hx => by rw [List.eq_of_mem_replicate hx]; exact hpc) (fun k c hk' => by
      obtain ⟨h1, h2⟩ := flat_replicate _ _ _ _ hk'
      rw [hpc] at h1 h2
      have h3 : k < c'.toNat * inf.size := Nat.lt_of_lt_of_le h2 (Nat.mul_le_mul_right _ (by omega))
      refine ⟨_, madeCells_at z.cells _ k h3 (by omega), ?_⟩
      rw [pz_cells, List.getElem?_map, Option.map_eq_some_iff] at h1
      obtain ⟨u, hu', rfl⟩ := h1
      have he : z.cells.getD (k % z.cells.size) undef = u := by
       rw [hzs, <- hsz]
       have hu2 : z.cells[k % inf.size]? = some u := by simpa using hu'
       simp [Array.getD_eq_getD_getElem?, hu2]
      rw [he]
      have hu1 : u.oneCell' = true := hz1 u (by
       have hu2 : z.cells[k % inf.size]? = some u := by simpa using hu'
       exact Array.mem_of_getElem? hu2)
      exact ⟨ofCell_sound hu1, hu1⟩)
    exact ⟨_, _, _, _, _, _, hk, .inl (by simp only [execOp, ho, hvl, hvc]; rw [Sem.run_bind, hrun]; rfl), hnb.1, hnb.2⟩
   ·cases h
  ·cases h
 ·rename_i t len parts
  split at h
  ·rename_i x hlw
   obtain ⟨hparts, rfl⟩ := litW_some hlw
   split at h
   ·rename_i e s1 b1 z1 hti
    have hu := slice_of (hT.ok _ _ hti) rfl
    split at h
    ·rename_i ie hte
     have hie := hT.ok _ _ hte
     obtain ⟨inf, d, hinf, hd, hz, hsz, hby, _, hzs, hz1⟩ := tiOf_spec hie
     split at h
     ·rename_i hc
      simp only [Bool.and_eq_true] at hc
      obtain ⟨⟨⟨hc1, hc4⟩, hc2⟩, hc3⟩ := hc
      have hc2 := Nat.le_of_ble_eq_true hc2
      have hc3 : 0 < ie.size := Nat.le_of_ble_eq_true hc3
      have hc4 := Nat.eq_of_beq_eq_true hc4
      have hbl : (baseCells ie 1).length = ie.size := by simp [baseCells]
      have hcs : fillA (fun j => some (j * ie.size, ie.size)) (baseCells ie 1) (parts.toList.map fun p => (p.1, σ.ev p.2)) = some x.cells := by
       rw [hparts]
       simp only [fillA, Nat.zero_mul, Nat.zero_add]
       rw [hc4, Nat.beq_refl, hbl, Nat.ble_self_eq_true, hc1]
       simp only [Bool.and_true]
       rw [setAt_full _ _ (by rw [hc4, hbl])]
      obtain ⟨vs', h1, h2⟩ := fill_sound (P := P) (H := σ.h) (m := m) (S := S) (w := w) (fun j => some (j * ie.size, ie.size)) _ ((parts.map fun (i, x) => (i, a.eval x)).toList) _ x.cells _ hcs (base_rdl hie 1 hc3) (by simp [List.map_map, Function.comp_def]) (fun k p hk => by
       simp only [List.getElem?_map, Option.map_eq_some_iff] at hk
       obtain ⟨q, hq, rfl⟩ := hk
       exact ⟨a.eval q.2, by simpa using ⟨q.1, q.2, by simpa using hq, rfl, rfl⟩, E q.2⟩)
      have hrun : (Instr.buildSlice t 1 (parts.map fun (i, x) => (i, a.eval x))).run P w = .ok (.slice (some ⟨w.heap.size, 0, none⟩) 1 1) (w.alloc (.cells vs' e)) :=
       run_buildSlice w t e 1 _ vs' inf ie.zero hu hinf hz (by rw [hsz]; omega) (by rw [hsz]; omega) (by rw [hsz]; exact h1)
      obtain ⟨h3, h4⟩ := Stp.newBufL (P := P) (w := w) (e := e) (i := inf) hp hinf (by omega) (by simp only [maxLen]; omega) h2 (by rw [hc4, hsz])
      exact ⟨_, _, _, _, _, _, h, .inl (by simp only [execOp, ho]; rw [Sem.run_bind, hrun]; rfl), h3, h4⟩
     ·cases h
    ·cases h
   ·cases h
  split at h
  ·rename_i e s1 b1 z1 hti
   have hu := slice_of (hT.ok _ _ hti) rfl
   split at h
   ·rename_i ie hte
    have hie := hT.ok _ _ hte
    obtain ⟨inf, d, hinf, hd, hz, hsz, hby, _, hzs, hz1⟩ := tiOf_spec hie
    obtain ⟨S1, hst⟩ := Stp.frzAll (P := P) (m := m) (w := w) (parts.toList.flatMap fun p => avIds σ.h (σ.ev p.2)) σ.h S hp
    simp only at h
    generalize hH1 : frzAll σ.h (parts.toList.flatMap fun p => avIds σ.h (σ.ev p.2)) = H1 at h hst
    split at h
    ·rename_i cs hcs
     split at h
     ·rename_i ps hps
      split at h
      ·rename_i hc
       simp only [Bool.and_eq_true, Bool.or_eq_true] at hc
       obtain ⟨⟨⟨hc1, hc2⟩, hc3⟩, hc4⟩ := hc
       have hc2 := Nat.le_of_ble_eq_true hc2
       have hc3 : 0 < ie.size := Nat.le_of_ble_eq_true hc3
       have hc4 : ie.k.isAgg = true \/ ie.size = 1 := hc4.imp id Nat.eq_of_beq_eq_true
       obtain ⟨vs', h1, h2⟩ := fill_sound (P := P) (H := H1) (m := m) (S := S1) (w := w) (fun j => some (j * ie.size, ie.size)) _ ((parts.map fun (i, x) => (i, a.eval x)).toList) _ cs _ hcs (base_rdl hie len hc3) (by simp [List.map_map, Function.comp_def]) (fun k p hk => by
        simp only [List.getElem?_map, Option.map_eq_some_iff] at hk
        obtain ⟨q, hq, rfl⟩ := hk
        exact ⟨a.eval q.2, by simpa using ⟨q.1, q.2, by simpa using hq, rfl, rfl⟩, thawO_sound hst.hp ((E q.2).mono hst.keeps hst.sub hst.old)⟩)
       obtain ⟨h3, h4⟩ := allP_at hps h2
       have hpl : ps.length = len * ie.size := by
        have h5 : ∀ (parts : List (Nat × AV)) (cells cs : List AV), fillA (fun j => some (j * ie.size, ie.size)) cells parts = some cs -> cs.length = cells.length := by
         intro parts
         induction parts with
         | nil => intro cells cs h; simp [fillA] at h; rw [h]
         | cons p parts ih =>
          intro cells cs h
          simp only [fillA] at h
          split at h
          ·have := ih _ _ h
           rw [this]
           have := setAt_length (p.1 * ie.size) p.2.cells 0 cells
           rwa [Nat.add_zero] at this
          ·cases h
        have h6 := h5 _ _ _ hcs
        have h7 := allP_some hps
        rw [h7] at h6
        simpa [baseCells] using h6
       obtain ⟨h5, h6, h7⟩ := chunk_spec ie.k.isAgg ie.size hc3 hc4 len ps hpl hc1
       have hrun : (Instr.buildSlice t len (parts.map fun (i, x) => (i, a.eval x))).run P w = .ok (.slice (some ⟨w.heap.size, 0, none⟩) len len) (w.alloc (.cells vs' e)) := by
        by_cases h0 : len * ie.size = 0
        ·have hlen0 : len = 0 := by rcases Nat.mul_eq_zero.1 h0 with h | h; exact h; omega
         subst hlen0
         simp only [Nat.zero_mul] at h1
         have h1' : Instr.fill (fun i => some (i * inf.size, inf.size)) #[] (parts.map fun (i, x) => (i, a.eval x)).toList = some vs' := by
          rw [hsz]
          have r0 : Array.range 0 = #[] := rfl
          rw [r0] at h1
          simpa using h1
         have r0 : Array.range 0 = #[] := rfl
         simp only [Instr.buildSlice, Sem.run_bind, run_underlying hu, Result.andThen_ok]
         simp only [Array.toList_map] at h1'
         simp [sizeOf, typeInfo, hinf, r0, h1', newRow]
        ·exact run_buildSlice w t e len _ vs' inf ie.zero hu hinf hz (by rw [hsz]; omega) (by rw [hsz]; exact h0) (by rw [hsz]; exact h1)
       have hvs : vs'.size = len * inf.size := by rw [h3, hpl, hsz]
       have hlm : len <= maxLen := by
        have : len * 1 <= len * ie.size := Nat.mul_le_mul_left _ hc3
        simp only [maxLen]
        omega
       have hnb := Stp.newBuf (P := P) (w := w) (e := e) (i := inf) (xs := chunk ie.k.isAgg ie.size len ps) (cur := vs') (n := len) (cap := len) hst.hp hinf (by omega) h5.symm (Nat.le_refl _) hlm hvs (by rw [hsz]; exact h7) (by rw [h6]; exact h4)
       obtain ⟨_, rfl, h⟩ := h
       exact ⟨_, _, _, _, _, _, h, .inl (by simp only [execOp, ho]; rw [Sem.run_bind, hrun]; rfl), hst.trans hnb.1, hnb.2⟩
      ·cases h
     ·split at h
      ·rename_i hc
       simp only [Bool.and_eq_true] at hc
       obtain ⟨hc2, hc3⟩ := hc
       have hc2 := Nat.le_of_ble_eq_true hc2
       have hc3 : 0 < ie.size := Nat.le_of_ble_eq_true hc3
       obtain ⟨vs', h1, h2⟩ := fill_sound (P := P) (H := H1) (m := m) (S := S1) (w := w) (fun j => some (j * ie.size, ie.size)) _ ((parts.map fun (i, x) => (i, a.eval x)).toList) _ cs _ hcs (base_rdl hie len hc3) (by simp [List.map_map, Function.comp_def]) (fun k p hk => by
        simp only [List.getElem?_map, Option.map_eq_some_iff] at hk
        obtain ⟨q, hq, rfl⟩ := hk
        exact ⟨a.eval q.2, by simpa using ⟨q.1, q.2, by simpa using hq, rfl, rfl⟩, thawO_sound hst.hp ((E q.2).mono hst.keeps hst.sub hst.old)⟩)
       have hrun : (Instr.buildSlice t len (parts.map fun (i, x) => (i, a.eval x))).run P w = .ok (.slice (some ⟨w.heap.size, 0, none⟩) len len) (w.alloc (.cells vs' e)) := by
        by_cases h0 : len * ie.size = 0
        ·have hlen0 : len = 0 := by rcases Nat.mul_eq_zero.1 h0 with h | h; exact h; omega
         subst hlen0
         simp only [Nat.zero_mul] at h1
         have h1' : Instr.fill (fun i => some (i * inf.size, inf.size)) #[] (parts.map fun (i, x) => (i, a.eval x)).toList = some vs' := by
          rw [hsz]
          have r0 : Array.range 0 = #[] := rfl
          rw [r0] at h1
          simpa using h1
         have r0 : Array.range 0 = #[] := rfl
         simp only [Instr.buildSlice, Sem.run_bind, run_underlying hu, Result.andThen_ok]
         simp only [Array.toList_map] at h1'
         simp [sizeOf, typeInfo, hinf, r0, h1', newRow]
        ·exact run_buildSlice w t e len _ vs' inf ie.zero hu hinf hz (by rw [hsz]; omega) (by rw [hsz]; exact h0) (by rw [hsz]; exact h1)
       refine ⟨_, _, m, S1, _, _, h, .inl (by simp only [execOp, ho]; rw [Sem.run_bind, hrun]; rfl), hst.trans ?_, .opq _ rfl⟩
       exact Stp.at_ (fun _ => False) hst.hp (Older.refl _ _) (fun j o _ h => ⟨h, rfl⟩) rfl rfl rfl (by simp) (fun b hb _ => Below.heap_alloc w _ _ hb) (fun _ _ h => h.elim) (fun _ _ _ h => h.elim) (fun _ _ _ _ _ h => h.elim)
      ·cases h
    ·cases h
   ·cases h
  ·cases h
 ·rename_i t ad x
  split at h
  ·rename_i i hti
   have hi := hT.ok _ _ hti
   split at h
   ·rename_i id off hea
    split at h
    ·rename_i cs hH
     split at h
     ·rename_i hc
      simp only [Bool.and_eq_true] at hc
      obtain ⟨⟨hc1, hc2⟩, hc3⟩ := hc
      have ha := E ad
      rw [hea] at ha
      obtain ⟨w', h1, h2⟩ := Stp.storeCells hp hi hH (E x) hc1 (Nat.eq_of_beq_eq_true hc2) (Nat.le_of_ble_eq_true hc3) ha
      exact ⟨_, _, _, _, undef, w', h, .inr ⟨by simp only [execOp, ho]; rw [Sem.run_bind, h1]; rfl, rfl⟩, h2, .dead _⟩
     ·cases h
    ·rename_i xs hH
     have ha := E ad
     rw [hea] at ha
     obtain ⟨H', w', hk, h1, h2⟩ := wpStoreArr_sound hp hi hH h (E x) ha
     exact ⟨_, _, _, _, undef, w', hk, .inr ⟨by simp only [execOp, ho]; rw [Sem.run_bind, h1]; rfl, rfl⟩, h2, .dead _⟩
    ·cases h
   ·rename_i id ix off hea
    simp only at h
    split at h
    ·rename_i px e nl xs hpx hH
     split at h
     ·rename_i hc
      simp only [Bool.and_eq_true] at hc
      obtain ⟨⟨hc1, hc2⟩, hc3⟩ := hc
      obtain ⟨y, _, hy, hk⟩ := h
      split at hk
      ·rename_i hc4
       obtain ⟨_, rfl, hk⟩ := hk
       obtain ⟨S1, hst⟩ := Stp.frzAll (P := P) (m := m) (w := w) (avIds σ.h (σ.ev x)) σ.h S hp
       have ha := E ad
       rw [hea] at ha
       simp only [Int.toNat_natCast] at hy
       obtain ⟨w', h1, h2⟩ := Stp.storeBuf hst.hp hi hH hy (pvOf_sound hst.hp hpx ((E x).mono hst.keeps hst.sub hst.old)) hc1 (Nat.eq_of_beq_eq_true hc2) (Nat.le_of_ble_eq_true hc3) (Nat.le_of_ble_eq_true hc4) (ha.mono hst.keeps hst.sub hst.old)
       exact ⟨_, _, _, _, undef, w', hk, .inr ⟨by simp only [execOp, ho]; rw [Sem.run_bind, h1]; rfl, rfl⟩, hst.trans h2, .dead _⟩
      ·cases hk
     ·cases h
    ·cases h
   ·rename_i id off hea
    split at h
    ·rename_i e xs l hH
     split at h
     ·rename_i hc
      simp only [Bool.and_eq_true] at hc
      obtain ⟨⟨hc1, hc2⟩, hc3⟩ := hc
      have ha := E ad
      rw [hea] at ha
      obtain ⟨w', h1, h2⟩ := Stp.storeL hp hi hH (E x) hc1 (Nat.eq_of_beq_eq_true hc2) (Nat.le_of_ble_eq_true hc3) ha
      exact ⟨_, _, _, _, undef, w', h, .inr ⟨by simp only [execOp, ho]; rw [Sem.run_bind, h1]; rfl, rfl⟩, h2, .dead _⟩
     ·cases h
    ·cases h
   ·rename_i id ix off hea
    split at h
    ·rename_i e nl sz q e2 xs p l g hH
     split at h
     ·rename_i hc
      simp only [Bool.and_eq_true] at hc
      obtain ⟨⟨hc1, hc2⟩, hc3⟩ := hc
      obtain ⟨rfl, h⟩ := h
      have ha := E ad
      rw [hea] at ha
      obtain ⟨w', h1, h2⟩ := Stp.storeW hp hi hH (E x) hc1 (Nat.eq_of_beq_eq_true hc2) (Nat.le_of_ble_eq_true hc3) ha
      exact ⟨_, _, _, _, undef, w', h, .inr ⟨by simp only [execOp, ho]; rw [Sem.run_bind, h1]; rfl, rfl⟩, h2, .dead _⟩
     ·cases h
    ·cases h
   ·cases h
  ·cases h
 ·rename_i c
  obtain ⟨callee, args, ats⟩ := c
  obtain ⟨args⟩ := args
  obtain ⟨ats⟩ := ats
  simp only at h
  split at h
  ·split at h
   ·rename_i s x t t'
    split at h
    ·rename_i hbe
     obtain rfl := Nat.eq_of_beq_eq_true hbe
     obtain ⟨av, H', m', S', v, w', hk, h1, h2, h3⟩ := wpAppend_sound (ty := o.type) hT hp h (E _) (E _)
     exact ⟨_, _, _, _, _, _, hk, .inl (by simp [execOp, ho, resolve, invoke, builtin, h1]), h2, h3⟩
    ·obtain ⟨av, H', m', S', v, w', hk, h1, h2, h3⟩ := wpAppZ_sound (ty := o.type) hT hp h (E _) (E _)
     exact ⟨_, _, _, _, _, _, hk, .inl (by simp [execOp, ho, resolve, invoke, builtin, h1]), h2, h3⟩
   ·cases h
  ·split at h
   ·rename_i x y t t'
    obtain ⟨av, H', v, w', hk, h1, h2, h3⟩ := wpCopy_sound (ty := o.type) (t' := t') hT hp h (E _) (E _)
    exact ⟨_, _, _, _, _, _, hk, .inl (by simp [execOp, ho, resolve, invoke, builtin, h1]), h2, h3⟩
   ·cases h
  ·split at h
   ·rename_i x t
    obtain ⟨av, H', v, w', hk, h1, h2, h3⟩ := wpClear_sound (ty := o.type) hT hp h (E _)
    exact ⟨_, _, _, _, _, _, hk, .inl (by simp [execOp, ho, resolve, invoke, builtin, h1]), h2, h3⟩
   ·cases h
  ·cases h
 ·obtain ⟨av, v, h1, h2, h3⟩ := wpLookup_sound hT hp h (E _) (E _)
  exact ⟨_, _, m, S, v, w, h1, .inl (by simp only [execOp, ho]; rw [Sem.run_bind, h3]; rfl), Stp.refl hp, h2⟩
 ·rename_i t r
  split at h
  ·obtain ⟨h1, h2, h3⟩ := Stp.newMap hp t
   exact ⟨_, _, _, _, _, _, h, .inl (by simp only [execOp, ho]; rw [Sem.run_bind]; simp only [Option.map_none]; rw [h3]; rfl), h1, h2⟩
  ·cases h
 ·obtain ⟨H', w', h1, h2, h3⟩ := wpMapUpdate_sound hT hp h (E _) (E _) (E _)
  exact ⟨_, _, _, _, undef, w', h1, .inr ⟨by simp only [execOp, ho]; rw [Sem.run_bind, h3]; rfl, rfl⟩, h2, .dead _⟩
 ·obtain ⟨H', w', h1, h2, h3⟩ := wpMapUpdate_sound hT hp h (E _) (E _) (valV_sound (E _))
  exact ⟨_, _, _, _, undef, w', h1, .inr ⟨by simp only [execOp, ho]; rw [Sem.run_bind, h3]; rfl, rfl⟩, h2, .dead _⟩
 ·obtain ⟨av, v, h1, h2, h3⟩ := wpConvB_sound hT hp h (E _)
  exact ⟨_, _, m, S, v, w, h1, .inl (by simp only [execOp, ho]; rw [Sem.run_bind, h3]; rfl), Stp.refl hp, h2⟩
 ·rename_i t x lo hi mx
  obtain ⟨av, H', m', S', v, h1, h2, h3, h4⟩ := wpCutArr_sound hT hp h (E x) (opt_ev hp.glb hf lo) (opt_ev hp.glb hf hi) (opt_ev hp.glb hf mx) (fun hs => by
   obtain ⟨av, v, h1, h2, h3⟩ := wpSlice_sound hT hp hs (E x) (opt_ev hp.glb hf lo) (opt_ev hp.glb hf hi) (vmx := mx.map a.eval) (by cases mx <;> simp)
   exact ⟨av, v, h1, h2, h3 w⟩)
  exact ⟨_, _, m', S', v, w, h1, .inl (by simp only [execOp, ho]; rw [Sem.run_bind, h2]; rfl), h3, h4⟩
 ·cases h
end
end Go.Abs
namespace Go.Abs
open Go.RowKit
mutual
def AV.ren (ρ : Nat -> Nat) : AV -> AV
 | .p x => .p x
 | .ptr id off => .ptr (ρ id) off
 | .buf id => .buf (ρ id)
 | .sub id lo hi => .sub (ρ id) lo hi
 | .bptr id ix off => .bptr (ρ id) ix off
 | .rptr cs => .rptr cs
 | .agg cs => .agg (renL ρ cs)
 | .tup cs => .tup (renL ρ cs)
 | .clo fn caps => .clo fn (renL ρ caps)
 | .mp id => .mp (ρ id)
 | .cap nl xs => .cap nl xs
 | .lptr id off => .lptr (ρ id) off
 | .wptr id ix off => .wptr (ρ id) ix off
 | .opq => .opq
 | .dead => .dead
def renL (ρ : Nat -> Nat) : List AV -> List AV
 | [] => []
 | c :: r => c.ren ρ :: renL ρ r
end
mutual
def AV.wf (n : Nat) : AV -> Bool
 | .p _ => true
 | .ptr id _ => Nat.blt id n
 | .buf id => Nat.blt id n
 | .sub id _ _ => Nat.blt id n
 | .bptr id _ _ => Nat.blt id n
 | .rptr _ => true
 | .agg cs => wfL n cs
 | .tup cs => wfL n cs
 | .clo _ caps => wfL n caps
 | .mp id => Nat.blt id n
 | .cap _ _ => true
 | .lptr id _ => Nat.blt id n
 | .wptr id _ _ => Nat.blt id n
 | .opq => true
 | .dead => true
def wfL (n : Nat) : List AV -> Bool
 | [] => true
 | c :: r => c.wf n && wfL n r
end
def AO.ren (ρ : Nat -> Nat) : AO -> AO
 | .cells cs => .cells (renL ρ cs)
 | .buf e nl xs => .buf e nl xs
 | .frz nl xs => .frz nl xs
 | .map ks => .map ks
 | .arr xs => .arr xs
 | .bufL e xs l => .bufL e xs (renL ρ l)
 | .rws e nl sz q e2 xs h l g => .rws e nl sz q e2 xs h (renL ρ l) g
def AO.wf (n : Nat) : AO -> Bool
 | .cells cs => wfL n cs
 | .bufL _ _ l => wfL n l
 | .rws _ _ _ _ _ _ _ l _ => wfL n l
 | _ => true
theorem row_ren (ρ : Nat -> Nat) (o : AO) : (o.ren ρ).row = o.row := by cases o <;> rfl
theorem own_ren {ρ : Nat -> Nat} {w : World} {v : Value} {o : AO} {b : Nat} : Own w v (o.ren ρ) b ↔ Own w v o b := by cases o <;> exact Iff.rfl
theorem renL_at (ρ : Nat -> Nat) : ∀ (cs : List AV) (k : Nat), (renL ρ cs)[k]? = (cs[k]?).map (AV.ren ρ)
 | [], k => by simp [renL]
 | c :: r, 0 => by simp [renL]
 | c :: r, k + 1 => by simp [renL, renL_at ρ r k]
theorem renL_length (ρ : Nat -> Nat) : ∀ (cs : List AV), (renL ρ cs).length = cs.length
 | [] => rfl
 | c :: r => by simp [renL, renL_length ρ r]
theorem wfL_at {n : Nat} : ∀ {cs : List AV}, wfL n cs = true -> ∀ {k : Nat} {c : AV}, cs[k]? = some c -> c.wf n = true
 | [], _, k, c, hk => by simp at hk
 | c :: r, h, 0, d, hk => by simp at hk; subst hk; simp [wfL] at h; exact h.1
 | c :: r, h, k + 1, d, hk => by simp [wfL] at h; exact wfL_at h.2 (by simpa using hk)
theorem lt_of_blt {a b : Nat} (h : Nat.blt a b = true) : a < b := Nat.le_of_ble_eq_true h
section
variable {P : Program} {H H' : AH} {m m' : Nat -> Value} {S S' : Nat -> Prop} {w w' : World} {ρ : Nat -> Nat}
theorem Rd.unren (hlive : ∀ i o, live H' i o -> live H (ρ i) (o.ren ρ)) {y : AV} {v : Value} (h : Rd P H m S w y v) : ∀ {x : AV}, x.ren ρ = y -> x.wf H'.length = true -> Rd P H' (fun i => m (ρ i)) S w x v := by
 have lists : ∀ {cs cs' : List AV} {vs : Array Value}, renL ρ cs' = cs -> wfL H'.length cs' = true -> vs.size = cs.length ->
   (∀ (k : Nat) (c : AV), cs[k]? = some c -> ∀ {x : AV}, x.ren ρ = c -> x.wf H'.length = true -> Rd P H' (fun i => m (ρ i)) S w x (vs.getD k undef)) ->
   vs.size = cs'.length /\ ∀ (k : Nat) (c : AV), cs'[k]? = some c -> (cs[k]? = some (c.ren ρ)) /\ Rd P H' (fun i => m (ρ i)) S w c (vs.getD k undef) := by
  intro cs cs' vs he hw hl ih
  subst he
  refine ⟨by rw [hl, renL_length], fun k c hk => ?_⟩
  have h1 : (renL ρ cs')[k]? = some (c.ren ρ) := by rw [renL_at, hk]; rfl
  exact ⟨h1, ih k _ h1 rfl (wfL_at hw hk)⟩
 induction h with
 | p y v h => intro x hx _; cases x <;> simp [AV.ren] at hx; subst hx; exact .p _ _ h
 | ptr id off a hid h =>
  intro x hx hw
  cases x <;> simp [AV.ren] at hx
  obtain ⟨rfl, rfl⟩ := hx
  exact .ptr _ _ _ (lt_of_blt (by simpa [AV.wf] using hw)) fun o hl => h _ (hlive _ _ hl)
 | buf id a l c hid h =>
  intro x hx hw
  cases x <;> simp [AV.ren] at hx
  subst hx
  exact .buf _ _ _ _ (lt_of_blt (by simpa [AV.wf] using hw)) fun o hl => h _ (hlive _ _ hl)
 | sub id lo hi a l c hid h hq =>
  intro x hx hw
  cases x <;> simp [AV.ren] at hx
  obtain ⟨rfl, rfl, rfl⟩ := hx
  exact .sub _ _ _ _ _ _ (lt_of_blt (by simpa [AV.wf] using hw)) (fun e nl xs hl => h e nl xs (hlive _ _ hl)) (fun o p hl he => hq _ p (hlive _ _ hl) he)
 | bptr id ix off a hid h =>
  intro x hx hw
  cases x <;> simp [AV.ren] at hx
  obtain ⟨rfl, rfl, rfl⟩ := hx
  exact .bptr _ _ _ _ (lt_of_blt (by simpa [AV.wf] using hw)) fun e nl xs hl => h e nl xs (hlive _ _ hl)
 | rptr cs a us hS hu hr =>
  intro x hx _
  cases x <;> simp [AV.ren] at hx
  subst hx
  exact .rptr _ _ us hS hu hr
 | agg cs vs hl ho hr ih =>
  intro x hx hw
  cases x <;> simp [AV.ren] at hx
  obtain ⟨h1, h2⟩ := lists hx (by simpa [AV.wf] using hw) hl (fun k c hk {x} => ih k c hk)
  exact .agg _ _ h1 (fun k c hk => ho k _ (h2 k c hk).1) fun k c hk => (h2 k c hk).2
 | tup cs vs hl hr ih =>
  intro x hx hw
  cases x <;> simp [AV.ren] at hx
  obtain ⟨h1, h2⟩ := lists hx (by simpa [AV.wf] using hw) hl (fun k c hk {x} => ih k c hk)
  exact .tup _ _ h1 fun k c hk => (h2 k c hk).2
 | clo fn caps vs hl hr ih =>
  intro x hx hw
  cases x <;> simp [AV.ren] at hx
  obtain ⟨rfl, hx⟩ := hx
  obtain ⟨h1, h2⟩ := lists hx (by simpa [AV.wf] using hw) hl (fun k c hk {x} => ih k c hk)
  exact .clo _ _ _ h1 fun k c hk => (h2 k c hk).2
 | mp id b hid h =>
  intro x hx hw
  cases x <;> simp [AV.ren] at hx
  subst hx
  exact .mp _ _ (lt_of_blt (by simpa [AV.wf] using hw)) fun o hl => h _ (hlive _ _ hl)
 | cap nl xs a l h =>
  intro x hx _
  cases x <;> simp [AV.ren] at hx
  obtain ⟨rfl, rfl⟩ := hx
  exact .cap _ _ _ _ h
 | lptr id off a hid h =>
  intro x hx hw
  cases x <;> simp [AV.ren] at hx
  obtain ⟨rfl, rfl⟩ := hx
  exact .lptr _ _ _ (lt_of_blt (by simpa [AV.wf] using hw)) fun e xs l hl => h e xs (renL ρ l) (hlive _ _ hl)
 | wptr id ix off a hid h =>
  intro x hx hw
  cases x <;> simp [AV.ren] at hx
  obtain ⟨rfl, rfl, rfl⟩ := hx
  exact .wptr _ _ _ _ (lt_of_blt (by simpa [AV.wf] using hw)) fun o e hl he => h _ e (hlive _ _ hl) (by rw [row_ren]; exact he)
 | opq v h =>
  intro x hx _
  cases x <;> simp [AV.ren] at hx
  exact .opq _ h
 | dead v =>
  intro x hx _
  cases x <;> simp [AV.ren] at hx
  exact .dead _
theorem Rd.ren (hlen : ∀ i, i < H.length -> ρ i < H'.length) (hlive : ∀ i o', i < H.length -> live H' (ρ i) o' -> ∃ o, live H i o /\ m' (ρ i) = m i /\ (∀ e nl xs, o' = .buf e nl xs -> o = .buf e nl xs) /\ (∀ e xs l, o' = .bufL e xs l -> ∃ l0, o = .bufL e xs l0) /\ o'.row = o.row)
  {x : AV} {v : Value} (h : Rd P H m S w x v) : Rd P H' m' S w (x.ren ρ) v := by
 have lists : ∀ {cs : List AV} {vs : Array Value}, vs.size = cs.length -> (∀ (k : Nat) (c : AV), cs[k]? = some c -> Rd P H' m' S w (c.ren ρ) (vs.getD k undef)) ->
   vs.size = (renL ρ cs).length /\ ∀ (k : Nat) (c : AV), (renL ρ cs)[k]? = some c -> (∃ d, cs[k]? = some d) /\ Rd P H' m' S w c (vs.getD k undef) := by
  intro cs vs hl ih
  refine ⟨by rw [hl, renL_length], fun k c hk => ?_⟩
  rw [renL_at, Option.map_eq_some_iff] at hk
  obtain ⟨d, hd, rfl⟩ := hk
  exact ⟨⟨d, hd⟩, ih k d hd⟩
 induction h with
 | p y v h => exact .p _ _ h
 | ptr id off a hid h =>
  refine .ptr _ _ _ (hlen _ hid) fun o' hl => ?_
  obtain ⟨o, h1, h2, _⟩ := hlive _ _ hid hl
  rw [h2]
  exact h o h1
 | buf id a l c hid h =>
  refine .buf _ _ _ _ (hlen _ hid) fun o' hl => ?_
  obtain ⟨o, h1, h2, _⟩ := hlive _ _ hid hl
  rw [h2]
  exact h o h1
 | sub id lo hi a l c hid h hq =>
  refine .sub _ _ _ _ _ _ (hlen _ hid) (fun e nl xs hl => ?_) fun o p hl he => ?_
  ·obtain ⟨o, h1, h2, h3, _⟩ := hlive _ _ hid hl
   rw [h2]
   have := h3 e nl xs rfl
   subst this
   exact h e nl xs h1
  ·obtain ⟨o1, h1, h2, h3⟩ := hlive _ _ hid hl
   rw [h2] at he
   exact hq o1 p h1 he
 | bptr id ix off a hid h =>
  refine .bptr _ _ _ _ (hlen _ hid) fun e nl xs hl => ?_
  obtain ⟨o, h1, h2, h3, _⟩ := hlive _ _ hid hl
  rw [h2]
  have := h3 e nl xs rfl
  subst this
  exact h e nl xs h1
 | rptr cs a us hS hu hr => exact .rptr _ _ us hS hu hr
 | agg cs vs hl ho hr ih =>
  obtain ⟨h1, h2⟩ := lists hl ih
  exact .agg _ _ h1 (fun k c hk => by obtain ⟨d, hd⟩ := (h2 k c hk).1; exact ho k d hd) fun k c hk => (h2 k c hk).2
 | tup cs vs hl hr ih =>
  obtain ⟨h1, h2⟩ := lists hl ih
  exact .tup _ _ h1 fun k c hk => (h2 k c hk).2
 | clo fn caps vs hl hr ih =>
  obtain ⟨h1, h2⟩ := lists hl ih
  exact .clo _ _ _ h1 fun k c hk => (h2 k c hk).2
 | mp id b hid h =>
  refine .mp _ _ (hlen _ hid) fun o' hl => ?_
  obtain ⟨o, h1, h2, _⟩ := hlive _ _ hid hl
  rw [h2]
  exact h o h1
 | cap nl xs a l h => exact .cap _ _ _ _ h
 | lptr id off a hid h =>
  refine .lptr _ _ _ (hlen _ hid) fun e xs l hl => ?_
  obtain ⟨o, h1, h2, _, h3, _⟩ := hlive _ _ hid hl
  obtain ⟨l0, rfl⟩ := h3 e xs l rfl
  rw [h2]
  exact h e xs l0 h1
 | wptr id ix off a hid h =>
  refine .wptr _ _ _ _ (hlen _ hid) fun o' e hl he => ?_
  obtain ⟨o, h1, h2, _, _, h3⟩ := hlive _ _ hid hl
  rw [h2]
  exact h o e h1 (h3 ▸ he)
 | opq v h => exact .opq _ h
 | dead v => exact .dead _
structure SubH (k0 : Nat) (ρ : Nat -> Nat) (H' H : AH) : Prop where
 keep : ∀ i, i < k0 -> ρ i = i
 len : k0 <= H'.length
 live : ∀ i o, live H' i o -> live H (ρ i) (o.ren ρ)
 inj : ∀ i j, (∃ o, Abs.live H' i o) -> (∃ o, Abs.live H' j o) -> ρ i = ρ j -> i = j
 wf : ∀ i o, Abs.live H' i o -> o.wf H'.length = true
theorem Stp.sub_ {H0 : AH} {m0 : Nat -> Value} {S0 : Nat -> Prop} {w0 : World} (h : Stp P H0 m0 S0 w0 H m S w) (hs : SubH H0.length ρ H' H) : Stp P H0 m0 S0 w0 H' (fun i => m (ρ i)) S w := by
 have hold : Older H0 H' m0 (fun i => m (ρ i)) := by
  refine ⟨hs.len, fun id hid o' hl => ?_⟩
  have h1 := hs.live id o' hl
  rw [hs.keep id hid] at h1
  obtain ⟨h2, o, h3, h4, h5, h6⟩ := h.old.at_ id hid _ h1
  refine ⟨by show m (ρ id) = _; rw [hs.keep id hid]; exact h2, o, h3, fun e nl xs he => ?_, fun e xs l he => ?_, fun e he => h6 e (by rw [row_ren]; exact he)⟩
  ·subst he
   exact h4 e nl xs rfl
  ·subst he
   exact h5 e xs _ rfl
 have hblk : ∀ i o b, Abs.live H' i o -> Own w (m (ρ i)) o b -> Abs.live H (ρ i) (o.ren ρ) /\ Own w (m (ρ i)) (o.ren ρ) b := fun i o b hl hb => ⟨hs.live i o hl, own_ren.2 hb⟩
 refine ⟨hold, ⟨fun i o hl => ?_, fun i j oi oj b hi hj hbi hbj => ?_, h.hp.sub, fun i o b hl hb => ?_, h.hp.glb⟩, h.keeps, h.sub, h.os, h.tape, h.output, h.size, h.blk, h.snew, fun b hb => ?_, h.scel⟩
 ·have h1 := h.hp.obj _ _ (hs.live i o hl)
  cases o with
  | cells cs =>
   obtain ⟨b, T, vs, hm, hh, hl', hr⟩ := h1
   refine ⟨b, T, vs, hm, hh, by rw [renL_length] at hl'; exact hl', fun k c hk => ?_⟩
   have hk' : (renL ρ cs)[k]? = some (c.ren ρ) := by rw [renL_at, hk]; rfl
   obtain ⟨h2, h3⟩ := hr k _ hk'
   exact ⟨h2.unren hs.live rfl (wfL_at (hs.wf i _ hl) hk), h3⟩
  | buf e nl xs => exact h1
  | frz nl xs => exact h1
  | map ks => exact h1
  | arr xs => exact h1
  | bufL e xs l =>
   obtain ⟨i', us, g1, g2, g3, g4, g5, g6, g7⟩ := h1
   rw [renL_length] at g5
   refine ⟨i', us, g1, g2, g3, g4, g5, g6, fun k c hk => ?_⟩
   have hk' : (renL ρ l)[k]? = some (c.ren ρ) := by rw [renL_at, hk]; rfl
   obtain ⟨u, hu, h2, h3⟩ := g7 k _ hk'
   exact ⟨u, hu, h2.unren hs.live rfl (wfL_at (hs.wf i _ hl) hk), h3⟩
  | rws e nl sz q e2 xs h0 l gn =>
   obtain ⟨i', i2, us, g1, g2, g3, g4, g5, g6, g7, g8, g9, g10, g11⟩ := h1
   refine ⟨i', i2, us, g1, g2, g3, g4, g5, g6, g7, g8, g9, fun p hp0 => ?_, g11⟩
   obtain ⟨k1, k2, k3⟩ := g10 p hp0
   rw [renL_length] at k2
   refine ⟨k1, k2, fun k c hk => ?_⟩
   have hk' : (renL ρ l)[k]? = some (c.ren ρ) := by rw [renL_at, hk]; rfl
   obtain ⟨u, hu, h2, h3⟩ := k3 k _ hk'
   exact ⟨u, hu, h2.unren hs.live rfl (wfL_at (hs.wf i _ hl) hk), h3⟩
 ·obtain ⟨h1, h2⟩ := hblk i oi b hi hbi
  obtain ⟨h3, h4⟩ := hblk j oj b hj hbj
  exact hs.inj i j ⟨_, hi⟩ ⟨_, hj⟩ (h.hp.inj _ _ _ _ b h1 h3 h2 h4)
 ·obtain ⟨h1, h2⟩ := hblk i o b hl hb
  exact h.hp.out _ _ b h1 h2
 ·obtain ⟨i, o, hl, hb⟩ := hb
  obtain ⟨h1, h2⟩ := hblk i o b hl hb
  exact h.own b ⟨_, _, h1, h2⟩
end
structure ACall (P : Program) (f : FuncId) (args : List AV) (H : AH) (K : AV -> AH -> Prop) : Prop where
 enter : ∃ fn, P.funcs[f]? = some fn /\ fn.body.isSome = true /\ (fn.name == "runtime.NumGoroutine") = false
 calls : ∀ (m : Nat -> Value) (S : Nat -> Prop) (w : World) (vals : Array Value), Hp P H m S w -> vals.size = args.length -> (∀ (j : Nat) (x : AV), args[j]? = some x -> Rd P H m S w x (vals.getD j undef)) ->
  Calls P f vals w fun e w' => ∃ v r H' m' S', e = .returned v /\ K r H' /\ Stp P H m S w H' m' S' w' /\ Rd P H' m' S' w' r v
theorem ACall.mono {P : Program} {f : FuncId} {args : List AV} {H : AH} {K K' : AV -> AH -> Prop} (h : ACall P f args H K) (hk : ∀ r H', K r H' -> K' r H') : ACall P f args H K' :=
 ⟨h.enter, fun m S w vals hp hl hr => (h.calls m S w vals hp hl hr).mono fun _ _ ⟨v, r, H', m', S', h1, h2, h3, h4⟩ => ⟨v, r, H', m', S', h1, hk _ _ h2, h3, h4⟩⟩
end Go.Abs
namespace Go.Abs
open Go.RowKit
def idx (id : Nat) : List Nat -> Option Nat
 | [] => none
 | i :: r => match Nat.beq i id with
  | true => some 0
  | false => match idx id r with
   | some j => some (j + 1)
   | none => none
theorem idx_some {id : Nat} : ∀ {l : List Nat} {j : Nat}, idx id l = some j -> l[j]? = some id
 | [], j, h => by cases h
 | i :: r, j, h => by
  unfold idx at h
  split at h
  ·rename_i hb
   injection h with h
   subst h
   rw [Nat.eq_of_beq_eq_true hb]
   rfl
  ·split at h
   ·rename_i j' hj
    injection h with h
    subst h
    simpa using idx_some hj
   ·cases h
theorem idx_none {id : Nat} : ∀ {l : List Nat}, idx id l = none -> ∀ (j : Nat), l[j]? ≠ some id
 | [], _, j => by simp
 | i :: r, h, j => by
  unfold idx at h
  split at h
  ·cases h
  ·rename_i hb
   split at h
   ·cases h
   ·rename_i hj
    cases j with
    | zero => simp; intro he; subst he; simp at hb
    | succ j => simpa using idx_none hj j
mutual
def toLoc (H : AH) (ids : List Nat) (fl : Bool) : AV -> AV
 | .p x => .p x
 | .ptr id off => match idx id ids with
  | some j => .ptr j off
  | none => .dead
 | .buf id => match idx id ids with
  | some j => .buf j
  | none => match H[id]? with
   | some (some (.buf _ nl xs)) => match fl with
    | true => .p (.list nl xs)
    | false => .dead
   | some (some (.frz nl xs)) => .p (.list nl xs)
   | some (some (.rws _ nl _ _ _ xs none _ none)) => match fl with
    | true => .p (.list nl xs)
    | false => .dead
   | _ => .dead
 | .sub id lo hi => match idx id ids with
  | some j => .sub j lo hi
  | none => match H[id]?, fl with
   | some (some (.buf _ nl xs)), true => .p (.list nl ((xs.take hi).drop lo))
   | _, _ => .dead
 | .bptr id ix off => match idx id ids with
  | some j => .bptr j ix off
  | none => .dead
 | .rptr cs => .rptr cs
 | .agg cs => mkAgg (toLocL H ids fl cs)
 | .tup cs => .tup (toLocL H ids fl cs)
 | .clo fn caps => .clo fn (toLocL H ids fl caps)
 | .mp id => match idx id ids with
  | some j => .mp j
  | none => .dead
 | .cap nl xs => .cap nl xs
 | .lptr id off => match idx id ids with
  | some j => .lptr j off
  | none => .dead
 | .wptr id ix off => match idx id ids with
  | some j => .wptr j ix off
  | none => .dead
 | .opq => .opq
 | .dead => .dead
def toLocL (H : AH) (ids : List Nat) (fl : Bool) : List AV -> List AV
 | [] => []
 | c :: r => toLoc H ids fl c :: toLocL H ids fl r
end
def toLocO (H : AH) (ids : List Nat) : AO -> AO
 | .cells cs => .cells (toLocL H ids false cs)
 | .buf e nl xs => .buf e nl xs
 | .frz nl xs => .frz nl xs
 | .map ks => .map ks
 | .arr xs => .arr xs
 | .bufL e xs l => .bufL e xs (toLocL H ids false l)
 | .rws e nl sz q e2 xs h l g => .rws e nl sz q e2 xs h (toLocL H ids false l) g
def locH (H : AH) (ids : List Nat) : AH := ids.map fun i => match H[i]? with
 | some (some o) => some (toLocO H ids o)
 | _ => none
theorem row_loc (H : AH) (ids : List Nat) (o : AO) : (toLocO H ids o).row = o.row := by cases o <;> rfl
theorem own_loc {H : AH} {ids : List Nat} {w : World} {v : Value} {o : AO} {b : Nat} : Own w v (toLocO H ids o) b ↔ Own w v o b := by cases o <;> exact Iff.rfl
theorem toLocL_at (H : AH) (ids : List Nat) (fl : Bool) : ∀ (cs : List AV) (k : Nat), (toLocL H ids fl cs)[k]? = (cs[k]?).map (toLoc H ids fl)
 | [], k => by simp [toLocL]
 | c :: r, 0 => by simp [toLocL]
 | c :: r, k + 1 => by simp [toLocL, toLocL_at H ids fl r k]
theorem toLocL_length (H : AH) (ids : List Nat) (fl : Bool) : ∀ (cs : List AV), (toLocL H ids fl cs).length = cs.length
 | [] => rfl
 | c :: r => by simp [toLocL, toLocL_length H ids fl r]
theorem locH_live {H : AH} {ids : List Nat} {j : Nat} {o : AO} (h : live (locH H ids) j o) : ∃ id o0, ids[j]? = some id /\ live H id o0 /\ o = toLocO H ids o0 := by
 unfold live locH at h
 rw [List.getElem?_map, Option.map_eq_some_iff] at h
 obtain ⟨id, hid, he⟩ := h
 split at he
 ·rename_i o0 ho
  injection he with he
  exact ⟨id, o0, hid, ho, he.symm⟩
 ·cases he
section
variable {P : Program} {H H' : AH} {m m' : Nat -> Value} {S S' : Nat -> Prop} {w w' : World} {ids : List Nat} {fl : Bool}
theorem toLoc_sound (hp : Hp P H m S w) (hs : ∀ b, S b -> S' b) (hlend : fl = true -> ∀ id o b, live H id o -> Own w (m id) o b -> S' b) {y : AV} {v : Value} (h : Rd P H m S w y v) :
  Rd P (locH H ids) (fun j => m (ids.getD j 0)) S' w (toLoc H ids fl y) v := by
 have hlen : (locH H ids).length = ids.length := by simp [locH]
 have at_ : ∀ {id j : Nat}, idx id ids = some j -> j < (locH H ids).length /\ ids.getD j 0 = id := by
  intro id j hj
  have h1 := idx_some hj
  rw [hlen]
  exact ⟨(List.getElem?_eq_some_iff.1 h1).1, by rw [List.getD, h1]; rfl⟩
 have lv : ∀ {id j : Nat} {o : AO}, idx id ids = some j -> live (locH H ids) j o -> ∃ o0, live H id o0 /\ o = toLocO H ids o0 := by
  intro id j o hj hl
  obtain ⟨id', o0, h1, h2, h3⟩ := locH_live hl
  rw [idx_some hj] at h1
  injection h1 with h1
  subst h1
  exact ⟨o0, h2, h3⟩
 have bufEq : ∀ {o0 : AO} {e : TypeId} {nl : Bool} {xs : List PV}, AO.buf e nl xs = toLocO H ids o0 -> o0 = .buf e nl xs := by
  intro o0 e nl xs h
  cases o0 <;> simp [toLocO] at h
  obtain ⟨rfl, rfl, rfl⟩ := h
  rfl
 have keep : Keeps S w w := fun _ _ => rfl
 have lists : ∀ {cs : List AV} {vs : Array Value}, vs.size = cs.length -> (∀ (k : Nat) (c : AV), cs[k]? = some c -> Rd P (locH H ids) (fun j => m (ids.getD j 0)) S' w (toLoc H ids fl c) (vs.getD k undef)) ->
   vs.size = (toLocL H ids fl cs).length /\ ∀ (k : Nat) (c : AV), (toLocL H ids fl cs)[k]? = some c -> (∃ d, cs[k]? = some d) /\ Rd P (locH H ids) (fun j => m (ids.getD j 0)) S' w c (vs.getD k undef) := by
  intro cs vs hl ih
  refine ⟨by rw [hl, toLocL_length], fun k c hk => ?_⟩
  rw [toLocL_at, Option.map_eq_some_iff] at hk
  obtain ⟨d, hd, rfl⟩ := hk
  exact ⟨⟨d, hd⟩, ih k d hd⟩
 have ownCut : ∀ {id : Nat} {e : TypeId} {nl : Bool} {xs : List PV}, fl = true -> live H id (.buf e nl xs) -> RdP S' w (.list nl xs) (m id) := by
  intro id e nl xs hf hl
  exact RdP.of_own (hp.obj id _ hl) hs fun b hb => hlend hf id _ b hl (.inl hb)
 induction h with
 | p x v h => exact .p _ _ (h.mono keep hs)
 | ptr id off a hid h =>
  unfold toLoc
  split
  ·rename_i j hj
   obtain ⟨h1, h2⟩ := at_ hj
   refine .ptr _ _ _ h1 fun o hl => ?_
   obtain ⟨o0, h3, _⟩ := lv hj hl
   simp only [h2]
   exact h o0 h3
  ·exact .dead _
 | buf id a l c hid h =>
  unfold toLoc
  split
  ·rename_i j hj
   obtain ⟨h1, h2⟩ := at_ hj
   refine .buf _ _ _ _ h1 fun o hl => ?_
   obtain ⟨o0, h3, _⟩ := lv hj hl
   simp only [h2]
   exact h o0 h3
  ·split
   ·rename_i e nl xs hH
    split
    ·have h1 := ownCut rfl hH
     rw [h _ hH] at h1
     exact .p _ _ h1
    ·exact .dead _
   ·rename_i nl xs hH
    have h1 := hp.obj id _ hH
    rw [h _ hH] at h1
    exact .p _ _ (RdP.mono keep hs h1)
   ·rename_i e nl sz q e2 xs lc hH
    split
    ·have h1 := RdP.of_rws (hp.obj id _ hH) hs fun b hb => hlend rfl id _ b hH hb
     rw [h _ hH] at h1
     exact .p _ _ h1
    ·exact .dead _
   ·exact .dead _
 | sub id lo hi a l c hid h hq =>
  unfold toLoc
  split
  ·rename_i j hj
   obtain ⟨h1, h2⟩ := at_ hj
   refine .sub _ _ _ _ _ _ h1 (fun e nl xs hl => ?_) fun o p hl he => ?_
   ·obtain ⟨o0, h3, h4⟩ := lv hj hl
    have := bufEq h4
    subst this
    simp only [h2]
    exact h e nl xs h3
   ·obtain ⟨o0, h3, h4⟩ := lv hj hl
    simp only [h2] at he
    exact hq o0 p h3 he
  ·split
   ·rename_i e nl xs hH
    obtain ⟨i, a0, l0, c0, h1, h2, h3, h4, rfl, rfl, hgn, hga⟩ := h e nl xs hH
    obtain ⟨i', us, h5, _, _, h6, _⟩ := hp.obj id _ hH
    rw [h1] at h5
    injection h5 with h5
    subst h5
    obtain ⟨a1, c1, h7, _⟩ := buf_form hp hH
    rw [h2] at h7
    injection h7 with e1 e2 e3
    subst e1; subst e2; subst e3
    have h8 := ownCut rfl hH
    rw [h2] at h8
    exact .p _ _ (h8.cut2 h3 h4 h6 h1 hgn hga)
   ·exact .dead _
 | bptr id ix off a hid h =>
  unfold toLoc
  split
  ·rename_i j hj
   obtain ⟨h1, h2⟩ := at_ hj
   refine .bptr _ _ _ _ h1 fun e nl xs hl => ?_
   obtain ⟨o0, h3, h4⟩ := lv hj hl
   have := bufEq h4
   subst this
   simp only [h2]
   exact h e nl xs h3
  ·exact .dead _
 | rptr cs a us hS hu hr => exact .rptr _ _ us (hs _ hS) hu fun k c hk => (hr k c hk).mono keep hs
 | agg cs vs hl ho hr ih =>
  obtain ⟨h1, h2⟩ := lists hl ih
  unfold toLoc
  exact Rd.mkAgg h1 fun k c hk => ⟨(h2 k c hk).2, by obtain ⟨d, hd⟩ := (h2 k c hk).1; exact ho k d hd⟩
 | tup cs vs hl hr ih =>
  obtain ⟨h1, h2⟩ := lists hl ih
  unfold toLoc
  exact .tup _ _ h1 fun k c hk => (h2 k c hk).2
 | clo fn caps vs hl hr ih =>
  obtain ⟨h1, h2⟩ := lists hl ih
  unfold toLoc
  exact .clo _ _ _ h1 fun k c hk => (h2 k c hk).2
 | mp id b hid h =>
  unfold toLoc
  split
  ·rename_i j hj
   obtain ⟨h1, h2⟩ := at_ hj
   refine .mp _ _ h1 fun o hl => ?_
   obtain ⟨o0, h3, _⟩ := lv hj hl
   simp only [h2]
   exact h o0 h3
  ·exact .dead _
 | cap nl xs a l h => exact .cap _ _ _ _ (h.mono keep hs)
 | lptr id off a hid h =>
  unfold toLoc
  split
  ·rename_i j hj
   obtain ⟨h1, h2⟩ := at_ hj
   refine .lptr _ _ _ h1 fun e xs l hl => ?_
   obtain ⟨o0, h3, h4⟩ := lv hj hl
   simp only [h2]
   cases o0 <;> simp [toLocO] at h4
   obtain ⟨rfl, rfl, _⟩ := h4
   exact h _ _ _ h3
  ·exact .dead _
 | wptr id ix off a hid h =>
  unfold toLoc
  split
  ·rename_i j hj
   obtain ⟨h1, h2⟩ := at_ hj
   refine .wptr _ _ _ _ h1 fun o e hl he => ?_
   obtain ⟨o0, h3, h4⟩ := lv hj hl
   simp only [h2]
   exact h o0 e h3 (by rw [h4, row_loc] at he; exact he)
  ·exact .dead _
 | opq v h => exact .opq _ h
 | dead v => exact .dead _
end
def PV.flat1 : PV -> Prop
 | .v _ => True
 | .list nl _ => nl = true
 | .agg _ => False
def PV.flat : PV -> Prop
 | .agg cs => ∀ c ∈ cs, c.flat1
 | .v _ => True
 | .list nl _ => nl = true
mutual
def AV.flat : AV -> Prop
 | .p x => x.flat
 | .ptr _ _ => True
 | .buf _ => True
 | .agg cs => flatL cs
 | .tup cs => flatL cs
 | .dead => True
 | _ => False
def flatL : List AV -> Prop
 | [] => True
 | c :: r => c.flat /\ flatL r
end
def AO.flat : AO -> Prop
 | .cells cs => flatL cs
 | .buf _ _ xs => ∀ x ∈ xs, x.flat
 | .frz nl _ => nl = true
 | .map _ => False
 | .arr _ => False
 | .bufL _ _ _ => False
 | .rws _ _ _ _ _ _ _ _ _ => False
def flatH : AH -> Prop
 | [] => True
 | none :: r => flatH r
 | some o :: r => o.flat /\ flatH r
theorem flatL_at : ∀ {cs : List AV}, flatL cs -> ∀ {k : Nat} {c : AV}, cs[k]? = some c -> c.flat
 | [], _, k, c, hk => by simp at hk
 | d :: r, h, 0, c, hk => by simp at hk; subst hk; exact h.1
 | d :: r, h, k + 1, c, hk => flatL_at h.2 (by simpa using hk)
theorem flatH_live : ∀ {H : AH}, flatH H -> ∀ {k : Nat} {o : AO}, live H k o -> o.flat
 | [], _, k, c, hk => by simp [live] at hk
 | none :: r, h, 0, c, hk => by simp [live] at hk
 | some o :: r, h, 0, c, hk => by simp [live] at hk; subst hk; exact h.1
 | none :: r, h, k + 1, c, hk => flatH_live (H := r) h (by simpa [live] using hk)
 | some o :: r, h, k + 1, c, hk => flatH_live (H := r) h.2 (by simpa [live] using hk)
section
variable {P : Program} {H H' : AH} {m m' : Nat -> Value} {S S' : Nat -> Prop} {w w' : World} {ids : List Nat} {fl : Bool}
theorem RdP.flat1 {x : PV} {v : Value} (hx : x.flat1) (h : RdP S w x v) : RdP S' w x v := by
 cases h with
 | v _ ho => exact .v _ ho
 | nil => exact .nil
 | list => cases hx
 | agg => cases hx
theorem RdP.flat {x : PV} {v : Value} (hx : x.flat) (h : RdP S w x v) : RdP S' w x v := by
 cases h with
 | v _ ho => exact .v _ ho
 | nil => exact .nil
 | list => cases hx
 | agg cs vs hl ho hr => exact .agg _ _ hl ho fun k c hk => RdP.flat1 (hx c (List.mem_of_getElem? hk)) (hr k c hk)
theorem Rd.flat {x : AV} {v : Value} (h : Rd P H m S w x v) (hx : x.flat) : Rd P H m S' w x v := by
 induction h with
 | p x v h => exact .p _ _ (h.flat (by simpa [AV.flat] using hx))
 | ptr id off a hid h => exact .ptr _ _ _ hid h
 | buf id a l c hid h => exact .buf _ _ _ _ hid h
 | sub id lo hi a l c hid h => simp [AV.flat] at hx
 | bptr id ix off a hid h => simp [AV.flat] at hx
 | rptr cs a us hS hu hr => simp [AV.flat] at hx
 | agg cs vs hl ho hr ih => exact .agg _ _ hl ho fun k c hk => ih k c hk (flatL_at (by simpa [AV.flat] using hx) hk)
 | tup cs vs hl hr ih => exact .tup _ _ hl fun k c hk => ih k c hk (flatL_at (by simpa [AV.flat] using hx) hk)
 | clo fn caps vs hl hr ih => simp [AV.flat] at hx
 | mp id b hid h => simp [AV.flat] at hx
 | cap nl xs a l h => simp [AV.flat] at hx
 | lptr id off a hid h => simp [AV.flat] at hx
 | wptr id ix off a hid h => simp [AV.flat] at hx
 | opq v h => simp [AV.flat] at hx
 | dead v => exact .dead _
theorem OK.flat {mv : Value} {o : AO} (h : OK P H m S w mv o) (ho : o.flat) : OK P H m S' w mv o := by
 cases o with
 | cells cs =>
  obtain ⟨b, T, vs, h1, h2, h3, h4⟩ := h
  exact ⟨b, T, vs, h1, h2, h3, fun k c hk => ⟨(h4 k c hk).1.flat (flatL_at ho hk), (h4 k c hk).2⟩⟩
 | buf e nl xs =>
  obtain ⟨i, us, h1, h2, h3, h4, h5, h6⟩ := h
  refine ⟨i, us, h1, h2, h3, h4, fun k c hk => ?_, h6⟩
  obtain ⟨u, hu, hr, h7⟩ := h5 k c hk
  obtain ⟨i', j, x, _, _, hx, hc⟩ := flat_inv h4 hk
  have hxf := ho x (List.mem_of_getElem? hx)
  refine ⟨u, hu, ?_, h7⟩
  cases x with
  | agg cs => exact RdP.flat1 (hxf c (List.mem_of_getElem? hc)) hr
  | v x =>
   cases j with
   | zero => simp [PV.cells] at hc; subst hc; exact RdP.flat (x := .v x) hxf hr
   | succ j => simp [PV.cells] at hc
  | list nl xs =>
   cases j with
   | zero => simp [PV.cells] at hc; subst hc; exact RdP.flat (x := .list nl xs) hxf hr
   | succ j => simp [PV.cells] at hc
 | frz nl xs => exact RdP.flat (x := .list nl xs) ho h
 | map ks => exact ho.elim
 | arr xs => exact ho.elim
 | bufL e xs l => exact ho.elim
 | rws => exact ho.elim
end
end Go.Abs
namespace Go.Abs
open Go.RowKit
def backρ (ids : List Nat) (n : Nat) (j : Nat) : Nat := match Nat.blt j ids.length with
 | true => ids.getD j 0
 | false => n + (j - ids.length)
def setIds (ρ : Nat -> Nat) : AH -> List Nat -> AH -> AH
 | H, id :: ids, some o :: os => setIds ρ (H.set id (some (o.ren ρ))) ids os
 | H, id :: ids, none :: os => setIds ρ (H.set id none) ids os
 | H, _, _ => H
def renH (ρ : Nat -> Nat) : AH -> AH
 | [] => []
 | some o :: r => some (o.ren ρ) :: renH ρ r
 | none :: r => none :: renH ρ r
def backH (H : AH) (ids : List Nat) (H' : AH) : AH := setIds (backρ ids H.length) H ids (H'.take ids.length) ++ renH (backρ ids H.length) (H'.drop ids.length)
def nodupB : List Nat -> Bool
 | [] => true
 | i :: r => (match idx i r with
  | none => true
  | some _ => false) && nodupB r
def boundB (n : Nat) : List Nat -> Bool
 | [] => true
 | i :: r => Nat.blt i n && boundB n r
inductive Fr1 (H : AH) : AV -> PV -> Prop
 | p (x : PV) (h : x.flat) : Fr1 H (.p x) x
 | buf (j : Nat) (e : TypeId) (nl : Bool) (xs : List PV) (hl : live H j (.buf e nl xs)) (h : ∀ y ∈ xs, y.flat) : Fr1 H (.buf j) (.list nl xs)
inductive FrL (H : AH) : List AV -> List PV -> Prop
 | nil : FrL H [] []
 | cons {r : AV} {x : PV} {l : List AV} {xs : List PV} (h : Fr1 H r x) (hs : FrL H l xs) : FrL H (r :: l) (x :: xs)
inductive FrV (H : AH) : AV -> AV -> Prop
 | one {r : AV} {x : PV} (h : Fr1 H r x) : FrV H r (.p x)
 | tup {l : List AV} {xs : List PV} (h : FrL H l xs) : FrV H (.tup l) (.tup (xs.map .p))
def PureK (R : AV -> Prop) (r : AV) (H : AH) : Prop := ∃ x, FrV H r x /\ R x
structure ExtA (P : Program) (f : FuncId) (args : List AV) (v : AV) : Prop where
 run : ∀ (H : AH) (m : Nat -> Value) (S : Nat -> Prop) (w : World) (vals : Array Value), Hp P H m S w -> vals.size = args.length -> (∀ (j : Nat) (x : AV), args[j]? = some x -> Rd P H m S w x (vals.getD j undef)) ->
  ∃ u, (callFunc f vals).run P w = .ok (.value u) w /\ Rd P H m S w v u
inductive CallA (P : Program) (f : FuncId) (args : List AV) (H : AH) (K : AV -> AH -> Prop) : Prop
 | all (h : ACall P f args H K) : CallA P f args H K
 | loc (ids fz : List Nat) (h1 : nodupB ids = true) (h2 : boundB (frzAll H fz).length ids = true)
   (h : ACall P f (toLocL (frzAll H fz) ids false args) (locH (frzAll H fz) ids) fun r H' => K (r.ren (backρ ids (frzAll H fz).length)) (backH (frzAll H fz) ids H')) : CallA P f args H K
 | fresh (R : AV -> Prop) (h : ACall P f (toLocL H [] true args) [] (PureK R)) (hk : ∀ x, R x -> K x H) : CallA P f args H K
 | ext (v : AV) (h : ExtA P f args v) (hk : K v H) : CallA P f args H K
 | lend (h : ACall P f (toLocL H [] true args) [] fun r H' => r.flat /\ flatH H' /\ K (r.ren (backρ [] H.length)) (H ++ renH (backρ [] H.length) H')) : CallA P f args H K
theorem renH_at (ρ : Nat -> Nat) : ∀ (H : AH) (k : Nat), (renH ρ H)[k]? = (H[k]?).map (Option.map (AO.ren ρ))
 | [], k => by simp [renH]
 | some o :: r, 0 => by simp [renH]
 | none :: r, 0 => by simp [renH]
 | some o :: r, k + 1 => by simp [renH, renH_at ρ r k]
 | none :: r, k + 1 => by simp [renH, renH_at ρ r k]
theorem renH_length (ρ : Nat -> Nat) : ∀ (H : AH), (renH ρ H).length = H.length
 | [] => rfl
 | some o :: r => by simp [renH, renH_length ρ r]
 | none :: r => by simp [renH, renH_length ρ r]
theorem renH_live {ρ : Nat -> Nat} {H : AH} {k : Nat} {o : AO} (h : live (renH ρ H) k o) : ∃ o0, live H k o0 /\ o = o0.ren ρ := by
 unfold live at h ⊢
 rw [renH_at, Option.map_eq_some_iff] at h
 obtain ⟨x, hx, he⟩ := h
 cases x with
 | none => cases he
 | some o0 => simp at he; exact ⟨o0, hx, he.symm⟩
theorem setIds_length (ρ : Nat -> Nat) : ∀ (ids : List Nat) (H os : AH), (setIds ρ H ids os).length = H.length
 | [], H, os => by cases os <;> simp [setIds]
 | id :: ids, H, [] => by simp [setIds]
 | id :: ids, H, some o :: os => by simp [setIds, setIds_length ρ ids]
 | id :: ids, H, none :: os => by simp [setIds, setIds_length ρ ids]
theorem nodupB_spec : ∀ {ids : List Nat}, nodupB ids = true -> ∀ {i j : Nat} {x : Nat}, ids[i]? = some x -> ids[j]? = some x -> i = j
 | [], _, i, j, x, h1, _ => by simp at h1
 | a :: r, h, i, j, x, h1, h2 => by
  simp only [nodupB, Bool.and_eq_true] at h
  obtain ⟨h3, h4⟩ := h
  have h5 : idx a r = none := by
   split at h3
   ·assumption
   ·cases h3
  cases i with
  | zero =>
   cases j with
   | zero => rfl
   | succ j => simp at h1 h2; subst h1; exact absurd h2 (idx_none h5 j)
  | succ i =>
   cases j with
   | zero => simp at h1 h2; subst h2; exact absurd h1 (idx_none h5 i)
   | succ j => simp at h1 h2; rw [nodupB_spec h4 h1 h2]
theorem boundB_spec {n : Nat} : ∀ {ids : List Nat}, boundB n ids = true -> ∀ {j : Nat} {x : Nat}, ids[j]? = some x -> x < n
 | [], _, j, x, h1 => by simp at h1
 | a :: r, h, j, x, h1 => by
  simp only [boundB, Bool.and_eq_true] at h
  cases j with
  | zero => simp at h1; subst h1; exact lt_of_blt h.1
  | succ j => exact boundB_spec h.2 (by simpa using h1)
theorem setIds_live (ρ : Nat -> Nat) : ∀ (ids : List Nat) (H os : AH) (i : Nat) (o : AO), ids.length = os.length -> (∀ (a b x : Nat), ids[a]? = some x -> ids[b]? = some x -> a = b) -> live (setIds ρ H ids os) i o ->
  (∃ j o0, ids[j]? = some i /\ live os j o0 /\ o = o0.ren ρ) \/ ((∀ (j : Nat), ids[j]? ≠ some i) /\ live H i o)
 | [], H, os, i, o, _, _, h => .inr ⟨by simp, by cases os <;> simpa [setIds] using h⟩
 | id :: ids, H, [], i, o, hl, _, h => by simp at hl
 | id :: ids, H, x :: os, i, o, hl, hn, h => by
  have hn' : ∀ (a b x : Nat), ids[a]? = some x -> ids[b]? = some x -> a = b := fun a b x h1 h2 => by
   have := hn (a + 1) (b + 1) x (by simpa using h1) (by simpa using h2)
   omega
  have step : ∀ (z : Option AO), (∀ o0, z = some o0 -> ∃ o1, x = some o1 /\ o0 = o1.ren ρ) -> live (setIds ρ (H.set id z) ids os) i o ->
    (∃ j o0, (id :: ids)[j]? = some i /\ live (x :: os) j o0 /\ o = o0.ren ρ) \/ ((∀ (j : Nat), (id :: ids)[j]? ≠ some i) /\ live H i o) := by
   intro z hz h
   rcases setIds_live ρ ids _ os i o (by simpa using hl) hn' h with ⟨j, o0, h1, h2, h3⟩ | ⟨h1, h2⟩
   ·exact .inl ⟨j + 1, o0, by simpa using h1, by simpa [live] using h2, h3⟩
   ·rcases live_set h2 with ⟨rfl, he⟩ | ⟨hne, hl'⟩
    ·obtain ⟨o1, h3, h4⟩ := hz o he
     exact .inl ⟨0, o1, rfl, by rw [h3]; rfl, h4⟩
    ·refine .inr ⟨fun j => ?_, hl'⟩
     cases j with
     | zero => simp; exact fun e => hne e.symm
     | succ j => simpa using h1 j
  cases x with
  | some o1 => exact step (some (o1.ren ρ)) (fun o0 he => ⟨o1, rfl, by injection he with he; exact he.symm⟩) (by simpa [setIds] using h)
  | none => exact step none (fun o0 he => by cases he) (by simpa [setIds] using h)
section
variable {P : Program} {H : AH} {m : Nat -> Value} {S : Nat -> Prop} {w : World}
theorem Stp.back (hp : Hp P H m S w) {ids : List Nat} (hn : nodupB ids = true) (hb : boundB H.length ids = true) {H' : AH} {m' : Nat -> Value} {S' : Nat -> Prop} {w' : World}
  (h : Stp P (locH H ids) (fun j => m (ids.getD j 0)) S w H' m' S' w') :
  ∃ m'', Stp P H m S w (backH H ids H') m'' S' w' /\ ∀ {x : AV} {v : Value}, Rd P H' m' S' w' x v -> Rd P (backH H ids H') m'' S' w' (x.ren (backρ ids H.length)) v := by
 have hll : (locH H ids).length = ids.length := by simp [locH]
 have hle : ids.length <= H'.length := by have := h.old.len; rwa [hll] at this
 have hnd : ∀ (a b x : Nat), ids[a]? = some x -> ids[b]? = some x -> a = b := fun a b x h1 h2 => nodupB_spec hn h1 h2
 have hsl : (setIds (backρ ids H.length) H ids (H'.take ids.length)).length = H.length := setIds_length _ _ _ _
 have htl : ids.length = (H'.take ids.length).length := by rw [List.length_take]; omega
 have hlen : (backH H ids H').length = H.length + (H'.length - ids.length) := by simp [backH, hsl, renH_length]
 let m'' : Nat -> Value := fun i => if i < H.length then m i else m' (ids.length + (i - H.length))
 have hρ1 : ∀ {j x : Nat}, ids[j]? = some x -> backρ ids H.length j = x := by
  intro j x hj
  have hlt := (List.getElem?_eq_some_iff.1 hj).1
  unfold backρ
  have : Nat.blt j ids.length = true := Nat.ble_eq_true_of_le hlt
  rw [this]
  simp [List.getD, hj]
 have hρ2 : ∀ {j : Nat}, ids.length <= j -> backρ ids H.length j = H.length + (j - ids.length) := by
  intro j hj
  unfold backρ
  have : Nat.blt j ids.length = false := by
   cases hb : Nat.blt j ids.length with
   | false => rfl
   | true => have := lt_of_blt hb; omega
  rw [this]
 have lv : ∀ {i : Nat} {o : AO}, live (backH H ids H') i o -> (∃ j o0, ids[j]? = some i /\ live H' j o0 /\ o = o0.ren (backρ ids H.length)) \/ (i < H.length /\ (∀ (j : Nat), ids[j]? ≠ some i) /\ live H i o) \/
   (∃ j o0, ids.length <= j /\ i = H.length + (j - ids.length) /\ live H' j o0 /\ o = o0.ren (backρ ids H.length)) := by
  intro i o hl
  unfold live backH at hl
  by_cases hi : i < H.length
  ·rw [List.getElem?_append_left (by rw [hsl]; exact hi)] at hl
   rcases setIds_live _ ids H _ i o htl hnd hl with ⟨j, o0, h1, h2, h3⟩ | ⟨h1, h2⟩
   ·have hjl := (List.getElem?_eq_some_iff.1 h1).1
    unfold live at h2
    rw [List.getElem?_take, if_pos hjl] at h2
    exact .inl ⟨j, o0, h1, h2, h3⟩
   ·exact .inr (.inl ⟨hi, h1, h2⟩)
  ·rw [List.getElem?_append_right (by rw [hsl]; omega), hsl] at hl
   obtain ⟨o0, h1, h2⟩ := renH_live hl
   unfold live at h1
   rw [List.getElem?_drop] at h1
   exact .inr (.inr ⟨ids.length + (i - H.length), o0, by omega, by omega, h1, h2⟩)
 have mOld : ∀ {i : Nat}, i < H.length -> m'' i = m i := fun hi => if_pos hi
 have mNew : ∀ {j : Nat}, ids.length <= j -> m'' (H.length + (j - ids.length)) = m' j := by
  intro j hj
  show (if _ then _ else _) = _
  rw [if_neg (by omega)]
  congr 1
  omega
 have handed : ∀ {j i : Nat} {o0 : AO}, ids[j]? = some i -> live H' j o0 -> i < H.length /\ m' j = m i /\ ∃ o1, live H i o1 /\ (∀ e nl xs, o0 = .buf e nl xs -> ∃ nl0 xs0, o1 = .buf e nl0 xs0 /\ xs0.length <= xs.length) /\ (∀ e xs l, o0 = .bufL e xs l -> ∃ l0, o1 = .bufL e xs l0) /\ ∀ e, o0.row = some e -> o1.row = some e := by
  intro j i o0 hj hl
  have hjl := (List.getElem?_eq_some_iff.1 hj).1
  obtain ⟨h1, o, h2, h3, h3L, h3R⟩ := h.old.at_ j (by rw [hll]; exact hjl) o0 hl
  have hg : ids.getD j 0 = i := by simp [List.getD, hj]
  simp only [hg] at h1
  obtain ⟨i', o1, h4, h5, h6⟩ := locH_live h2
  rw [hj] at h4
  injection h4 with h4
  subst h4
  refine ⟨boundB_spec hb hj, h1, o1, h5, fun e nl xs he => ?_, fun e xs l he => ?_, fun e he => by have h7 := h3R e he; rw [h6, row_loc] at h7; exact h7⟩
  ·obtain ⟨nl0, xs0, h7, h8⟩ := h3 e nl xs he
   subst h7
   cases o1 <;> simp [toLocO] at h6
   obtain ⟨rfl, rfl, rfl⟩ := h6
   exact ⟨_, _, rfl, h8⟩
  ·obtain ⟨l0, h7⟩ := h3L e xs l he
   subst h7
   cases o1 <;> simp [toLocO] at h6
   obtain ⟨rfl, rfl, _⟩ := h6
   exact ⟨_, rfl⟩
 have hold : Older H (backH H ids H') m m'' := by
  refine ⟨by rw [hlen]; omega, fun i hi o' hl => ⟨mOld hi, ?_⟩⟩
  rcases lv hl with ⟨j, o0, h1, h2, h3⟩ | ⟨_, _, h2⟩ | ⟨j, o0, h1, h2, _⟩
  ·obtain ⟨_, _, o1, h4, h5, h5L, h5R⟩ := handed h1 h2
   refine ⟨o1, h4, fun e nl xs he => ?_, fun e xs l he => ?_, fun e he => h5R e (by rw [h3, row_ren] at he; exact he)⟩
   ·subst he
    cases o0 <;> simp [AO.ren] at h3
    obtain ⟨rfl, rfl, rfl⟩ := h3
    exact h5 _ _ _ rfl
   ·subst he
    cases o0 <;> simp [AO.ren] at h3
    obtain ⟨rfl, rfl, _⟩ := h3
    exact h5L _ _ _ rfl
  ·exact ⟨o', h2, fun e nl xs he => ⟨nl, xs, he, Nat.le_refl _⟩, fun e xs l he => ⟨l, he⟩, fun _ h => h⟩
  ·omega
 have rdB : ∀ {x : AV} {v : Value}, Rd P H' m' S' w' x v -> Rd P (backH H ids H') m'' S' w' (x.ren (backρ ids H.length)) v := by
  intro x v hx
  refine Rd.ren (fun j hj => ?_) (fun j o' hj hl => ?_) hx
  ·rw [hlen]
   by_cases hjl : j < ids.length
   ·have h1 : ids[j]? = some ids[j] := List.getElem?_eq_getElem hjl
    rw [hρ1 h1]
    have := boundB_spec hb h1
    omega
   ·rw [hρ2 (by omega)]
    omega
  ·by_cases hjl : j < ids.length
   ·have h1 : ids[j]? = some ids[j] := List.getElem?_eq_getElem hjl
    have hi := boundB_spec hb h1
    rw [hρ1 h1] at hl ⊢
    rcases lv hl with ⟨j', o0, h2, h3, h4⟩ | ⟨_, h2, _⟩ | ⟨j', o0, h2, h3, _⟩
    ·have := hnd _ _ _ h1 h2
     subst this
     obtain ⟨_, h5, _⟩ := handed h1 h3
     refine ⟨o0, h3, by rw [mOld hi, h5], fun e nl xs he => ?_, fun e xs l he => ?_, by rw [h4, row_ren]⟩
     ·subst he
      cases o0 <;> simp [AO.ren] at h4
      obtain ⟨rfl, rfl, rfl⟩ := h4
      rfl
     ·subst he
      cases o0 <;> simp [AO.ren] at h4
      obtain ⟨rfl, rfl, _⟩ := h4
      exact ⟨_, rfl⟩
    ·exact absurd h1 (h2 j)
    ·omega
   ·rw [hρ2 (by omega)] at hl ⊢
    rcases lv hl with ⟨j', o0, h2, _⟩ | ⟨h2, _⟩ | ⟨j', o0, h2, h3, h4, h5⟩
    ·have := boundB_spec hb h2; omega
    ·omega
    ·have hjj : j' = j := by omega
     subst hjj
     refine ⟨o0, h4, mNew h2, fun e nl xs he => ?_, fun e xs l he => ?_, by rw [h5, row_ren]⟩
     ·subst he
      cases o0 <;> simp [AO.ren] at h5
      obtain ⟨rfl, rfl, rfl⟩ := h5
      rfl
     ·subst he
      cases o0 <;> simp [AO.ren] at h5
      obtain ⟨rfl, rfl, _⟩ := h5
      exact ⟨_, rfl⟩
 have hownL : ∀ b, Abs.own (locH H ids) (fun j => m (ids.getD j 0)) w b -> Abs.own H m w b := by
  rintro b ⟨j, o, h1, h2⟩
  obtain ⟨i, o0, h3, h4, h5⟩ := locH_live h1
  have hg : ids.getD j 0 = i := by simp [List.getD, h3]
  simp only [hg] at h2
  subst h5
  exact ⟨i, o0, h4, own_loc.1 h2⟩
 have other : ∀ {i : Nat} {o : AO} {b : Nat}, (∀ (j : Nat), ids[j]? ≠ some i) -> live H i o -> Own w (m i) o b -> w'.heap[b]? = w.heap[b]? /\ ¬ S' b /\ ¬ Abs.own H' m' w' b := by
  intro i o b hno hl hbb
  have hlt := (hp.obj i o hl).blk_lt hbb
  have hno' : ¬ Abs.own (locH H ids) (fun j => m (ids.getD j 0)) w b := by
   rintro ⟨j, o1, h1, h2⟩
   obtain ⟨i', o0, h3, h4, h5⟩ := locH_live h1
   have hg : ids.getD j 0 = i' := by simp [List.getD, h3]
   simp only [hg] at h2
   subst h5
   have h6 : Own w (m i') o0 b := own_loc.1 h2
   have := hp.inj i i' o o0 b hl h4 hbb h6
   subst this
   exact hno j h3
  refine ⟨h.blk b hlt hno', fun hS => ?_, fun ho => ?_⟩
  ·rcases h.snew b hS with h1 | h1 | h1
   ·exact hp.out i o b hl hbb h1
   ·exact hno' h1
   ·omega
  ·rcases h.own b ho with h1 | h1
   ·exact hno' h1
   ·omega
 have okB : ∀ {j : Nat} {o0 : AO}, live H' j o0 -> OK P (backH H ids H') m'' S' w' (m' j) (o0.ren (backρ ids H.length)) := by
  intro j o0 hl
  have h1 := h.hp.obj j o0 hl
  cases o0 with
  | cells cs =>
   obtain ⟨b, T, vs, h2, h3, h4, h5⟩ := h1
   refine ⟨b, T, vs, h2, h3, by rw [renL_length]; exact h4, fun k c hk => ?_⟩
   rw [renL_at, Option.map_eq_some_iff] at hk
   obtain ⟨d, hd, rfl⟩ := hk
   exact ⟨rdB (h5 k d hd).1, (h5 k d hd).2⟩
  | buf e nl xs => exact h1
  | frz nl xs => exact h1
  | map ks => exact h1
  | arr xs => exact h1
  | bufL e xs l =>
   obtain ⟨i', us, g1, g2, g3, g4, g5, g6, g7⟩ := h1
   refine ⟨i', us, g1, g2, g3, g4, by rw [renL_length]; exact g5, g6, fun k c hk => ?_⟩
   rw [renL_at, Option.map_eq_some_iff] at hk
   obtain ⟨d, hd, rfl⟩ := hk
   obtain ⟨u, hu, h2, h3⟩ := g7 k d hd
   exact ⟨u, hu, rdB h2, h3⟩
  | rws e nl sz q e2 xs h0 l gn =>
   obtain ⟨i', i2, us, g1, g2, g3, g4, g5, g6, g7, g8, g9, g10, g11⟩ := h1
   refine ⟨i', i2, us, g1, g2, g3, g4, g5, g6, g7, g8, g9, fun p hp0 => ?_, g11⟩
   obtain ⟨k1, k2, k3⟩ := g10 p hp0
   refine ⟨k1, by rw [renL_length]; exact k2, fun k c hk => ?_⟩
   rw [renL_at, Option.map_eq_some_iff] at hk
   obtain ⟨d, hd, rfl⟩ := hk
   obtain ⟨u, hu, h2, h3⟩ := k3 k d hd
   exact ⟨u, hu, rdB h2, h3⟩
 have osm : ∀ {i : Nat} {o : AO}, (∀ (j : Nat), ids[j]? ≠ some i) -> live H i o -> ∀ {b}, Own w' (m i) o b -> Own w (m i) o b := fun hno hl _ hb => (Own.same (hp.obj _ _ hl) fun b hb => (other hno hl hb).1).1 hb
 have kinds : ∀ {i : Nat} {o : AO}, live (backH H ids H') i o -> (∃ j o0, live H' j o0 /\ m'' i = m' j /\ o = o0.ren (backρ ids H.length) /\ i = backρ ids H.length j) \/ ((∀ (j : Nat), ids[j]? ≠ some i) /\ i < H.length /\ live H i o /\ m'' i = m i) := by
  intro i o hl
  rcases lv hl with ⟨j, o0, h1, h2, h3⟩ | ⟨h1, h2, h3⟩ | ⟨j, o0, h1, h2, h3, h4⟩
  ·obtain ⟨h4, h5, _⟩ := handed h1 h2
   exact .inl ⟨j, o0, h2, by rw [mOld h4, h5], h3, (hρ1 h1).symm⟩
  ·exact .inr ⟨h2, h1, h3, mOld h1⟩
  ·exact .inl ⟨j, o0, h3, by rw [h2]; exact mNew h1, h4, by rw [hρ2 h1]; exact h2⟩
 have blkR : ∀ {v : Value} {o0 : AO} {b : Nat}, Own w' v (o0.ren (backρ ids H.length)) b -> Own w' v o0 b := own_ren.1
 refine ⟨m'', ⟨hold, ⟨fun i o hl => ?_, fun i j oi oj b hi hj hbi hbj => ?_, h.hp.sub, fun i o b hl hbb => ?_, h.hp.glb⟩, h.keeps, h.sub, h.os, h.tape, h.output, h.size, fun b hlt hno => h.blk b hlt fun ho => hno (hownL b ho), fun b hS => ?_, fun b ho => ?_, h.scel⟩, rdB⟩
 ·rcases kinds hl with ⟨j, o0, h1, h2, h3, _⟩ | ⟨h1, _, h2, h3⟩
  ·rw [h2, h3]; exact okB h1
  ·rw [h3]
   exact OK.mono h.keeps h.sub hold (hp.obj i o h2) fun b hbb => (other h1 h2 hbb).1
 ·rcases kinds hi with ⟨j1, o1, h1, h2, h3, h4⟩ | ⟨h1, _, h2, h3⟩ <;> rcases kinds hj with ⟨j2, o2, g1, g2, g3, g4⟩ | ⟨g1, _, g2, g3⟩
  ·rw [h2, h3] at hbi
   rw [g2, g3] at hbj
   have := h.hp.inj j1 j2 o1 o2 b h1 g1 (blkR hbi) (blkR hbj)
   rw [h4, g4, this]
  ·rw [h2, h3] at hbi
   rw [g3] at hbj
   exact absurd ⟨j1, o1, h1, blkR hbi⟩ (other g1 g2 (osm g1 g2 hbj)).2.2
  ·rw [h3] at hbi
   rw [g2, g3] at hbj
   exact absurd ⟨j2, o2, g1, blkR hbj⟩ (other h1 h2 (osm h1 h2 hbi)).2.2
  ·rw [h3] at hbi
   rw [g3] at hbj
   exact hp.inj i j oi oj b h2 g2 (osm h1 h2 hbi) (osm g1 g2 hbj)
 ·rcases kinds hl with ⟨j, o0, h1, h2, h3, _⟩ | ⟨h1, _, h2, h3⟩
  ·rw [h2, h3] at hbb
   exact h.hp.out j o0 b h1 (blkR hbb)
  ·rw [h3] at hbb
   exact (other h1 h2 (osm h1 h2 hbb)).2.1
 ·rcases h.snew b hS with h1 | h1 | h1
  ·exact .inl h1
  ·exact .inr (.inl (hownL b h1))
  ·exact .inr (.inr h1)
 ·obtain ⟨i, o, hl, hbb⟩ := ho
  rcases kinds hl with ⟨j, o0, h1, h2, h3, _⟩ | ⟨h1, _, h2, h3⟩
  ·rw [h2, h3] at hbb
   rcases h.own b ⟨j, o0, h1, blkR hbb⟩ with h4 | h4
   ·exact .inl (hownL b h4)
   ·exact .inr h4
  ·rw [h3] at hbb
   exact .inl ⟨i, o, h2, osm h1 h2 hbb⟩
end
end Go.Abs
namespace Go.Abs
open Go.RowKit
section
variable {P : Program} {H : AH} {m : Nat -> Value} {S : Nat -> Prop} {w : World}
theorem Stp.lent (hp : Hp P H m S w) {Sc : Nat -> Prop} {H' : AH} {m' : Nat -> Value} {S' : Nat -> Prop} {w' : World} {mc : Nat -> Value}
  (h : Stp P [] mc Sc w H' m' S' w') (hf : flatH H') :
  ∃ m'', Stp P H m S w (H ++ renH (backρ [] H.length) H') m'' S w' /\ ∀ {x : AV} {v : Value}, x.flat -> Rd P H' m' S' w' x v -> Rd P (H ++ renH (backρ [] H.length) H') m'' S w' (x.ren (backρ [] H.length)) v := by
 have hno : ∀ {w : World} b, ¬ Abs.own ([] : AH) mc w b := by rintro w b ⟨i, o, hl, _⟩; simp [Abs.live] at hl
 have hblk : ∀ b, b < w.heap.size -> w'.heap[b]? = w.heap[b]? := fun b hb => h.blk b hb (hno b)
 have hk : Keeps S w w' := fun b hb => hblk b (hp.sub b hb)
 have hρ : ∀ j, backρ [] H.length j = H.length + j := fun j => rfl
 let m'' : Nat -> Value := fun i => if i < H.length then m i else m' (i - H.length)
 have mOld : ∀ {i : Nat}, i < H.length -> m'' i = m i := fun hi => if_pos hi
 have mNew : ∀ (j : Nat), m'' (H.length + j) = m' j := by
  intro j
  show (if _ then _ else _) = _
  rw [if_neg (by omega)]
  congr 1
  omega
 have hlen : (H ++ renH (backρ [] H.length) H').length = H.length + H'.length := by simp [renH_length]
 have lv : ∀ {i : Nat} {o : AO}, live (H ++ renH (backρ [] H.length) H') i o -> (i < H.length /\ live H i o) \/ ∃ j o0, i = H.length + j /\ live H' j o0 /\ o = o0.ren (backρ [] H.length) := by
  intro i o hl
  unfold live at hl
  by_cases hi : i < H.length
  ·rw [List.getElem?_append_left hi] at hl
   exact .inl ⟨hi, hl⟩
  ·rw [List.getElem?_append_right (by omega)] at hl
   obtain ⟨o0, h1, h2⟩ := renH_live hl
   exact .inr ⟨i - H.length, o0, by omega, h1, h2⟩
 have hold : Older H (H ++ renH (backρ [] H.length) H') m m'' := by
  refine ⟨by rw [hlen]; omega, fun i hi o' hl => ⟨mOld hi, ?_⟩⟩
  rcases lv hl with ⟨_, h1⟩ | ⟨j, o0, h1, _⟩
  ·exact ⟨o', h1, fun e nl xs he => ⟨nl, xs, he, Nat.le_refl _⟩, fun e xs l he => ⟨l, he⟩, fun _ h => h⟩
  ·omega
 have rdB : ∀ {x : AV} {v : Value}, x.flat -> Rd P H' m' S' w' x v -> Rd P (H ++ renH (backρ [] H.length) H') m'' S w' (x.ren (backρ [] H.length)) v := by
  intro x v hx hr
  have h1 : Rd P H' m' S w' x v := hr.flat hx
  refine Rd.ren (fun j hj => by rw [hlen, hρ]; omega) (fun j o' hj hl => ?_) h1
  rw [hρ] at hl ⊢
  rcases lv hl with ⟨h2, _⟩ | ⟨j', o0, h2, h3, h4⟩
  ·omega
  ·obtain rfl : j = j' := by omega
   refine ⟨o0, h3, mNew j, fun e nl xs he => ?_, fun e xs l he => ?_, by rw [h4, row_ren]⟩
   ·subst he
    cases o0 <;> simp [AO.ren] at h4
    obtain ⟨rfl, rfl, rfl⟩ := h4
    rfl
   ·subst he
    cases o0 <;> simp [AO.ren] at h4
    obtain ⟨rfl, rfl, _⟩ := h4
    exact ⟨_, rfl⟩
 have newB : ∀ {j : Nat} {o0 : AO} {b : Nat}, live H' j o0 -> Own w' (m' j) o0 b -> w.heap.size <= b := by
  intro j o0 b hl hb
  rcases h.own b ⟨j, o0, hl, hb⟩ with h1 | h1
  ·exact absurd h1 (hno b)
  ·exact h1
 have blkR : ∀ {v : Value} {o0 : AO} {b : Nat}, Own w' v (o0.ren (backρ [] H.length)) b -> Own w' v o0 b := own_ren.1
 have osm : ∀ {i : Nat} {o : AO}, live H i o -> ∀ {b}, Own w' (m i) o b -> Own w (m i) o b := fun hl _ hb => (Own.same (hp.obj _ _ hl) fun b hb => hblk b ((hp.obj _ _ hl).blk_lt hb)).1 hb
 refine ⟨m'', ⟨hold, ⟨fun i o hl => ?_, fun i j oi oj b hi hj hbi hbj => ?_, fun b hb => Nat.lt_of_lt_of_le (hp.sub b hb) h.size, fun i o b hl hbb hS => ?_, hp.glb.mono hk fun _ h => h⟩, hk, fun _ h => h, h.os, h.tape, h.output, h.size, fun b hlt _ => hblk b hlt, fun b hS => .inl hS, fun b ho => ?_, fun b hS => .inl hS⟩, rdB⟩
 ·rcases lv hl with ⟨h1, h2⟩ | ⟨j, o0, rfl, h2, rfl⟩
  ·rw [mOld h1]
   exact OK.mono hk (fun _ h => h) hold (hp.obj i o h2) fun b hbb => hblk b ((hp.obj i o h2).blk_lt hbb)
  ·rw [mNew]
   have hfl := flatH_live hf h2
   have h3 := (h.hp.obj j o0 h2).flat (S' := S) hfl
   cases o0 with
   | cells cs =>
    obtain ⟨b, T, vs, h4, h5, h6, _⟩ := h3
    obtain ⟨b2, T2, vs2, g4, g5, _, g7⟩ := h.hp.obj j _ h2
    rw [h4] at g4
    injection g4 with g4; injection g4 with g4; injection g4 with g4
    subst g4
    rw [h5] at g5
    injection g5 with g5; injection g5 with g5
    subst g5
    refine ⟨b, T, vs, h4, h5, by rw [renL_length]; exact h6, fun k c hk' => ?_⟩
    rw [renL_at, Option.map_eq_some_iff] at hk'
    obtain ⟨d, hd, rfl⟩ := hk'
    exact ⟨rdB (flatL_at hfl hd) (g7 k d hd).1, (g7 k d hd).2⟩
   | buf e nl xs => exact h3
   | frz nl xs => exact h3
   | map ks => exact h3
   | arr xs => exact h3
   | bufL e xs l => exact hfl.elim
   | rws => exact hfl.elim
 ·rcases lv hi with ⟨h1, h2⟩ | ⟨j1, o1, rfl, h2, rfl⟩ <;> rcases lv hj with ⟨g1, g2⟩ | ⟨j2, o2, rfl, g2, rfl⟩
  ·rw [mOld h1] at hbi
   rw [mOld g1] at hbj
   exact hp.inj i j oi oj b h2 g2 (osm h2 hbi) (osm g2 hbj)
  ·rw [mOld h1] at hbi
   rw [mNew] at hbj
   have := (hp.obj i oi h2).blk_lt (osm h2 hbi)
   have := newB g2 (blkR hbj)
   omega
  ·rw [mNew] at hbi
   rw [mOld g1] at hbj
   have := (hp.obj j oj g2).blk_lt (osm g2 hbj)
   have := newB h2 (blkR hbi)
   omega
  ·rw [mNew] at hbi hbj
   have := h.hp.inj j1 j2 o1 o2 b h2 g2 (blkR hbi) (blkR hbj)
   rw [this]
 ·rcases lv hl with ⟨h1, h2⟩ | ⟨j, o0, rfl, h2, rfl⟩
  ·rw [mOld h1] at hbb
   exact hp.out i o b h2 (osm h2 hbb) hS
  ·rw [mNew] at hbb
   have := newB h2 (blkR hbb)
   have := hp.sub b hS
   omega
 ·obtain ⟨i, o, hl, hbb⟩ := ho
  rcases lv hl with ⟨h1, h2⟩ | ⟨j, o0, rfl, h2, rfl⟩
  ·rw [mOld h1] at hbb
   exact .inl ⟨i, o, h2, osm h2 hbb⟩
  ·rw [mNew] at hbb
   exact .inr (newB h2 (blkR hbb))
def Fresh (S : Nat -> Prop) (w w' : World) (b : Nat) : Prop := S b \/ (w.heap.size <= b /\ b < w'.heap.size /\ isC w' b)
theorem Fr1.rd {mc : Nat -> Value} {Sc : Nat -> Prop} {H' : AH} {m' : Nat -> Value} {S' : Nat -> Prop} {w' : World} (h : Stp P [] mc Sc w H' m' S' w') {r : AV} {x : PV} {v : Value} (hf : Fr1 H' r x) (hr : Rd P H' m' S' w' r v) : RdP (Fresh S w w') w' x v := by
 have hno : ∀ {w : World} b, ¬ Abs.own ([] : AH) mc w b := by rintro w b ⟨i, o, hl, _⟩; simp [Abs.live] at hl
 cases hf with
 | p _ hx => cases hr with | p _ _ hr => exact hr.flat hx
 | buf j e nl xs hl hx =>
  have hv := hr.bufAt hl
  subst hv
  have hok := h.hp.obj j _ hl
  have h2 : OK P H' m' S w' (m' j) (.buf e nl xs) := hok.flat hx
  refine RdP.of_own h2 (fun b hb => .inl hb) fun b hb => .inr ⟨?_, hok.blk_lt (.inl hb), hok.isC (.inl hb) rfl⟩
  rcases h.own b ⟨j, _, hl, .inl hb⟩ with h3 | h3
  ·exact absurd h3 (hno b)
  ·exact h3
theorem FrL.rd {mc : Nat -> Value} {Sc : Nat -> Prop} {H' : AH} {m' : Nat -> Value} {S' : Nat -> Prop} {w' : World} (h : Stp P [] mc Sc w H' m' S' w') : ∀ {l : List AV} {xs : List PV}, FrL H' l xs ->
  l.length = xs.length /\ ∀ (k : Nat) (x : PV), xs[k]? = some x -> ∃ r, l[k]? = some r /\ Fr1 H' r x
 | _, _, .nil => ⟨rfl, by simp⟩
 | _, _, .cons h1 hs => by
  obtain ⟨h2, h3⟩ := FrL.rd h hs
  refine ⟨by simp [h2], fun k x hk => ?_⟩
  cases k with
  | zero => simp at hk; subst hk; exact ⟨_, rfl, h1⟩
  | succ k => simpa using h3 k x (by simpa using hk)
theorem FrV.rd {mc : Nat -> Value} {Sc : Nat -> Prop} {H' : AH} {m' : Nat -> Value} {S' : Nat -> Prop} {w' : World} (h : Stp P [] mc Sc w H' m' S' w') {r x : AV} {v : Value} (hf : FrV H' r x) (hr : Rd P H' m' S' w' r v) : Rd P H m (Fresh S w w') w' x v := by
 cases hf with
 | one h1 => exact .p _ _ (h1.rd h hr)
 | tup h1 =>
  obtain ⟨h2, h3⟩ := FrL.rd h h1
  cases hr with
  | tup _ vs hl hrr =>
   refine .tup _ vs (by rw [hl, List.length_map, h2]) fun k c hk => ?_
   rw [List.getElem?_map, Option.map_eq_some_iff] at hk
   obtain ⟨y, hy, rfl⟩ := hk
   obtain ⟨r, h4, h5⟩ := h3 k y hy
   exact .p _ _ (h5.rd h (hrr k r h4))
theorem Stp.fresh (hp : Hp P H m S w) {mc : Nat -> Value} {Sc : Nat -> Prop} {H' : AH} {m' : Nat -> Value} {S' : Nat -> Prop} {w' : World} (h : Stp P [] mc Sc w H' m' S' w') : Stp P H m S w H m (Fresh S w w') w' := by
 have hno : ∀ {w : World} b, ¬ Abs.own ([] : AH) mc w b := by rintro w b ⟨i, o, hl, _⟩; simp [Abs.live] at hl
 have hblk : ∀ b, b < w.heap.size -> w'.heap[b]? = w.heap[b]? := fun b hb => h.blk b hb (hno b)
 have hk : Keeps S w w' := fun b hb => hblk b (hp.sub b hb)
 have osm : ∀ {i : Nat} {o : AO}, live H i o -> ∀ {b}, Own w' (m i) o b -> Own w (m i) o b := fun hl _ hb => (Own.same (hp.obj _ _ hl) fun b hb => hblk b ((hp.obj _ _ hl).blk_lt hb)).1 hb
 refine ⟨Older.refl _ _, ⟨fun j o hl => OK.mono hk (fun _ h => .inl h) (Older.refl _ _) (hp.obj j o hl) fun b hb => hblk b ((hp.obj j o hl).blk_lt hb), fun i j oi oj b hi hj hbi hbj => hp.inj i j oi oj b hi hj (osm hi hbi) (osm hj hbj), fun b hb => ?_, fun j o b hl hb hS => ?_, hp.glb.mono hk fun _ h => .inl h⟩,
  hk, fun _ h => .inl h, h.os, h.tape, h.output, h.size, fun b hb _ => hblk b hb, fun b hb => ?_, fun b ⟨i, o, hl, hb⟩ => .inl ⟨i, o, hl, osm hl hb⟩, fun b hb => hb.imp id fun h => h.2.2⟩
 ·rcases hb with hb | hb
  ·exact Nat.lt_of_lt_of_le (hp.sub b hb) h.size
  ·exact hb.2.1
 ·rcases hS with hS | hS
  ·exact hp.out j o b hl (osm hl hb) hS
  ·have := (hp.obj j o hl).blk_lt (osm hl hb)
   omega
 ·rcases hb with hb | hb
  ·exact .inl hb
  ·exact .inr (.inr hb.1)
theorem CallA.acall {f : FuncId} {args : List AV} {K : AV -> AH -> Prop} (h : CallA P f args H K) : (∃ v, ExtA P f args v /\ K v H) \/ ACall P f args H K := by
 by_cases hx : ∃ v, ExtA P f args v /\ K v H
 ·exact .inl hx
 have hen : ∃ fn, P.funcs[f]? = some fn /\ fn.body.isSome = true /\ (fn.name == "runtime.NumGoroutine") = false := by
  cases h with
  | all h => exact h.enter
  | loc _ _ _ _ h => exact h.enter
  | fresh _ h => exact h.enter
  | lend h => exact h.enter
  | ext v h hk => exact (hx ⟨v, h, hk⟩).elim
 refine .inr ⟨hen, fun m S w vals hp hl hr => ?_⟩
 cases h with
 | ext v h hk => exact (hx ⟨v, h, hk⟩).elim
 | all h => exact h.calls m S w vals hp hl hr
 | loc ids fz h1 h2 h =>
  obtain ⟨S1, hst⟩ := Stp.frzAll (P := P) (m := m) (w := w) fz H S hp
  have hlp : Hp P (locH (frzAll H fz) ids) (fun j => m (ids.getD j 0)) S1 w := by
   have hg : ∀ {j i : Nat}, ids[j]? = some i -> ids.getD j 0 = i := fun h => by simp [List.getD, h]
   have hblk : ∀ {j : Nat} {o : AO} {b : Nat}, live (locH (frzAll H fz) ids) j o -> Own w (m (ids.getD j 0)) o b -> ∃ i o0, ids[j]? = some i /\ live (frzAll H fz) i o0 /\ Own w (m i) o0 b := by
    intro j o b hlv hb
    obtain ⟨i, o0, h3, h4, rfl⟩ := locH_live hlv
    rw [hg h3] at hb
    exact ⟨i, o0, h3, h4, own_loc.1 hb⟩
   refine ⟨fun j o hlv => ?_, fun i j oi oj b hi hj hbi hbj => ?_, hst.hp.sub, fun j o b hlv hb => ?_, hst.hp.glb⟩
   ·obtain ⟨i, o0, h3, h4, rfl⟩ := locH_live hlv
    rw [hg h3]
    have h5 := hst.hp.obj i o0 h4
    cases o0 with
    | cells cs =>
     obtain ⟨b, T, vs, g1, g2, g3, g4⟩ := h5
     refine ⟨b, T, vs, g1, g2, by rw [toLocL_length]; exact g3, fun k c hk => ?_⟩
     rw [toLocL_at, Option.map_eq_some_iff] at hk
     obtain ⟨d, hd, rfl⟩ := hk
     exact ⟨toLoc_sound hst.hp (fun _ h => h) (fun h => by cases h) (g4 k d hd).1, (g4 k d hd).2⟩
    | buf e nl xs => exact h5
    | frz nl xs => exact h5
    | map ks => exact h5
    | arr xs => exact h5
    | bufL e xs l =>
     obtain ⟨i', us, g1, g2, g3, g4, g5, g6, g7⟩ := h5
     refine ⟨i', us, g1, g2, g3, g4, by rw [toLocL_length]; exact g5, g6, fun k c hk => ?_⟩
     rw [toLocL_at, Option.map_eq_some_iff] at hk
     obtain ⟨d, hd, rfl⟩ := hk
     obtain ⟨u, hu, h2, h3⟩ := g7 k d hd
     exact ⟨u, hu, toLoc_sound hst.hp (fun _ h => h) (fun h => by cases h) h2, h3⟩
    | rws e nl sz q e2 xs h0 l gn =>
     obtain ⟨i', i2, us, g1, g2, g3, g4, g5, g6, g7, g8, g9, g10, g11⟩ := h5
     refine ⟨i', i2, us, g1, g2, g3, g4, g5, g6, g7, g8, g9, fun p hp0 => ?_, g11⟩
     obtain ⟨k1, k2, k3⟩ := g10 p hp0
     refine ⟨k1, by rw [toLocL_length]; exact k2, fun k c hk => ?_⟩
     rw [toLocL_at, Option.map_eq_some_iff] at hk
     obtain ⟨d, hd, rfl⟩ := hk
     obtain ⟨u, hu, h2, h3⟩ := k3 k d hd
     exact ⟨u, hu, toLoc_sound hst.hp (fun _ h => h) (fun h => by cases h) h2, h3⟩
   ·obtain ⟨i1, o1, g1, g2, g3⟩ := hblk hi hbi
    obtain ⟨i2, o2, k1, k2, k3⟩ := hblk hj hbj
    have := hst.hp.inj i1 i2 o1 o2 b g2 k2 g3 k3
    subst this
    exact nodupB_spec h1 g1 k1
   ·obtain ⟨i1, o1, g1, g2, g3⟩ := hblk hlv hb
    exact hst.hp.out i1 o1 b g2 g3
  refine (h.calls _ S1 w vals hlp (by rw [hl, toLocL_length]) fun j x hj => ?_).mono fun e w' ⟨v, r, H', m', S', he, hK, hs', hrd⟩ => ?_
  ·rw [toLocL_at, Option.map_eq_some_iff] at hj
   obtain ⟨y, hy, rfl⟩ := hj
   exact toLoc_sound hst.hp (fun _ h => h) (fun h => by cases h) ((hr j y hy).mono hst.keeps hst.sub hst.old)
  ·obtain ⟨m'', g1, g2⟩ := Stp.back hst.hp h1 h2 hs'
   exact ⟨v, _, _, m'', S', he, hK, hst.trans g1, g2 hrd⟩
 | fresh R h hk =>
  have hlp : Hp P [] (fun j => m (([] : List Nat).getD j 0)) (fun b => b < w.heap.size) w := by
   refine ⟨fun j o hlv => ?_, fun i j oi oj b hi => ?_, fun b hb => hb, fun j o b hlv => ?_, hp.glb.mono (fun _ _ => rfl) hp.sub⟩
   ·simp [live] at hlv
   ·simp [live] at hi
   ·simp [live] at hlv
  refine (h.calls _ _ w vals hlp (by rw [hl, toLocL_length]) fun j x hj => ?_).mono fun e w' ⟨v, r, H', m', S', he, ⟨x, hx, hR⟩, hs', hrd⟩ => ?_
  ·rw [toLocL_at, Option.map_eq_some_iff] at hj
   obtain ⟨y, hy, rfl⟩ := hj
   exact toLoc_sound (ids := []) hp (fun b hb => hp.sub b hb) (fun _ id o b hlv hb => (hp.obj id o hlv).blk_lt hb) (hr j y hy)
  ·exact ⟨v, x, H, m, _, he, hk x hR, Stp.fresh hp hs', hx.rd hs' hrd⟩
 | lend h =>
  have hlp : Hp P [] (fun j => m (([] : List Nat).getD j 0)) (fun b => b < w.heap.size) w := by
   refine ⟨fun j o hlv => ?_, fun i j oi oj b hi => ?_, fun b hb => hb, fun j o b hlv => ?_, hp.glb.mono (fun _ _ => rfl) hp.sub⟩
   ·simp [live] at hlv
   ·simp [live] at hi
   ·simp [live] at hlv
  refine (h.calls _ _ w vals hlp (by rw [hl, toLocL_length]) fun j x hj => ?_).mono fun e w' ⟨v, r, H', m', S', he, ⟨hrf, hHf, hK⟩, hs', hrd⟩ => ?_
  ·rw [toLocL_at, Option.map_eq_some_iff] at hj
   obtain ⟨y, hy, rfl⟩ := hj
   exact toLoc_sound (ids := []) hp (fun b hb => hp.sub b hb) (fun _ id o b hlv hb => (hp.obj id o hlv).blk_lt hb) (hr j y hy)
  ·obtain ⟨m'', g1, g2⟩ := Stp.lent hp hs' hHf
   exact ⟨v, _, _, m'', S, he, hK, g1, g2 hrf hrd⟩
end
end Go.Abs
namespace Go.Abs
open Go.RowKit
inductive OpK where
 | quiet
 | eff
 | call
def kindOp : Op -> OpK
 | .alloc _ => .eff
 | .box _ _ => .eff
 | .makeSlice _ _ _ => .eff
 | .buildSlice _ _ _ => .eff
 | .store _ _ _ => .eff
 | .lookup _ _ _ _ => .eff
 | .makeMap _ _ => .eff
 | .mapUpdate _ _ _ _ => .eff
 | .insert _ _ _ _ => .eff
 | .convert _ _ _ => .eff
 | .slice _ _ _ _ _ => .eff
 | .call c => match c.callee with
  | .builtin .append => .eff
  | .builtin .copy => .eff
  | .builtin .clear => .eff
  | .value _ => .call
  | _ => .quiet
 | _ => .quiet
def frc (v : AV) (k : AV -> Prop) : Prop := match v with
 | .p x => k (.p x)
 | .ptr id off => k (.ptr id off)
 | .lptr id off => k (.lptr id off)
 | .wptr id ix off => k (.wptr id ix off)
 | .opq => k .opq
 | .buf id => k (.buf id)
 | .sub id lo hi => k (.sub id lo hi)
 | .bptr id ix off => k (.bptr id ix off)
 | .rptr cs => k (.rptr cs)
 | .agg cs => k (.agg cs)
 | .tup xs => k (.tup xs)
 | .clo fn caps => k (.clo fn caps)
 | .mp id => k (.mp id)
 | .cap nl xs => k (.cap nl xs)
 | .dead => k .dead
theorem frc_eq (v : AV) (k : AV -> Prop) : frc v k = k v := by cases v <;> rfl
def frcL : List AV -> (List AV -> Prop) -> Prop
 | [], k => k []
 | x :: r, k => frc x fun x => frcL r fun r => k (x :: r)
theorem frcL_eq : ∀ (l : List AV) (k : List AV -> Prop), frcL l k = k l
 | [], _ => rfl
 | x :: r, k => by simp only [frcL, frc_eq, frcL_eq r]
def frcO (o : Option AO) (k : Option AO -> Prop) : Prop := match o with
 | none => k none
 | some (.cells cs) => frcL cs fun cs => k (some (.cells cs))
 | some (.buf e nl xs) => k (some (.buf e nl xs))
 | some (.frz nl xs) => k (some (.frz nl xs))
 | some (.map ks) => k (some (.map ks))
 | some (.arr xs) => k (some (.arr xs))
 | some (.bufL e xs l) => frcL l fun l => k (some (.bufL e xs l))
 | some (.rws e nl sz q e2 xs h l g) => frcL l fun l => k (some (.rws e nl sz q e2 xs h l g))
theorem frcO_eq (o : Option AO) (k : Option AO -> Prop) : frcO o k = k o := by
 rcases o with _ | o
 ·rfl
 ·cases o with
  | cells cs => exact frcL_eq cs _
  | buf => rfl
  | frz => rfl
  | map => rfl
  | arr => rfl
  | bufL e xs l => exact frcL_eq l _
  | rws e nl sz q e2 xs h l g => exact frcL_eq l _
def frcH : AH -> (AH -> Prop) -> Prop
 | [], k => k []
 | o :: r, k => frcO o fun o => frcH r fun r => k (o :: r)
theorem frcH_eq : ∀ (H : AH) (k : AH -> Prop), frcH H k = k H
 | [], _ => rfl
 | o :: r, k => by simp only [frcH, frcO_eq, frcH_eq r]
def evArgs (σ : AS) : List Operand -> (List AV -> Prop) -> Prop
 | [], k => k []
 | x :: r, k => frc (σ.ev x) fun v => evArgs σ r fun l => k (v :: l)
theorem evArgs_eq (σ : AS) : ∀ (l : List Operand) (k : List AV -> Prop), evArgs σ l k = k (l.map σ.ev)
 | [], k => rfl
 | x :: r, k => by simp only [evArgs, frc_eq, evArgs_eq σ r, List.map_cons]
def wpCall (P : Program) (σ : AS) (H : AH) (op : Op) (k : AV -> AH -> Prop) : Prop := match op with
 | .call c => match c.callee with
  | .value f => match σ.ev f with
   | .clo (.func g) caps => evArgs σ c.args.toList fun l => CallA P g (l ++ caps) H k
   | _ => False
  | _ => False
 | _ => False
def wpOp (P : Program) (ti : TypeId -> Option TI) (fr : Nat -> AV) (H : AH) (op : Op) (k : AV -> AH -> Prop) : Prop := match kindOp op with
 | .quiet => wpQ ti ⟨fr, H⟩ op fun av => k av H
 | .eff => wpE ti ⟨fr, H⟩ H op k
 | .call => wpCall P ⟨fr, H⟩ H op k
def setFr (fr : Nat -> AV) (d : Nat) (v : AV) : Nat -> AV := fun s => match Nat.beq s d with
 | true => v
 | false => fr s
def wpPut (nt : Nat) (dst : Option Tmp) (fr : Nat -> AV) (h : AH) (v : AV) (k : AS -> Prop) : Prop := match dst with
 | none => frcH h fun h => k ⟨fr, h⟩
 | some d => match Nat.blt d nt with
  | true => frc v fun v => frcH h fun h => k ⟨setFr fr d v, h⟩
  | false => False
def wpGuard (ops : List Oper) (g : Option (Nat × Bool)) (fr : Nat -> AV) (yes no : (Nat -> AV) -> Prop) : Prop := match g with
 | none => yes fr
 | some (j, want) => match ops[j]? with
  | some oj => match oj.dst with
   | some d => match fr d with
    | .p (.v (.bool b)) => match want with
     | true => br b (yes (setFr fr d (.p (.v (.bool true))))) (no (setFr fr d (.p (.v (.bool false)))))
     | false => br b (no (setFr fr d (.p (.v (.bool true))))) (yes (setFr fr d (.p (.v (.bool false)))))
    | .tup [] => no fr
    | _ => False
   | none => False
  | none => False
def wpOps (P : Program) (ti : TypeId -> Option TI) (nt : Nat) (ops : List Oper) : List Oper -> (AS -> Prop) -> AS -> Prop
 | [], K, σ => K σ
 | o :: rest, K, ⟨fr, H⟩ => wpGuard ops o.guard fr
   (fun fr => wpOp P ti fr H o.op fun v H' => wpPut nt o.dst fr H' v (wpOps P ti nt ops rest K))
   (fun fr => wpPut nt o.dst fr H (.tup []) (wpOps P ti nt ops rest K))
def markD (b : Nat) : Deferred := { target := .collected b, args := #[] }
def Marks (w0 w : World) (bs : List Nat) : Prop := bs.Nodup /\ ∀ b ∈ bs, w0.heap.size <= b /\ w.heap[b]? = some (.deferred (some []))
theorem Marks.stp {P : Program} {H H' : AH} {m m' : Nat -> Value} {S S' : Nat -> Prop} {w0 w w' : World} {bs : List Nat} (hp : Hp P H m S w) (h : Stp P H m S w H' m' S' w') (hm : Marks w0 w bs) : Marks w0 w' bs := by
 refine ⟨hm.1, fun b hb => ?_⟩
 obtain ⟨h1, h2⟩ := hm.2 b hb
 refine ⟨h1, (h.blk b (Array.getElem?_eq_some_iff.1 h2).1 fun ho => ?_).trans h2⟩
 obtain ⟨o, h3, h4⟩ := own_isS hp ho
 rw [h2] at h3
 cases h3
 cases h4
theorem nd_stp {P : Program} {H H' : AH} {m m' : Nat -> Value} {S S' : Nat -> Prop} {w0 w w' : World} {D ds : List Deferred} (hp : Hp P H m S w) (h : Stp P H m S w H' m' S' w') (hm : ∃ bs, ds = bs.map markD ++ D /\ Marks w0 w bs) : ∃ bs, ds = bs.map markD ++ D /\ Marks w0 w' bs :=
 let ⟨ms, h1, h2⟩ := hm
 ⟨ms, h1, h2.stp hp h⟩
theorem no_marks {w0 w : World} {D : List Deferred} : ∃ bs, D = bs.map markD ++ D /\ Marks w0 w bs := ⟨[], rfl, List.nodup_nil, fun b hb => by cases hb⟩
theorem nd_trans {P : Program} {H H' : AH} {m m' : Nat -> Value} {S S' : Nat -> Prop} {w0 w w' : World} {D ds ds' : List Deferred} (hp : Hp P H m S w) (h : Stp P H m S w H' m' S' w') (hz : w0.heap.size <= w.heap.size)
  (h1 : ∃ bs, ds = bs.map markD ++ D /\ Marks w0 w bs) (h2 : ∃ bs, ds' = bs.map markD ++ ds /\ Marks w w' bs) : ∃ bs, ds' = bs.map markD ++ D /\ Marks w0 w' bs := by
 obtain ⟨bs, rfl, hm⟩ := h1
 obtain ⟨cs, rfl, hn⟩ := h2
 refine ⟨cs ++ bs, by simp, List.nodup_append.2 ⟨hn.1, hm.1, fun a ha b hb he => ?_⟩, fun b hb => ?_⟩
 ·subst he
  have h3 := (hn.2 a ha).1
  have h4 := (Array.getElem?_eq_some_iff.1 (hm.2 a hb).2).1
  omega
 ·rcases List.mem_append.1 hb with hb | hb
  ·exact ⟨Nat.le_trans hz (hn.2 b hb).1, (hn.2 b hb).2⟩
  ·exact (hm.stp hp h).2 b hb
structure Cn (P : Program) (nt : Nat) (D : List Deferred) (H0 : AH) (m0 : Nat -> Value) (S0 : Nat -> Prop) (w0 : World) (σ : AS) (m : Nat -> Value) (S : Nat -> Prop) (a : Act) (w : World) : Prop where
 stp : Stp P H0 m0 S0 w0 σ.h m S w
 fr : ∀ t, Rd P σ.h m S w (σ.fr t) (a.tmps.getD t undef)
 sz : a.tmps.size = nt
 nd : ∃ bs, a.defers = bs.map markD ++ D /\ Marks w0 w bs
section
variable {P : Program} {ti : TypeId -> Option TI} {nt : Nat} {D : List Deferred} {H0 : AH} {m0 : Nat -> Value} {S0 : Nat -> Prop} {w0 : World} {m : Nat -> Value} {S : Nat -> Prop} {w : World} {σ : AS} {a : Act}
theorem wpOp_sound (hT : TabOK P ti) (hc : Cn P nt D H0 m0 S0 w0 σ m S a w) {o : Oper} {k : AV -> AH -> Prop} {next : Act -> World -> Prop} {Q : Exit -> Act -> World -> Prop} (h : wpOp P ti σ.fr σ.h o.op k)
  (hn : ∀ av H' m' S' v w', k av H' -> Stp P σ.h m S w H' m' S' w' -> Rd P H' m' S' w' av v -> next (a.put o.dst v) w') : o.wp P a w next Q := by
 unfold wpOp at h
 unfold Oper.wp
 split at h
 ·obtain ⟨av, v, h1, h2, h3⟩ := wpQ_sound hT hc.stp.hp hc.fr h
  rw [h3 w (Ag.refl w), Oper.upon_value]
  exact hn _ _ _ _ _ _ h1 (Stp.refl hc.stp.hp) h2
 ·obtain ⟨av, H', m', S', v, w', h1, h2, h3, h4⟩ := wpE_sound hT hc.stp.hp hc.fr h
  rcases h2 with h2 | ⟨h2, rfl⟩
  ·rw [h2, Oper.upon_value]
   exact hn _ _ _ _ _ _ h1 h3 h4
  ·rw [h2, Oper.upon_skip]
   exact hn _ _ _ _ _ _ h1 h3 h4
 ·generalize ho : o.op = op at h
  unfold wpCall at h
  split at h
  ·rename_i c
   obtain ⟨callee, args, ats⟩ := c
   simp only at h
   split at h
   ·rename_i f
    split at h
    ·rename_i g caps hf
     rw [evArgs_eq] at h
     have hE := ev_sound (P := P) hc.stp.hp.glb hc.fr f
     rw [hf] at hE
     generalize hv : a.eval f = fv at hE
     cases hE with
     | clo _ _ vs hl hr =>
      have hargs : ∀ (j : Nat) (x : AV), (args.toList.map σ.ev ++ caps)[j]? = some x -> Rd P σ.h m S w x ((args.map a.eval ++ vs).getD j undef) := fun j x hj => by
       by_cases hlt : j < args.size
       ·rw [List.getElem?_append_left (by simpa using hlt)] at hj
        have := list_ev (P := P) hc.stp.hp.glb hc.fr args.toList j x hj
        have e : (args.map a.eval ++ vs).getD j undef = (args.toList.map a.eval).getD j undef := by
         simp [Array.getD_eq_getD_getElem?, Array.getElem?_append_left, hlt]
        rw [e]
        exact this
       ·rw [List.getElem?_append_right (by simpa using hlt)] at hj
        have := hr _ x hj
        have e : (args.map a.eval ++ vs).getD j undef = vs.getD (j - (args.toList.map σ.ev).length) undef := by
         simp only [Array.getD_eq_getD_getElem?]
         rw [Array.getElem?_append_right (by simp; omega)]
         simp
        rw [e]
        exact this
      rcases h.acall with ⟨v, hx, hk⟩ | h
      ·obtain ⟨u, hu, hrd⟩ := hx.run σ.h m S w (args.map a.eval ++ vs) hc.stp.hp (by simp [hl]) hargs
       have hrun : (execOp a.eval o).run P w = .ok (.value u) w := by
        simp only [execOp, ho, resolve, hv, Deferred.ofValue]
        simp only [Sem.run_bind, Sem.run_pure, Result.andThen_ok, invoke]
        simpa using hu
       rw [hrun, Oper.upon_value]
       exact hn _ _ _ _ _ _ hk (Stp.refl hc.stp.hp) hrd
      obtain ⟨fn, hfn, hbody, hname⟩ := h.enter
      have hbn : fn.body.isNone = false := by cases hb : fn.body with
       | none => rw [hb] at hbody; cases hbody
       | some c => rfl
      have hrun : (execOp a.eval o).run P w = .ok (.enter g (args.map a.eval ++ vs)) w := by
       simp only [execOp, ho, resolve, hv, Deferred.ofValue]
       simp only [Sem.run_bind, Sem.run_pure, Result.andThen_ok, invoke, callFunc, run_program, hfn, hname, hbn, Bool.false_eq_true, if_false]
       simp
      rw [hrun, Oper.upon_enter]
      refine (h.calls m S w (args.map a.eval ++ vs) hc.stp.hp (by simp [hl]) hargs).mono fun e w' ⟨v, r, H', m', S', he, hK, hs, hrd⟩ => ?_
      subst he
      exact hn _ _ _ _ _ _ hK hs hrd
    ·cases h
   ·cases h
  ·cases h
theorem put_fr {H' : AH} {m' : Nat -> Value} {S' : Nat -> Prop} {w' : World} {fr : Nat -> AV} (hf : ∀ t, Rd P H' m' S' w' (fr t) (a.tmps.getD t undef)) (hs : a.tmps.size = nt) {d : Nat} (hd : d < nt) {av : AV} {v : Value} (hv : Rd P H' m' S' w' av v) :
  ∀ t, Rd P H' m' S' w' (setFr fr d av t) ((a.put (some d) v).tmps.getD t undef) := by
 intro t
 unfold setFr
 split
 ·rename_i hb
  obtain rfl := Nat.eq_of_beq_eq_true hb
  have : (a.put (some t) v).tmps.getD t undef = v := by simp [Act.put, Array.getD_eq_getD_getElem?, hs, hd]
  rw [this]
  exact hv
 ·rename_i hb
  have hne : d ≠ t := fun e => by subst e; simp at hb
  have : (a.put (some d) v).tmps.getD t undef = a.tmps.getD t undef := by simp [Act.put, Array.getD_eq_getD_getElem?, hne]
  rw [this]
  exact hf t
theorem wpPut_sound {dst : Option Tmp} {h : AH} {v : AV} {k : AS -> Prop} {vv : Value} {m' : Nat -> Value} {S' : Nat -> Prop} {w' : World} (hc : Cn P nt D H0 m0 S0 w0 σ m S a w) (hs : Stp P σ.h m S w h m' S' w') (hv : Rd P h m' S' w' v vv) (hk : wpPut nt dst σ.fr h v k) :
  ∃ σ', k σ' /\ Cn P nt D H0 m0 S0 w0 σ' m' S' (a.put dst vv) w' := by
 have hf : ∀ t, Rd P h m' S' w' (σ.fr t) (a.tmps.getD t undef) := fun t => (hc.fr t).mono hs.keeps hs.sub hs.old
 unfold wpPut at hk
 split at hk
 ·rw [frcH_eq] at hk
  exact ⟨_, hk, hc.stp.trans hs, hf, hc.sz, nd_stp hc.stp.hp hs hc.nd⟩
 ·rename_i d
  split at hk
  ·rename_i hb
   rw [frc_eq, frcH_eq] at hk
   exact ⟨_, hk, hc.stp.trans hs, put_fr hf hc.sz (lt_of_blt hb) hv, by simp [Act.put, hc.sz], nd_stp hc.stp.hp hs hc.nd⟩
  ·cases hk
theorem Cn.setBool (hc : Cn P nt D H0 m0 S0 w0 σ m S a w) {d : Nat} {b : Bool} (hd : σ.fr d = .p (.v (.bool b))) : Cn P nt D H0 m0 S0 w0 ⟨setFr σ.fr d (.p (.v (.bool b))), σ.h⟩ m S a w := by
 refine ⟨hc.stp, fun t => ?_, hc.sz, hc.nd⟩
 show Rd P σ.h m S w (setFr σ.fr d (.p (.v (.bool b))) t) _
 unfold setFr
 split
 ·rename_i hb
  obtain rfl := Nat.eq_of_beq_eq_true hb
  rw [<- hd]
  exact hc.fr t
 ·exact hc.fr t
theorem rd_undef {H : AH} : Rd P H m S w (.tup []) undef := .tup [] #[] rfl (by simp)
theorem rd_tup0 {H : AH} {v : Value} (h : Rd P H m S w (.tup []) v) : v = undef := by
 cases h with
 | tup _ vs hl => rw [Array.eq_empty_of_size_eq_zero hl]; rfl
theorem wpGuard_sound (hc : Cn P nt D H0 m0 S0 w0 σ m S a w) {ops : List Oper} {o : Oper} {yes no : (Nat -> AV) -> Prop} (h : wpGuard ops o.guard σ.fr yes no) :
  (Region.wanted o (yielded ops.toArray a.tmps) = true /\ ∃ fr', yes fr' /\ Cn P nt D H0 m0 S0 w0 ⟨fr', σ.h⟩ m S a w) \/ (Region.wanted o (yielded ops.toArray a.tmps) = false /\ ∃ fr', no fr' /\ Cn P nt D H0 m0 S0 w0 ⟨fr', σ.h⟩ m S a w) := by
 unfold wpGuard at h
 split at h
 ·rename_i hg
  exact .inl ⟨by simp [Region.wanted, hg], σ.fr, h, hc⟩
 ·rename_i j want hg
  split at h
  ·rename_i oj hj
   split at h
   ·rename_i d hd
    split at h
    ·rename_i b hb
     have h1 := hc.fr d
     rw [hb] at h1
     have hv := h1.pv.1
     have hy : yielded ops.toArray a.tmps j = some b := by
      have hlt : d < a.tmps.size := by
       rcases Nat.lt_or_ge d a.tmps.size with h | h
       ·exact h
       ·rw [show a.tmps.getD d undef = undef by simp [Array.getD_eq_getD_getElem?, Array.getElem?_eq_none h]] at hv
        cases hv
      have hsome : a.tmps[d]? = some (.bool b) := by
       rw [Array.getD_eq_getD_getElem?, Array.getElem?_eq_getElem hlt] at hv
       rw [Array.getElem?_eq_getElem hlt]
       simpa using hv
      simp [yielded, hj, hd, hsome]
     split at h
     ·cases b
      ·exact .inr ⟨by simp [Region.wanted, hg, hy], _, h, hc.setBool hb⟩
      ·exact .inl ⟨by simp [Region.wanted, hg, hy], _, h, hc.setBool hb⟩
     ·cases b
      ·exact .inl ⟨by simp [Region.wanted, hg, hy], _, h, hc.setBool hb⟩
      ·exact .inr ⟨by simp [Region.wanted, hg, hy], _, h, hc.setBool hb⟩
    ·rename_i hb
     have h1 := hc.fr d
     rw [hb] at h1
     have hv := rd_tup0 h1
     have hy : yielded ops.toArray a.tmps j = none := by
      have hsome : a.tmps[d]? = none \/ a.tmps[d]? = some undef := by
       rw [Array.getD_eq_getD_getElem?] at hv
       cases ht : a.tmps[d]? with
       | none => exact .inl rfl
       | some u => rw [ht] at hv; exact .inr (congrArg some hv)
      rcases hsome with hs | hs <;> simp [yielded, hj, hd, hs, undef]
     exact .inr ⟨by simp [Region.wanted, hg, hy], _, h, hc⟩
    ·cases h
   ·cases h
  ·cases h
theorem wpOps_sound (hT : TabOK P ti) {ops : List Oper} {Q : Exit -> Act -> World -> Prop} : ∀ (l : List Oper) (K : AS -> Prop) (σ : AS) (m : Nat -> Value) (S : Nat -> Prop) (a : Act) (w : World), Cn P nt D H0 m0 S0 w0 σ m S a w -> wpOps P ti nt ops l K σ ->
  (∀ σ' m' S' a' w', Cn P nt D H0 m0 S0 w0 σ' m' S' a' w' -> K σ' -> Q .normal a' w') -> wpList P ops.toArray Q l a w
 | [], K, σ, m, S, a, w, hc, h, hK => wpList_nil (hK _ _ _ _ _ hc h)
 | o :: l, K, ⟨fr, H⟩, m, S, a, w, hc, h, hK => by
  refine wpList_step fun K' hK' => ?_
  unfold wpOps at h
  rcases wpGuard_sound hc h with ⟨hw, σ', hy, hc'⟩ | ⟨hw, σ', hno, hc'⟩
  ·rw [if_pos hw]
   refine wpOp_sound hT hc' hy fun av H' m' S' v w' hk hs hrd => hK' _ _ ?_
   obtain ⟨σ2, h2, hc2⟩ := wpPut_sound hc' hs hrd hk
   exact wpOps_sound hT l K σ2 m' S' _ w' hc2 h2 hK
  ·rw [if_neg (by rw [hw]; simp)]
   refine hK' _ _ ?_
   obtain ⟨σ2, h2, hc2⟩ := wpPut_sound (vv := undef) hc' (Stp.refl hc'.stp.hp) rd_undef hno
   exact wpOps_sound hT l K σ2 m S _ w hc2 h2 hK
end
end Go.Abs
