/- Whatever the list of numbers, TopSupplies returns true, and its argument reads as it did; its package variables are tied to the program's text. Part 2 of 9. -/
import Derived.Test.YtaocnijlcgohnaaGreatDoorM1
import Derived.Laws.CopyRow
import Derived.ArgAppend
import Derived.Laws.BytesString
import Derived.Lib.AppendZeros
import Derived.Lib.AppendStr
set_option linter.unusedVariables false
set_option linter.unusedSimpArgs false
namespace Go.Abs
open Go.RowKit
def isC (w : World) (b : Nat) : Prop := ∃ vs T f, w.heap[b]? = some (.cells vs T f)
def zk : Obj -> Bool
 | .cells _ _ _ => true
 | .map _ _ => true
 | _ => false
def isS (w : World) (b : Nat) : Prop := ∃ o, w.heap[b]? = some o /\ zk o = true
def AO.isMap : AO -> Bool
 | .map _ => true
 | _ => false
def bJ (H : AH) : Bool := H.all fun o => match o with
 | some (.map _) => false
 | _ => true
theorem qg {H : AH} (h : bJ H = true) {i : Nat} {o : AO} (hl : live H i o) : o.isMap = false := by
 have h1 := List.all_eq_true.1 h (some o) (List.mem_of_getElem? hl)
 cases o with
 | map ks => cases h1
 | _ => rfl
def own (H : AH) (m : Nat -> Value) (b : Nat) : Prop := ∃ i o, live H i o /\ blk (m i) o = some b
structure Stp (P : Program) (H : AH) (m : Nat -> Value) (S : Nat -> Prop) (w : World) (H' : AH) (m' : Nat -> Value) (S' : Nat -> Prop) (w' : World) : Prop where
 old : aW H H' m m'
 hp : Hp P H' m' S' w'
 keeps : b8 S w w'
 sub : ∀ b, S b -> S' b
 os : w'.os = w.os
 tape : w'.tape = w.tape
 output : w'.output = w.output
 size : w.heap.size <= w'.heap.size
 blk : ∀ b, b < w.heap.size -> ¬ own H m b -> w'.heap[b]? = w.heap[b]?
 wX : ∀ b, S' b -> S b \/ own H m b \/ w.heap.size <= b
 own : ∀ b, own H' m' b -> own H m b \/ w.heap.size <= b
 sM : ∀ b, S' b -> S b \/ isC w' b
section
variable {P : Program} {H H' H'' : AH} {m m' m'' : Nat -> Value} {S S' S'' : Nat -> Prop} {w w' w'' : World}
theorem OK.isC {mv : Value} {o : AO} {b : Nat} (h : OK P H m S w mv o) (hb : Abs.blk mv o = some b) (hm : o.isMap = false) : Abs.isC w b := by
 cases o with
 | cells cs =>
  obtain ⟨b', T, vs, rfl, hh, _⟩ := h
  simp [Abs.blk] at hb
  subst hb
  exact ⟨_, _, _, hh⟩
 | buf e nl xs =>
  obtain ⟨i, us, _, _, ho, _⟩ := h
  rcases ho.2 with ⟨hv, _⟩ | ⟨g, cap, cur, hv, _, hh, _⟩
  ·rw [hv] at hb; cases hb
  ·rw [hv] at hb
   have : g = b := by simpa [Abs.blk, Value.ownBlock] using hb
   subst this
   exact ⟨_, _, _, hh⟩
 | frz nl xs => simp [Abs.blk] at hb
 | map ks => cases hm
 | arr xs =>
  obtain ⟨b', T, vs, rfl, hh, _⟩ := h
  simp [Abs.blk] at hb
  subst hb
  exact ⟨_, _, _, hh⟩
 | bn e xs l =>
  obtain ⟨i, us, _, _, ho, _⟩ := h
  rcases ho.2 with ⟨hv, _⟩ | ⟨g, cap, cur, hv, _, hh, _⟩
  ·rw [hv] at hb; cases hb
  ·rw [hv] at hb
   have : g = b := by simpa [Abs.blk, Value.ownBlock] using hb
   subst this
   exact ⟨_, _, _, hh⟩
theorem OK.isS {mv : Value} {o : AO} {b : Nat} (h : OK P H m S w mv o) (hb : Abs.blk mv o = some b) : Abs.isS w b := by
 cases o with
 | map ks =>
  obtain ⟨b', es, c, rfl, hh, _⟩ := h
  simp [Abs.blk] at hb
  subst hb
  exact ⟨_, hh, rfl⟩
 | _ =>
  obtain ⟨vs, T, f, h1⟩ := h.isC hb rfl
  exact ⟨_, h1, rfl⟩
theorem A1 (hp : Hp P H m S w) {b : Nat} (h : own H m b) : Abs.isS w b := by
 obtain ⟨i, o, hl, hb⟩ := h
 exact (hp.obj i o hl).isS hb
theorem vR (hp : Hp P H m S w) (hn : bJ H = true) {b : Nat} (h : own H m b) : Abs.isC w b := by
 obtain ⟨i, o, hl, hb⟩ := h
 exact (hp.obj i o hl).isC hb (qg hn hl)
theorem Stp.refl (hp : Hp P H m S w) : Stp P H m S w H m S w :=
 ⟨aW.refl _ _, hp, fun _ _ => rfl, fun _ h => h, rfl, rfl, rfl, Nat.le_refl _, fun _ _ _ => rfl, fun _ h => .inl h, fun _ h => .inl h, fun _ h => .inl h⟩
theorem Stp.trans (h : Stp P H m S w H' m' S' w') (k : Stp P H' m' S' w' H'' m'' S'' w'') : Stp P H m S w H'' m'' S'' w'' := by
 refine ⟨h.old.trans k.old, k.hp, fun b hb => (k.keeps b (h.sub b hb)).trans (h.keeps b hb), fun b hb => k.sub b (h.sub b hb), k.os.trans h.os, k.tape.trans h.tape, k.output.trans h.output,
  Nat.le_trans h.size k.size, fun b hb hn => ?_, fun b hb => ?_, fun b hb => ?_, fun b hb => ?_⟩
 ·refine (k.blk b (Nat.lt_of_lt_of_le hb h.size) fun ho => ?_).trans (h.blk b hb hn)
  rcases h.own b ho with h1 | h1
  ·exact hn h1
  ·omega
 ·rcases k.wX b hb with h1 | h1 | h1
  ·exact h.wX b h1
  ·rcases h.own b h1 with h2 | h2
   ·exact .inr (.inl h2)
   ·exact .inr (.inr h2)
  ·exact .inr (.inr (Nat.le_trans h.size h1))
 ·rcases k.own b hb with h1 | h1
  ·exact h.own b h1
  ·exact .inr (Nat.le_trans h.size h1)
 ·rcases k.sM b hb with h1 | h1
  ·rcases h.sM b h1 with h2 | ⟨vs, T, f, h2⟩
   ·exact .inl h2
   ·exact .inr ⟨vs, T, f, (k.keeps b h1).trans h2⟩
  ·exact .inr h1
theorem OK.mono (hk : b8 S w w') (hs : ∀ b, S b -> S' b) (ho : aW H H' m m') {mv : Value} {o : AO} (h : OK P H m S w mv o) (hb : ∀ b, blk mv o = some b -> w'.heap[b]? = w.heap[b]?) : OK P H' m' S' w' mv o := by
 cases o with
 | cells cs =>
  obtain ⟨b, T, vs, rfl, hh, hl, hr⟩ := h
  exact ⟨b, T, vs, rfl, (hb b rfl).trans hh, hl, fun k c hc => ⟨(hr k c hc).1.mono hk hs ho, (hr k c hc).2⟩⟩
 | buf e nl xs =>
  obtain ⟨i, us, h1, h2, h3, h4, h5, h6⟩ := h
  refine ⟨i, us, h1, h2, ⟨h3.1, ?_⟩, h4, fun k c hc => ?_, h6⟩
  ·rcases h3.2 with hn | ⟨g, cap, cur, hv, h7, hh, rest⟩
   ·exact .inl hn
   ·exact .inr ⟨g, cap, cur, hv, h7, (hb g (by rw [hv]; rfl)).trans hh, rest⟩
  ·obtain ⟨u, hu, hr, h1⟩ := h5 k c hc
   exact ⟨u, hu, hr.mono hk hs, h1⟩
 | frz nl xs => exact RdP.mono hk hs h
 | map ks =>
  obtain ⟨b, es, c, rfl, hh, hk2, hv⟩ := h
  exact ⟨b, es, c, rfl, (hb b rfl).trans hh, hk2, hv⟩
 | arr xs =>
  obtain ⟨b, T, vs, rfl, hh, hl, hr⟩ := h
  exact ⟨b, T, vs, rfl, (hb b rfl).trans hh, hl, fun k c hc => ⟨(hr k c hc).1.mono hk hs, (hr k c hc).2⟩⟩
 | bn e xs l =>
  obtain ⟨i, us, h1, h2, h3, h4, h5, h6, h7⟩ := h
  refine ⟨i, us, h1, h2, ⟨h3.1, ?_⟩, h4, h5, fun k c hc => ?_, fun k c hc => ?_⟩
  ·rcases h3.2 with hn | ⟨g, cap, cur, hv, h7, hh, rest⟩
   ·exact .inl hn
   ·exact .inr ⟨g, cap, cur, hv, h7, (hb g (by rw [hv]; rfl)).trans hh, rest⟩
  ·obtain ⟨u, hu, hr, h1⟩ := h6 k c hc
   exact ⟨u, hu, hr.mono hk hs, h1⟩
  ·obtain ⟨u, hu, hr, h1⟩ := h7 k c hc
   exact ⟨u, hu, hr.mono hk hs ho, h1⟩
theorem Stp.at_ (F : Nat -> Prop) (hp : Hp P H m S w) (ho : aW H H' m m') (hother : ∀ j o, ¬ F j -> live H' j o -> live H j o /\ m' j = m j)
  (hos : w'.os = w.os) (htape : w'.tape = w.tape) (hout : w'.output = w.output) (hsz : w.heap.size <= w'.heap.size)
  (hblk : ∀ b, b < w.heap.size -> (∀ j o, F j -> live H j o -> Abs.blk (m j) o ≠ some b) -> w'.heap[b]? = w.heap[b]?)
  (hnew : ∀ j o, F j -> live H' j o -> b8 S w w' -> OK P H' m' S w' (m' j) o)
  (hnb : ∀ j o b, F j -> live H' j o -> Abs.blk (m' j) o = some b -> (∃ i o', F i /\ live H i o' /\ Abs.blk (m i) o' = some b) \/ w.heap.size <= b)
  (hinj : ∀ i j oi oj b, F i -> F j -> live H' i oi -> live H' j oj -> Abs.blk (m' i) oi = some b -> Abs.blk (m' j) oj = some b -> i = j) :
  Stp P H m S w H' m' S w' := by
 have hk : b8 S w w' := fun b hb => hblk b (hp.sub b hb) fun j o _ hl he => hp.out j o b hl he hb
 have hob : ∀ j o b, ¬ F j -> live H j o -> Abs.blk (m j) o = some b -> w'.heap[b]? = w.heap[b]? := fun j o b hj hl hb =>
  hblk b ((hp.obj j o hl).bE hb) fun i o' hi hl' hb' => by
   have := hp.inj i j o' o b hl' hl hb' hb
   subst this
   exact hj hi
 refine ⟨ho, ⟨fun j o hl => ?_, fun i j oi oj b hi hj hbi hbj => ?_, fun b hb => Nat.lt_of_lt_of_le (hp.sub b hb) hsz, fun j o b hl hb => ?_, hp.glb.mono hk fun _ h => h⟩, hk, fun _ h => h, hos, htape, hout, hsz,
  fun b hb hn => hblk b hb fun j o _ hl he => hn ⟨j, o, hl, he⟩, fun b hb => .inl hb, fun b hb => ?_, fun b hb => .inl hb⟩
 ·by_cases hF : F j
  ·exact hnew j o hF hl hk
  ·obtain ⟨hl', hm⟩ := hother j o hF hl
   rw [hm]
   exact OK.mono hk (fun _ h => h) ho (hp.obj j o hl') fun b hb => hob j o b hF hl' hb
 ·by_cases hFi : F i <;> by_cases hFj : F j
  ·exact hinj i j oi oj b hFi hFj hi hj hbi hbj
  ·obtain ⟨hl', hm⟩ := hother j oj hFj hj
   rw [hm] at hbj
   rcases hnb i oi b hFi hi hbi with ⟨i', o', hF', hlo, hbo⟩ | h1
   ·have := hp.inj i' j o' oj b hlo hl' hbo hbj
    subst this
    exact absurd hF' hFj
   ·have := (hp.obj j oj hl').bE hbj
    omega
  ·obtain ⟨hl', hm⟩ := hother i oi hFi hi
   rw [hm] at hbi
   rcases hnb j oj b hFj hj hbj with ⟨i', o', hF', hlo, hbo⟩ | h1
   ·have := hp.inj i' i o' oi b hlo hl' hbo hbi
    subst this
    exact absurd hF' hFi
   ·have := (hp.obj i oi hl').bE hbi
    omega
  ·obtain ⟨hl1, hm1⟩ := hother i oi hFi hi
   obtain ⟨hl2, hm2⟩ := hother j oj hFj hj
   rw [hm1] at hbi
   rw [hm2] at hbj
   exact hp.inj i j oi oj b hl1 hl2 hbi hbj
 ·intro hS
  by_cases hF : F j
  ·rcases hnb j o b hF hl hb with ⟨i', o', hF', hlo, hbo⟩ | h1
   ·exact hp.out i' o' b hlo hbo hS
   ·have := hp.sub b hS
    omega
  ·obtain ⟨hl', hm⟩ := hother j o hF hl
   rw [hm] at hb
   exact hp.out j o b hl' hb hS
 ·obtain ⟨j, o, hl, hb⟩ := hb
  by_cases hF : F j
  ·rcases hnb j o b hF hl hb with ⟨i', o', hF', hlo, hbo⟩ | h1
   ·exact .inl ⟨i', o', hlo, hbo⟩
   ·exact .inr h1
  ·obtain ⟨hl', hm⟩ := hother j o hF hl
   rw [hm] at hb
   exact .inl ⟨j, o, hl', hb⟩
def upd (m : Nat -> Value) (i : Nat) (v : Value) : Nat -> Value := fun j => if j = i then v else m j
theorem bw {o : AO} {j : Nat} {p : AO} (h : live (H ++ [some o]) j p) : (j = H.length /\ p = o) \/ (j < H.length /\ live H j p) := by
 unfold live at h
 rcases Nat.lt_trichotomy j H.length with hj | hj | hj
 ·rw [List.getElem?_append_left hj] at h; exact .inr ⟨hj, h⟩
 ·subst hj; simp at h; exact .inl ⟨rfl, h.symm⟩
 ·rw [List.getElem?_eq_none (by simp; omega)] at h; cases h
theorem jw (o : AO) (v : Value) : aW H (H ++ [some o]) m (upd m H.length v) := by
 refine ⟨by simp, fun id hid o' hl => ?_⟩
 rcases bw hl with ⟨rfl, _⟩ | ⟨_, hl⟩
 ·omega
 ·exact ⟨if_neg (by omega), o', hl, fun e nl xs he => ⟨nl, xs, he, Nat.le_refl _⟩, fun _ _ l he => ⟨l, he⟩⟩
theorem Stp.push (hp : Hp P H m S w) {o : AO} {v : Value} (hos : w'.os = w.os) (htape : w'.tape = w.tape) (hout : w'.output = w.output) (hsz : w.heap.size <= w'.heap.size)
  (hblk : ∀ b, b < w.heap.size -> w'.heap[b]? = w.heap[b]?)
  (hok : b8 S w w' -> OK P (H ++ [some o]) (upd m H.length v) S w' v o) (hb : ∀ b, Abs.blk v o = some b -> w.heap.size <= b) : Stp P H m S w (H ++ [some o]) (upd m H.length v) S w' := by
 refine Stp.at_ (fun j => j = H.length) hp (jw o v) (fun j p hj hl => ?_) hos htape hout hsz (fun b hlt _ => hblk b hlt) (fun j p hj hl hk => ?_) (fun j p b hj hl hbb => ?_) (fun i j _ _ _ hi hj _ _ _ _ => hi.trans hj.symm)
 ·rcases bw hl with ⟨rfl, _⟩ | ⟨hlt, hl⟩
  ·exact absurd rfl hj
  ·exact ⟨hl, if_neg (by omega)⟩
 ·subst hj
  rcases bw hl with ⟨_, rfl⟩ | ⟨hlt, _⟩
  ·have : upd m H.length v H.length = v := if_pos rfl
   rw [this]
   exact hok hk
  ·omega
 ·subst hj
  rcases bw hl with ⟨_, rfl⟩ | ⟨hlt, _⟩
  ·have : upd m H.length v H.length = v := if_pos rfl
   rw [this] at hbb
   exact .inr (hb b hbb)
  ·omega
end
end Go.Abs
namespace Go.Abs
open Go.RowKit
def iY (H : AH) (id : Nat) : AH := match H[id]? with
 | some (some (.buf _ nl xs)) => H.set id (some (.frz nl xs))
 | _ => H
def aP (H : AH) (ids : List Nat) : AH := ids.foldl iY H
def wA (H : AH) : AV -> List Nat
 | .buf id => match H[id]? with
  | some (some (.buf _ _ _)) => [id]
  | _ => []
 | _ => []
def da (H : AH) : AV -> List Nat
 | .agg cs => cs.flatMap (wA H)
 | .buf id => wA H (.buf id)
 | _ => []
def oO (H : AH) : AV -> Option PV
 | .p (.v x) => some (.v x)
 | .p (.list nl xs) => some (.list nl xs)
 | .buf id => match H[id]? with
  | some (some (.frz nl xs)) => some (.list nl xs)
  | _ => none
 | _ => none
def kJ (H : AH) : List AV -> Option (List PV)
 | [] => some []
 | c :: r => match oO H c, kJ H r with
  | some x, some l => some (x :: l)
  | _, _ => none
def zx (H : AH) : AV -> Option PV
 | .p x => some x
 | .agg cs => match kJ H cs with
  | some l => some (.agg l)
  | none => none
 | x => oO H x
def jV (H : AH) (x : AV) : AV := match zx H x with
 | some y => .p y
 | none => .dead
section
variable {P : Program} {ti : TypeId -> Option TI} {H : AH} {m : Nat -> Value} {S : Nat -> Prop} {w : World}
theorem RdP.nR {e : TypeId} {nl : Bool} {xs : List PV} {mv : Value} {S' : Nat -> Prop} (h : OK P H m S w mv (.buf e nl xs)) (hs : ∀ b, S b -> S' b) (hb : ∀ b, mv.ownBlock = some b -> S' b) : RdP S' w (.list nl xs) mv := by
 obtain ⟨i, us, hi, hsz, ho, hz, hr, hn⟩ := h
 rcases ho.2 with ⟨hv, h0⟩ | ⟨g, cap, cur, hv, _, hh, hc, hm, hcs, htk⟩
 ·have hx : xs = [] := List.eq_nil_of_length_eq_zero h0
  have hnl : nl = true := hn.2 hv
  subst hx; subst hnl
  rw [hv]
  exact .nil
 ·have hnl : nl = false := by
   cases nl
   ·rfl
   ·have := hn.1 rfl; rw [hv] at this; cases this
  subst hnl
  have hcells := ho.cells (g := g) (by rw [hv]; rfl)
  have hS : S' g := hb g (by rw [hv]; rfl)
  rw [hv]
  refine .list xs _ cap i.size (fun k => (us[k]?).getD undef) (fun _ => hS) hc hm hz (fun k c hk => ?_) fun k c hk => ?_
  ·obtain ⟨u, hu, _, h1⟩ := hr k c hk
   simp only [hu, Option.getD_some]
   exact ⟨hcells k u hu, h1⟩
  ·obtain ⟨u, hu, h2, _⟩ := hr k c hk
   simp only [hu, Option.getD_some]
   exact h2.mono (fun _ _ => rfl) hs
theorem aH {id j : Nat} {o : Option AO} {p : AO} (h : live (H.set id o) j p) : (j = id /\ o = some p) \/ (j ≠ id /\ live H j p) := by
 unfold live at h
 rw [List.getElem?_set] at h
 by_cases hj : id = j
 ·subst hj
  simp at h
  exact .inl ⟨rfl, h.2⟩
 ·rw [if_neg hj] at h
  exact .inr ⟨fun e => hj e.symm, h⟩
theorem Stp.iY (hp : Hp P H m S w) (id : Nat) : ∃ S', Stp P H m S w (iY H id) m S' w := by
 unfold Abs.iY
 split
 ·rename_i e nl xs hH
  have hl : live H id (.buf e nl xs) := hH
  have hok := hp.obj id _ hl
  have hold : aW H (H.set id (some (.frz nl xs))) m m := by
   refine ⟨by simp, fun j hj o' hlo => ⟨rfl, ?_⟩⟩
   rcases aH hlo with ⟨rfl, he⟩ | ⟨_, hl'⟩
   ·injection he with he
    subst he
    exact ⟨_, hl, fun _ _ _ h => (by cases h), fun _ _ _ h => (by cases h)⟩
   ·exact ⟨o', hl', fun e nl xs he => ⟨nl, xs, he, Nat.le_refl _⟩, fun _ _ l he => ⟨l, he⟩⟩
  let S' : Nat -> Prop := fun b => S b \/ (m id).ownBlock = some b
  refine ⟨S', hold, ⟨fun j o hlo => ?_, fun i j oi oj b hi hj hbi hbj => ?_, fun b hb => ?_, fun j o b hlo hb hS => ?_, hp.glb.mono (fun _ _ => rfl) fun _ h => .inl h⟩, fun _ _ => rfl, fun b hb => .inl hb, rfl, rfl, rfl, Nat.le_refl _, fun _ _ _ => rfl, fun b hb => ?_, fun b hb => ?_, fun b hb => ?_⟩
  ·rcases aH hlo with ⟨rfl, he⟩ | ⟨_, hl'⟩
   ·injection he with he
    subst he
    exact RdP.nR hok (fun _ h => .inl h) (fun b hb => .inr hb)
   ·exact OK.mono (fun _ _ => rfl) (fun _ h => .inl h) hold (hp.obj j o hl') (fun _ _ => rfl)
  ·rcases aH hi with ⟨rfl, he⟩ | ⟨_, hi'⟩
   ·injection he with he; subst he; cases hbi
   ·rcases aH hj with ⟨rfl, he⟩ | ⟨_, hj'⟩
    ·injection he with he; subst he; cases hbj
    ·exact hp.inj i j oi oj b hi' hj' hbi hbj
  ·rcases hb with hb | hb
   ·exact hp.sub b hb
   ·exact hok.bE hb
  ·rcases aH hlo with ⟨rfl, he⟩ | ⟨hne, hl'⟩
   ·injection he with he; subst he; cases hb
   ·rcases hS with hS | hS
    ·exact hp.out j o b hl' hb hS
    ·exact hne (hp.inj j id o _ b hl' hl hb hS)
  ·rcases hb with hb | hb
   ·exact .inl hb
   ·exact .inr (.inl ⟨id, _, hl, hb⟩)
  ·obtain ⟨j, o, hlo, hb⟩ := hb
   rcases aH hlo with ⟨rfl, he⟩ | ⟨_, hl'⟩
   ·injection he with he; subst he; cases hb
   ·exact .inl ⟨j, o, hl', hb⟩
  ·rcases hb with hb | hb
   ·exact .inl hb
   ·exact .inr (hok.isC hb rfl)
 ·exact ⟨S, Stp.refl hp⟩
theorem Stp.aP : ∀ (ids : List Nat) (H : AH) (S : Nat -> Prop), Hp P H m S w -> ∃ S', Stp P H m S w (aP H ids) m S' w
 | [], H, S, hp => ⟨S, Stp.refl hp⟩
 | id :: ids, H, S, hp => by
  obtain ⟨S1, h1⟩ := Stp.iY hp id
  obtain ⟨S2, h2⟩ := Stp.aP ids (Abs.iY H id) S1 h1.hp
  exact ⟨S2, h1.trans h2⟩
theorem kK (hp : Hp P H m S w) {x : AV} {y : PV} {v : Value} (h : oO H x = some y) (hx : Rd P H m S w x v) : RdP S w y v := by
 unfold oO at h
 split at h
 ·injection h with h; subst h; cases hx with | p _ _ h => exact h
 ·injection h with h; subst h; cases hx with | p _ _ h => exact h
 ·split at h
  ·rename_i hH
   injection h with h; subst h
   have hv := hx.bX hH
   subst hv
   exact hp.obj _ _ hH
  ·cases h
 ·cases h
theorem jd (hp : Hp P H m S w) : ∀ {cs : List AV} {l : List PV}, kJ H cs = some l -> l.length = cs.length /\ ∀ (k : Nat) (y : PV), l[k]? = some y -> ∃ c, cs[k]? = some c /\ oO H c = some y
 | [], l, h => by simp [kJ] at h; subst h; simp
 | c :: r, l, h => by
  unfold kJ at h
  split at h
  ·rename_i x l' h1 h2
   injection h with h
   subst h
   obtain ⟨h3, h4⟩ := jd hp h2
   refine ⟨by simp [h3], fun k y hk => ?_⟩
   cases k with
   | zero => simp at hk; subst hk; exact ⟨c, rfl, h1⟩
   | succ k => simpa using h4 k y (by simpa using hk)
  ·cases h
theorem nK (hp : Hp P H m S w) {x : AV} {y : PV} {v : Value} (h : zx H x = some y) (hx : Rd P H m S w x v) : RdP S w y v := by
 unfold zx at h
 split at h
 ·injection h with h; subst h; cases hx with | p _ _ h => exact h
 ·split at h
  ·rename_i l hl
   injection h with h; subst h
   obtain ⟨vs, rfl, hsz, hr⟩ := Av hx
   obtain ⟨h1, h2⟩ := jd hp hl
   refine .agg _ _ (by rw [hsz, h1]) (fun k c hk => ?_) (fun k c hk => ?_)
   ·obtain ⟨c', hc', _⟩ := h2 k c hk
    exact (hr k c' hc').2
   ·obtain ⟨c', hc', he⟩ := h2 k c hk
    exact kK hp he (hr k c' hc').1
  ·cases h
 ·exact kK hp h hx
theorem aG (hp : Hp P H m S w) {x : AV} {v : Value} (hx : Rd P H m S w x v) : Rd P H m S w (jV H x) v := by
 unfold jV
 split
 ·rename_i y hy
  exact .p _ _ (nK hp hy hx)
 ·exact .dead _
theorem j3 {t : TypeId} {i : TI} (hi : cA P t = some i) (w : World) : (Instr.alloc t true (.tuple #[])).run P w = .ok (.pointer (some ⟨w.heap.size, 0, none⟩)) (w.alloc (.cells i.zero.cells t)) := by
 obtain ⟨inf, d, hinf, hd, hz, hs, _, hk, _⟩ := aE hi
 simp [Instr.alloc, zeroValue, typeInfo, hinf, hz, newVar, newRow]
theorem ux (t : TypeId) (v : Value) (w : World) : (Instr.box t v).run P w = .ok (.pointer (some ⟨w.heap.size, 0, none⟩)) (w.alloc (.cells v.cells t)) := by
 simp [Instr.box, newVar, newRow]
theorem Stp.nS (hp : Hp P H m S w) {cs : List AV} {vs : Array Value} (h : RdL P H m S w cs vs) (t : TypeId) :
  Stp P H m S w (H ++ [some (.cells cs)]) (upd m H.length (.pointer (some ⟨w.heap.size, 0, none⟩))) S (w.alloc (.cells vs t)) /\
  Rd P (H ++ [some (.cells cs)]) (upd m H.length (.pointer (some ⟨w.heap.size, 0, none⟩))) S (w.alloc (.cells vs t)) (.ptr H.length 0) (.pointer (some ⟨w.heap.size, 0, none⟩)) := by
 refine ⟨Stp.push hp rfl rfl rfl (by simp) (fun b hb => Below.heap_alloc w _ _ hb) (fun hk => ?_) (fun b hb => ?_), ?_⟩
 ·exact ⟨w.heap.size, t, vs, rfl, heap_alloc_new w _, (Nat.le_of_eq h.1.symm), fun k c hc => ⟨(h.2 k c hc).1.mono hk (fun _ h => h) (jw _ _), (h.2 k c hc).2⟩⟩
 ·simp [Abs.blk] at hb
  omega
 ·refine .ptr _ _ _ (by simp) fun o hl => ⟨w.heap.size, if_pos rfl, rfl⟩
theorem ra (z : Array Value) (n k : Nat) (hk : k < n) (h0 : 0 < z.size) : (madeCells z n)[k]? = some (z.getD (k % z.size) undef) := by
 have hlt : k % z.size < z.size := Nat.mod_lt _ h0
 simp [madeCells, hk, Array.getD, hlt]
theorem Stp.uK (hp : Hp P H m S w) {e : TypeId} {i : TypeInfo} {xs : List PV} {cur : Array Value} {n cap : Nat} (hi : P.info? e = some i) (hsz : 0 < i.size) (hn : n = xs.length) (hc : n <= cap) (hm : cap <= maxLen) (hcs : cur.size = cap * i.size)
  (hz : ∀ x ∈ xs, x.cells.length = i.size) (hr : ∀ (k : Nat) (c : PV), (flat xs)[k]? = some c -> ∃ u : Value, cur[k]? = some u /\ RdP S w c u /\ u.oneCell' = true) :
  Stp P H m S w (H ++ [some (.buf e false xs)]) (upd m H.length (.slice (some ⟨w.heap.size, 0, none⟩) n cap)) S (w.alloc (.cells cur e)) /\
  Rd P (H ++ [some (.buf e false xs)]) (upd m H.length (.slice (some ⟨w.heap.size, 0, none⟩) n cap)) S (w.alloc (.cells cur e)) (.buf H.length) (.slice (some ⟨w.heap.size, 0, none⟩) n cap) := by
 subst hn
 have hle : xs.length * i.size <= cap * i.size := Nat.mul_le_mul_right _ hc
 refine ⟨Stp.push hp rfl rfl rfl (by simp) (fun b hb => Below.heap_alloc w _ _ hb) (fun hk => ?_) (fun b hb => ?_), ?_⟩
 ·refine ⟨i, cur.toList.take (xs.length * i.size), hi, hsz, ⟨by rw [List.length_take, show cur.toList.length = cap * i.size from hcs]; exact Nat.min_eq_left hle, .inr ⟨w.heap.size, cap, cur, rfl, Nat.zero_le _, heap_alloc_new w _, hc, hm, hcs, rfl⟩⟩, hz, fun k c hc' => ?_, by simp⟩
  obtain ⟨u, hu, h1, h2⟩ := hr k c hc'
  have hlt : k < xs.length * i.size := by have := (List.getElem?_eq_some_iff.1 hc').1; rw [aJ hz] at this; exact this
  exact ⟨u, by rw [List.getElem?_take, if_pos hlt]; simpa using hu, h1.mono hk (fun _ h => h), h2⟩
 ·simp [Abs.blk, Value.ownBlock] at hb
  omega
 ·exact .buf _ _ _ _ (by simp) fun o hl => if_pos rfl
theorem fF (z : Value) : (pz z).cells = z.cells.toList.map cX := by
 unfold pz
 split
 ·rfl
 ·rename_i h
  have hc : z.cells = #[z] := by cases z <;> first | rfl | (exact absurd rfl (h _))
  rw [hc]
  show (cX z).cells = [cX z]
  unfold cX
  split <;> rfl
theorem dZ {v : Value} (h : v.oneCell' = true) : RdP S w (cX v) v := by
 unfold cX
 split
 ·exact .nil
 ·exact .v _ h
theorem eN (n : Nat) (x : PV) (k : Nat) (c : PV) (h : (flat (List.replicate n x))[k]? = some c) : x.cells[k % x.cells.length]? = some c /\ k < n * x.cells.length := by
 induction n generalizing k with
 | zero => simp [flat] at h
 | succ n ih =>
  simp only [flat, List.replicate_succ, List.flatMap_cons] at h
  by_cases hk : k < x.cells.length
  ·rw [List.getElem?_append_left hk] at h
   rw [Nat.mod_eq_of_lt hk, Nat.succ_mul]
   exact ⟨h, by omega⟩
  ·rw [List.getElem?_append_right (by omega)] at h
   obtain ⟨h1, h2⟩ := ih (k - x.cells.length) h
   rw [Nat.mod_eq_sub_mod (by omega), Nat.succ_mul]
   exact ⟨h1, by omega⟩
end
end Go.Abs
namespace Go.Abs
open Go.RowKit
section
variable {P : Program} {ti : TypeId -> Option TI} {H : AH} {m : Nat -> Value} {S : Nat -> Prop} {w : World}
theorem cL {id : Nat} {o o' : AO} (hl : live H id o) (hb : ∀ e nl xs, o' = .buf e nl xs -> ∃ nl0 xs0, o = .buf e nl0 xs0 /\ xs0.length <= xs.length) (hbL : ∀ e xs l, o' = .bn e xs l -> ∃ l0, o = .bn e xs l0 := by intro _ _ _ h; cases h) : aW H (H.set id (some o')) m m := by
 refine ⟨by simp, fun j hj p hp => ⟨rfl, ?_⟩⟩
 rcases aH hp with ⟨rfl, he⟩ | ⟨_, hl'⟩
 ·injection he with he
  subst he
  exact ⟨o, hl, hb, hbL⟩
 ·exact ⟨p, hl', fun e nl xs he => ⟨nl, xs, he, Nat.le_refl _⟩, fun _ _ l he => ⟨l, he⟩⟩
def m7 (H : AH) (id : Nat) : AH := match H[id]? with
 | some (some (.cells cs)) => H.set id (some (.cells (cs.map (jV H))))
 | _ => H
def jq (H : AH) (ids : List Nat) : AH := ids.foldl m7 H
theorem Stp.m7 (hp : Hp P H m S w) (id : Nat) : Stp P H m S w (Abs.m7 H id) m S w := by
 unfold Abs.m7
 split
 ·rename_i cs hH
  have hl : live H id (.cells cs) := hH
  obtain ⟨b, T, vs, h1, h2, h3, h4⟩ := hp.obj id _ hl
  have hold : aW H (H.set id (some (.cells (cs.map (jV H))))) m m := cL hl (fun _ _ _ he => by cases he)
  refine Stp.at_ (fun j => j = id) hp hold (fun j p hj hlp => ?_) rfl rfl rfl (Nat.le_refl _) (fun _ _ _ => rfl) (fun j p hj hlp hk => ?_) (fun j p b hj hlp hbb => ?_) (fun i j _ _ _ hi hj _ _ _ _ => hi.trans hj.symm)
  ·rcases aH hlp with ⟨rfl, _⟩ | ⟨_, hl'⟩
   ·exact absurd rfl hj
   ·exact ⟨hl', rfl⟩
  ·subst hj
   rcases aH hlp with ⟨_, he⟩ | ⟨hne, _⟩
   ·injection he with he
    subst he
    refine ⟨b, T, vs, h1, h2, by rw [List.length_map]; exact h3, fun k c hc => ?_⟩
    rw [List.getElem?_map, Option.map_eq_some_iff] at hc
    obtain ⟨c0, hc0, rfl⟩ := hc
    exact ⟨(aG hp (h4 k c0 hc0).1).mono hk (fun _ h => h) hold, (h4 k c0 hc0).2⟩
   ·exact absurd rfl hne
  ·subst hj
   rcases aH hlp with ⟨_, he⟩ | ⟨hne, _⟩
   ·injection he with he
    subst he
    exact .inl ⟨j, _, rfl, hl, hbb⟩
   ·exact absurd rfl hne
 ·exact Stp.refl hp
theorem Stp.jq : ∀ (ids : List Nat) (H : AH), Hp P H m S w -> Stp P H m S w (Abs.jq H ids) m S w
 | [], H, hp => Stp.refl hp
 | id :: ids, H, hp => (Stp.m7 hp id).trans (Stp.jq ids (Abs.m7 H id) (Stp.m7 hp id).hp)
theorem Stp.store (hp : Hp P H m S w) {id : Nat} {o o' : AO} {g : Nat} {cur new : Array Value} {T : TypeId} (hl : live H id o) (hg : Abs.blk (m id) o = some g) (hh : w.heap[g]? = some (.cells cur T (0, 0)))
  (hold : ∀ e nl xs, o' = .buf e nl xs -> ∃ nl0 xs0, o = .buf e nl0 xs0 /\ xs0.length <= xs.length) (hb : Abs.blk (m id) o' = some g)
  (hok : b8 S w (w.setRow g new) -> (w.setRow g new).heap[g]? = some (.cells new T (0, 0)) -> OK P (H.set id (some o')) m S (w.setRow g new) (m id) o')
  (hbL : ∀ e xs l, o' = .bn e xs l -> ∃ l0, o = .bn e xs l0 := by intro _ _ _ h; cases h) :
  Stp P H m S w (H.set id (some o')) m S (w.setRow g new) := by
 refine Stp.at_ (fun j => j = id) hp (cL hl hold hbL) (fun j p hj hlp => ?_) rfl rfl rfl (by simp) (fun b hlt hn => ?_) (fun j p hj hlp hk => ?_) (fun j p b hj hlp hbb => ?_) (fun i j _ _ _ hi hj _ _ _ _ => hi.trans hj.symm)
 ·rcases aH hlp with ⟨rfl, _⟩ | ⟨_, hl'⟩
  ·exact absurd rfl hj
  ·exact ⟨hl', rfl⟩
 ·exact setRow_other w g b new fun e => by subst e; exact hn id o rfl hl hg
 ·subst hj
  rcases aH hlp with ⟨_, he⟩ | ⟨hne, _⟩
  ·injection he with he
   subst he
   exact hok hk (setRow_heap w g cur new T (0, 0) hh)
  ·exact absurd rfl hne
 ·subst hj
  rcases aH hlp with ⟨_, he⟩ | ⟨hne, _⟩
  ·injection he with he
   subst he
   rw [hb] at hbb
   injection hbb with hbb
   subst hbb
   exact .inl ⟨j, o, rfl, hl, hg⟩
  ·exact absurd rfl hne
def bt (cur : List Value) (o : Nat) (vs : List Value) : List Value := cur.take o ++ vs ++ cur.drop (o + vs.length)
theorem bP {cur : List Value} {o : Nat} {vs : List Value} (h : o + vs.length <= cur.length) : (bt cur o vs).length = cur.length := by
 simp only [bt, List.length_append, List.length_take, List.length_drop]; omega
theorem iB {cur : List Value} {o : Nat} {vs : List Value} (h : o + vs.length <= cur.length) {j : Nat} (hj : j < vs.length) : (bt cur o vs)[o + j]? = vs[j]? := by
 unfold bt
 rw [List.append_assoc, List.getElem?_append_right (by rw [List.length_take]; omega), List.length_take, Nat.min_eq_left (by omega), Nat.add_sub_cancel_left, List.getElem?_append_left hj]
theorem eG {cur : List Value} {o : Nat} {vs : List Value} (h : o + vs.length <= cur.length) {k : Nat} (hk : k < o \/ o + vs.length <= k) : (bt cur o vs)[k]? = cur[k]? := by
 unfold bt
 rcases hk with hk | hk
 ·rw [List.append_assoc, List.getElem?_append_left (by rw [List.length_take]; omega), List.getElem?_take, if_pos hk]
 ·rw [List.getElem?_append_right (by rw [List.length_append, List.length_take]; omega), List.getElem?_drop]
  congr 1
  rw [List.length_append, List.length_take]
  omega
theorem cW (off : Nat) : ∀ (xs : List AV) (n : Nat) (cs : List AV), (setAt cs (off + n) xs).length = cs.length
 | [], n, cs => rfl
 | x :: xs, n, cs => by simp only [setAt]; rw [Nat.add_assoc, cW off xs (n + 1)]; simp
theorem nr : ∀ (xs : List AV) (off : Nat) (cs : List AV) (k : Nat) (c : AV), (setAt cs off xs)[k]? = some c -> off + xs.length <= cs.length ->
  (∃ j, k = off + j /\ xs[j]? = some c) \/ ((k < off \/ off + xs.length <= k) /\ cs[k]? = some c)
 | [], off, cs, k, c, h, _ => .inr ⟨by simp; omega, h⟩
 | x :: xs, off, cs, k, c, h, hl => by
  simp only [setAt] at h
  simp only [List.length_cons] at hl
  rcases nr xs (off + 1) (cs.set off x) k c h (by simp; omega) with ⟨j, rfl, hj⟩ | ⟨hk, hc⟩
  ·exact .inl ⟨j + 1, by omega, by simpa using hj⟩
  ·rw [List.getElem?_set] at hc
   by_cases he : off = k
   ·subst he
    rw [if_pos rfl] at hc
    split at hc
    ·exact .inl ⟨0, rfl, by simpa using hc⟩
    ·cases hc
   ·rw [if_neg he] at hc
    exact .inr ⟨by simp; omega, hc⟩
theorem eI {t : TypeId} {i : TI} (hi : cA P t = some i) {g off : Nat} {cur : Array Value} {T : TypeId} (hh : w.heap[g]? = some (.cells cur T (0, 0))) {v : Value} (hs : v.cells.size = i.size) (h1 : ∀ u ∈ v.cells.toList, u.oneCell' = true) (hle : off + i.size <= cur.size) :
  (Instr.storeAt t (.pointer (some ⟨g, off, none⟩)) v).run P w = .ok () (w.setRow g (bt cur.toList off v.cells.toList).toArray) := by
 obtain ⟨inf, hinf, hs'⟩ := cV hi
 have hst := run_storeCells_at P g off T v.cells.toList 0 cur w hh (by simp; omega) h1
 simp only [Nat.add_zero] at hst
 simp [Instr.storeAt, Instr.sureAddr, storeVar, sizeOf, typeInfo, hinf, hs, hs', hst, bt]
theorem Stp.storeCells (hp : Hp P H m S w) {t : TypeId} {i : TI} (hi : cA P t = some i) {id off : Nat} {cs : List AV} (hH : live H id (.cells cs)) {x : AV} {v : Value} (hx : Rd P H m S w x v) (h1 : x.cells.all AV.one = true) (hxl : x.cells.length = i.size)
  (hle : off + i.size <= cs.length) {va : Value} (ha : Rd P H m S w (.ptr id off) va) :
  ∃ w', (Instr.storeAt t va v).run P w = .ok () w' /\ Stp P H m S w (H.set id (some (.cells (setAt cs off x.cells)))) m S w' := by
 obtain ⟨b, T, vs, hm, hh, hl, hr⟩ := hp.obj id _ hH
 have hva : va = .pointer (some ⟨b, off, none⟩) := by
  cases ha with
  | ptr _ _ a hid hb =>
   obtain ⟨b', hm', rfl⟩ := hb _ hH
   rw [hm] at hm'
   injection hm' with h2; injection h2 with h2; injection h2 with h2
   subst h2
   rfl
 subst hva
 obtain ⟨hs, hc⟩ := hx.cells (qY h1)
 have hoc : ∀ u ∈ v.cells.toList, u.oneCell' = true := by
  intro u hu
  obtain ⟨j, hj, rfl⟩ := List.mem_iff_getElem.1 hu
  have hj' : j < x.cells.length := by rw [<- hs]; simpa using hj
  have := (hc j _ (List.getElem?_eq_getElem hj')).2
  have hj2 : j < v.cells.size := by simpa using hj
  simpa [Array.getD, hj2] using this
 have hvl : v.cells.toList.length = i.size := by rw [Array.length_toList, hs, hxl]
 refine ⟨_, eI hi hh (by rw [hs, hxl]) hoc (by omega), ?_⟩
 have hle' : off + v.cells.toList.length <= vs.toList.length := by rw [hvl, Array.length_toList]; omega
 refine Stp.store hp (o := .cells cs) (T := T) (cur := vs) hH (by rw [hm]; rfl) hh (fun _ _ _ h => by cases h) (by rw [hm]; rfl) fun hk hh' => ?_
 refine ⟨b, T, _, hm, hh', ?_, fun k c hk' => ?_⟩
 ·have h3 := cW off x.cells 0 cs
  rw [Nat.add_zero] at h3
  have h5 : (bt vs.toList off v.cells.toList).toArray.size = vs.size := by rw [List.size_toArray, bP hle', Array.length_toList]
  rw [h5]
  exact Nat.le_trans (Nat.le_of_eq h3) hl
 ·have hold : aW H (H.set id (some (.cells (setAt cs off x.cells)))) m m := cL hH (fun _ _ _ h => by cases h)
  have hget : ∀ (l : List Value) (k : Nat) (u : Value), l[k]? = some u -> l.toArray.getD k undef = u := fun l k u h => by simp [Array.getD_eq_getD_getElem?, h]
  rcases nr x.cells off cs k c hk' (by omega) with ⟨j, rfl, hj⟩ | ⟨hko, hkc⟩
  ·have hjl : j < v.cells.toList.length := by have := (List.getElem?_eq_some_iff.1 hj).1; omega
   have hj2 : j < v.cells.size := by simpa using hjl
   have h3 := hc j c hj
   have e : v.cells.getD j undef = v.cells[j] := by simp [Array.getD, hj2]
   rw [e] at h3
   rw [hget _ _ v.cells[j] (by rw [iB hle' hjl]; simp [hj2])]
   exact ⟨h3.1.mono hk (fun _ h => h) hold, h3.2⟩
  ·have h3 := hr k c hkc
   have hkl : k < vs.size := Nat.lt_of_lt_of_le (List.getElem?_eq_some_iff.1 hkc).1 hl
   have e : vs.getD k undef = vs[k] := by simp [Array.getD, hkl]
   rw [e] at h3
   rw [hget _ _ vs[k] (by rw [eG hle' (by omega)]; simp [hkl])]
   exact ⟨h3.1.mono hk (fun _ h => h) hold, h3.2⟩
def sL (cs : List PV) (off : Nat) : List PV -> List PV
 | [] => cs
 | c :: r => sL (cs.set off c) (off + 1) r
def PV.setAt (y : PV) (off : Nat) (cs : List PV) : PV := match y with
 | .agg ds => .agg (sL ds off cs)
 | .v x => match cs with
  | [c] => c
  | _ => .v x
 | .list nl xs => match cs with
  | [c] => c
  | _ => .list nl xs
def PV.one : PV -> Bool
 | .agg _ => false
 | _ => true
theorem lQ : ∀ (cs : List PV) (off : Nat) (ds : List PV), (sL ds off cs).length = ds.length
 | [], off, ds => rfl
 | c :: r, off, ds => by simp only [sL]; rw [lQ r]; simp
theorem vL : ∀ (xs : List PV) (off : Nat) (cs : List PV) (k : Nat) (c : PV), (sL cs off xs)[k]? = some c -> off + xs.length <= cs.length ->
  (∃ j, k = off + j /\ xs[j]? = some c) \/ ((k < off \/ off + xs.length <= k) /\ cs[k]? = some c)
 | [], off, cs, k, c, h, _ => .inr ⟨by simp; omega, h⟩
 | x :: xs, off, cs, k, c, h, hl => by
  simp only [sL] at h
  simp only [List.length_cons] at hl
  rcases vL xs (off + 1) (cs.set off x) k c h (by simp; omega) with ⟨j, rfl, hj⟩ | ⟨hk, hc⟩
  ·exact .inl ⟨j + 1, by omega, by simpa using hj⟩
  ·rw [List.getElem?_set] at hc
   by_cases he : off = k
   ·subst he
    rw [if_pos rfl] at hc
    split at hc
    ·exact .inl ⟨0, rfl, by simpa using hc⟩
    ·cases hc
   ·rw [if_neg he] at hc
    exact .inr ⟨by simp; omega, hc⟩
theorem lz {c : PV} (h : c.one = true) : c.cells = [c] := by
 cases c with
 | v x => rfl
 | list nl xs => rfl
 | agg cs => simp [PV.one] at h
theorem PV.uv {y : PV} {off : Nat} {cs : List PV} (h1 : cs.all PV.one = true) (hle : off + cs.length <= y.cells.length) (h0 : 0 < cs.length) :
  (y.setAt off cs).cells.length = y.cells.length /\ ∀ (k : Nat) (c : PV), (y.setAt off cs).cells[k]? = some c -> (∃ j, k = off + j /\ cs[j]? = some c) \/ ((k < off \/ off + cs.length <= k) /\ y.cells[k]? = some c) := by
 cases y with
 | agg ds => exact ⟨lQ _ _ _, fun k c hk => vL cs off ds k c hk hle⟩
 | v x =>
  match cs, h0, hle, h1 with
  | [c], _, hle, h1 =>
   have h1' : c.one = true := by simpa using h1
   simp only [PV.cells, List.length_cons, List.length_nil] at hle
   obtain rfl : off = 0 := by omega
   show c.cells.length = _ /\ ∀ k d, c.cells[k]? = some d -> _
   rw [lz h1']
   refine ⟨rfl, fun k d hk => ?_⟩
   cases k with
   | zero => exact .inl ⟨0, rfl, hk⟩
   | succ k => simp at hk
  | a :: b :: r, _, hle, _ => simp [PV.cells] at hle; omega
 | list nl xs =>
  match cs, h0, hle, h1 with
  | [c], _, hle, h1 =>
   have h1' : c.one = true := by simpa using h1
   simp only [PV.cells, List.length_cons, List.length_nil] at hle
   obtain rfl : off = 0 := by omega
   show c.cells.length = _ /\ ∀ k d, c.cells[k]? = some d -> _
   rw [lz h1']
   refine ⟨rfl, fun k d hk => ?_⟩
   cases k with
   | zero => exact .inl ⟨0, rfl, hk⟩
   | succ k => simp at hk
  | a :: b :: r, _, hle, _ => simp [PV.cells] at hle; omega
theorem ib {xs : List PV} {sz : Nat} (h : ∀ x ∈ xs, x.cells.length = sz) {k : Nat} {c : PV} (hk : (flat xs)[k]? = some c) : ∃ (i j : Nat) (x : PV), k = i * sz + j /\ j < sz /\ xs[i]? = some x /\ x.cells[j]? = some c := by
 induction xs generalizing k with
 | nil => simp [flat] at hk
 | cons y xs ih =>
  have hy := h y (List.mem_cons_self ..)
  simp only [flat, List.flatMap_cons] at hk
  by_cases hlt : k < sz
  ·rw [List.getElem?_append_left (by omega)] at hk
   exact ⟨0, k, y, by omega, hlt, rfl, hk⟩
  ·rw [List.getElem?_append_right (by omega), hy] at hk
   obtain ⟨i, j, x, h1, h2, h3, h4⟩ := ih (fun z hz => h z (List.mem_cons_of_mem _ hz)) hk
   exact ⟨i + 1, j, x, by rw [Nat.succ_mul]; omega, h2, by simpa using h3, h4⟩
end
end Go.Abs
namespace Go.Abs
open Go.RowKit
section
variable {P : Program} {ti : TypeId -> Option TI} {H : AH} {m : Nat -> Value} {S : Nat -> Prop} {w : World}
theorem iW {v : Value} (h : v.oneCell' = true) : v.cells = #[v] := by
 cases v <;> first | rfl | (simp [Value.oneCell'] at h)
theorem RdP.cells {x : PV} {v : Value} (h : RdP S w x v) : v.cells.size = x.cells.length /\ ∀ (k : Nat) (c : PV), x.cells[k]? = some c -> ∃ u : Value, v.cells[k]? = some u /\ RdP S w c u /\ u.oneCell' = true := by
 have one : ∀ {x : PV} {v : Value}, RdP S w x v -> v.oneCell' = true -> x.cells = [x] -> v.cells = #[v] ->
   v.cells.size = x.cells.length /\ ∀ (k : Nat) (c : PV), x.cells[k]? = some c -> ∃ u : Value, v.cells[k]? = some u /\ RdP S w c u /\ u.oneCell' = true := by
  intro x v h ho hx hv
  rw [hx, hv]
  refine ⟨rfl, fun k c hk => ?_⟩
  cases k with
  | zero => simp at hk; subst hk; exact ⟨v, rfl, h, ho⟩
  | succ k => simp at hk
 cases h with
 | v _ ho => exact one (.v _ ho) ho rfl (iW ho)
 | nil => exact one .nil rfl rfl rfl
 | list xs a cap sz us hS hc hm hz hu hr => exact one (.list xs a cap sz us hS hc hm hz hu hr) rfl rfl rfl
 | agg cs vs hl ho hr =>
  refine ⟨hl, fun k c hk => ?_⟩
  have hlt : k < vs.size := by rw [hl]; exact (List.getElem?_eq_some_iff.1 hk).1
  refine ⟨vs.getD k undef, ?_, hr k c hk, ho k c hk⟩
  simp [Value.cells, Array.getD, hlt]
theorem Stp.zh (hp : Hp P H m S w) {t : TypeId} {i : TI} (hi : cA P t = some i) {id ix off : Nat} {e : TypeId} {nl : Bool} {xs : List PV} {y : PV} (hH : live H id (.buf e nl xs)) (hy : xs[ix]? = some y) {px : PV} {v : Value} (hx : RdP S w px v)
  (h1 : px.cells.all PV.one = true) (hxl : px.cells.length = i.size) (h0 : 0 < i.size) (hle : off + i.size <= y.cells.length) {va : Value} (ha : Rd P H m S w (.bp id ix off) va) :
  ∃ w', (Instr.storeAt t va v).run P w = .ok () w' /\ Stp P H m S w (H.set id (some (.buf e nl (xs.set ix (y.setAt off px.cells))))) m S w' := by
 obtain ⟨inf, us, hinf, hsz, ho, hz, hr, hn⟩ := hp.obj id _ hH
 have hlt : ix < xs.length := (List.getElem?_eq_some_iff.1 hy).1
 have hmem : y ∈ xs := by rw [<- (List.getElem?_eq_some_iff.1 hy).2]; exact List.getElem_mem ..
 have hyl := hz y hmem
 rcases ho.2 with ⟨hv, hl0⟩ | ⟨g, cap, cur, hv, hg0, hh, hc, hm, hcs, htk⟩
 ·omega
 have hva : va = .pointer (some ⟨g, ix * inf.size + off, none⟩) := by
  cases ha with
  | bp _ _ _ a hid hb =>
   obtain ⟨inf', g', l, c, h1, h2, rfl⟩ := hb _ _ _ hH
   rw [hinf] at h1
   injection h1 with h1
   subst h1
   rw [hv] at h2
   injection h2 with h2
   injection h2 with h2
   injection h2 with h2
   subst h2
   rfl
 subst hva
 obtain ⟨hs, hcell⟩ := hx.cells
 have hoc : ∀ u ∈ v.cells.toList, u.oneCell' = true := by
  intro u hu
  obtain ⟨j, hj, rfl⟩ := List.mem_iff_getElem.1 hu
  have hj' : j < px.cells.length := by rw [<- hs]; simpa using hj
  obtain ⟨u', hu', _, h3⟩ := hcell j _ (List.getElem?_eq_getElem hj')
  have hj2 : j < v.cells.size := by simpa using hj
  simp [hj2] at hu'
  simpa [hu'] using h3
 have hmul : (ix + 1) * inf.size <= xs.length * inf.size := Nat.mul_le_mul_right _ hlt
 have hmul2 : xs.length * inf.size <= cap * inf.size := Nat.mul_le_mul_right _ hc
 rw [Nat.succ_mul] at hmul
 have hvl : v.cells.toList.length = i.size := by rw [Array.length_toList, hs, hxl]
 have hfit : ix * inf.size + off + i.size <= xs.length * inf.size := by omega
 refine ⟨_, eI hi hh (by rw [hs, hxl]) hoc (by omega), ?_⟩
 have hle' : (ix * inf.size + off) + v.cells.toList.length <= cur.toList.length := by rw [hvl, Array.length_toList]; omega
 have hspec := PV.uv (y := y) (off := off) (cs := px.cells) h1 (by omega) (by omega)
 have hz' : ∀ x ∈ xs.set ix (y.setAt off px.cells), x.cells.length = inf.size := by
  intro x hx
  rcases List.mem_or_eq_of_mem_set hx with h | h
  ·exact hz x h
  ·rw [h, hspec.1, hyl]
 refine Stp.store hp (T := e) (cur := cur) hH (by show (m id).ownBlock = _; rw [hv]; rfl) hh (fun e' nl' xs' h => ?_) (by show (m id).ownBlock = _; rw [hv]; rfl) fun hk hh' => ?_
 ·injection h with h2 h3 h4
  subst h2; subst h3; subst h4
  exact ⟨_, _, rfl, by simp⟩
 ·refine ⟨inf, ((bt cur.toList (ix * inf.size + off) v.cells.toList).take (xs.length * inf.size)), hinf, hsz, ⟨?_, .inr ⟨g, cap, _, by rw [List.length_set]; exact hv, hg0, hh', by rw [List.length_set]; exact hc, hm, ?_, ?_⟩⟩, hz', fun k c hk' => ?_, hn⟩
  ·rw [List.length_take, bP hle', List.length_set]
   show min _ cur.size = _
   omega
  ·show (bt _ _ _).length = _
   rw [bP hle', Array.length_toList, hcs]
  ·rw [List.length_set]
  ·obtain ⟨i', j, x, rfl, hj, hx', hc'⟩ := ib hz' hk'
   have hi' : i' < xs.length := by have := (List.getElem?_eq_some_iff.1 hx').1; simpa using this
   have hm1 : (i' + 1) * inf.size <= xs.length * inf.size := Nat.mul_le_mul_right _ hi'
   rw [Nat.succ_mul] at hm1
   rw [List.getElem?_take, if_pos (by omega)]
   have oldcell : ∀ (x : PV), xs[i']? = some x -> x.cells[j]? = some c -> ((i' * inf.size + j) < ix * inf.size + off \/ ix * inf.size + off + v.cells.toList.length <= i' * inf.size + j) ->
     ∃ u : Value, (bt cur.toList (ix * inf.size + off) v.cells.toList)[i' * inf.size + j]? = some u /\ RdP S (w.setRow g (bt cur.toList (ix * inf.size + off) v.cells.toList).toArray) c u /\ u.oneCell' = true := by
    intro x h1 h2 h3
    obtain ⟨u, hu, hru, hu1⟩ := hr _ c (gh hz _ _ h1 _ _ h2)
    refine ⟨u, ?_, hru.mono hk (fun _ h => h), hu1⟩
    rw [eG hle' h3]
    rw [<- htk, List.getElem?_take] at hu
    split at hu
    ·exact hu
    ·cases hu
   rw [List.getElem?_set] at hx'
   by_cases hii : ix = i'
   ·subst hii
    rw [if_pos rfl, if_pos hlt] at hx'
    injection hx' with hx'
    subst hx'
    rcases hspec.2 j c hc' with ⟨j', rfl, hj'⟩ | ⟨hjo, hjc⟩
    ·have hjl : j' < v.cells.toList.length := by have := (List.getElem?_eq_some_iff.1 hj').1; omega
     obtain ⟨u, hu, hru, hu1⟩ := hcell j' c hj'
     refine ⟨u, ?_, hru.mono hk (fun _ h => h), hu1⟩
     rw [<- Nat.add_assoc, iB hle' hjl]
     simpa using hu
    ·exact oldcell y hy hjc (by omega)
   ·rw [if_neg hii] at hx'
    refine oldcell x hx' hc' ?_
    rcases Nat.lt_or_gt_of_ne hii with hlt' | hgt'
    ·right
     have : (ix + 1) * inf.size <= i' * inf.size := Nat.mul_le_mul_right _ hlt'
     rw [Nat.succ_mul] at this
     omega
    ·left
     have : (i' + 1) * inf.size <= ix * inf.size := Nat.mul_le_mul_right _ hgt'
     rw [Nat.succ_mul] at this
     omega
theorem bI (xs ys : List PV) : flat (xs ++ ys) = flat xs ++ flat ys := by simp [flat]
structure Src (S : Nat -> Prop) (w : World) (sz : Nat) (ys : List PV) (v : Value) : Prop where
 ok : ∀ x ∈ ys, x.cells.length = sz
 at_ : (ys = [] /\ ∃ a c, v = .slice a 0 c) \/ ∃ (a : Addr) (c : Nat) (news : List Value), v = .slice (some a) ys.length c /\ news.length = ys.length * sz /\ (∀ (j : Nat) (u : Value), news[j]? = some u -> w.cell? (a.add j) = some u) /\
  (∀ (k : Nat) (c : PV), (flat ys)[k]? = some c -> ∃ u : Value, news[k]? = some u /\ RdP S w c u /\ u.oneCell' = true)
theorem cJ {nl : Bool} {ys : List PV} {v : Value} {sz : Nat} (h : RdP S w (.list nl ys) v) (hsz : ∀ x ∈ ys, x.cells.length = sz) : Src S w sz ys v := by
 refine ⟨hsz, ?_⟩
 cases h with
 | nil => exact .inl ⟨rfl, _, _, rfl⟩
 | list _ a cap sz' us hS hc hm hz hu hr =>
  refine .inr ⟨a, cap, (List.range (flat ys).length).map us, rfl, by simp [aJ hsz], fun j u hj => ?_, fun k c hk => ?_⟩
  ·simp only [List.getElem?_map, Option.map_eq_some_iff] at hj
   obtain ⟨j', hj', rfl⟩ := hj
   have hlt : j < (flat ys).length := by have := (List.getElem?_eq_some_iff.1 hj').1; simpa using this
   have : j' = j := by simpa [hlt] using hj'.symm
   subst this
   exact (hu j' _ (List.getElem?_eq_getElem hlt)).1
  ·have hlt := (List.getElem?_eq_some_iff.1 hk).1
   exact ⟨us k, by simp [hlt], hr k c hk, (hu k c hk).2⟩
end
end Go.Abs
namespace Go.Abs
open Go.RowKit
section
variable {P : Program} {ti : TypeId -> Option TI} {H : AH} {m : Nat -> Value} {S : Nat -> Prop} {w : World}
theorem fa (base : Nat) (t ty e : TypeId) (i : TypeInfo) (ht : P.underlying t = some (.slice e)) (hi : P.info? e = some i)
  (v : Value) (n : Nat) (us : List Value) (hown : w.ownsRow base e i.size v n us) (c : Nat) : (Builtin.append_ #[t, t] ty #[v, .slice none 0 c]).run P w = .ok v w := by
 rcases hown.2 with ⟨rfl, rfl⟩ | ⟨g, cap, cur, rfl, _, _, hnc, _⟩
 ·simp [Builtin.append_, run_underlying ht, sizeOf, typeInfo, hi, Builtin.lenOf, Builtin.firstCells]
 ·simp [Builtin.append_, run_underlying ht, sizeOf, typeInfo, hi, Builtin.lenOf, Builtin.firstCells, hnc, storeCells]
def kill (H : AH) : Option Nat -> AH
 | some id => H.set id none
 | none => H
def BC (H : AH) (m : Nat -> Value) (e : TypeId) (ob : Option Nat) (v : Value) (nl : Bool) (xs : List PV) : Prop :=
 (ob = none /\ v = .slice none 0 0 /\ nl = true /\ xs = []) \/ ∃ id, ob = some id /\ live H id (.buf e nl xs) /\ v = m id
theorem fH {ob : Option Nat} {j : Nat} {p : AO} (h : live (kill H ob) j p) : ob ≠ some j /\ live H j p := by
 cases ob with
 | none => exact ⟨by simp, h⟩
 | some id =>
  rcases aH h with ⟨_, he⟩ | ⟨hne, hl⟩
  ·cases he
  ·exact ⟨fun e => hne (by injection e with e; exact e.symm), hl⟩
theorem ma (H : AH) (ob : Option Nat) : (kill H ob).length = H.length := by cases ob <;> simp [kill]
def vG (P : Program) (S : Nat -> Prop) (w : World) (e : TypeId) (sz : Nat) (A : Sem Value) (v : Value) (n : Nat) (us : List Value) (ys : List PV) : Prop :=
 ∃ v' w' news, A.run P w = .ok v' w' /\ w'.ownsRow 0 e sz v' (n + ys.length) (us ++ news) /\ w.grownBy w' v.ownBlock /\
   (v' = .slice none 0 0 ↔ v = .slice none 0 0 /\ ys.length = 0) /\ (v'.ownBlock = v.ownBlock \/ v'.ownBlock = some w.heap.size) /\
   ∀ (k : Nat) (c : PV), (flat ys)[k]? = some c -> ∃ u : Value, news[k]? = some u /\ RdP S w c u /\ u.oneCell' = true
theorem Stp.appendCore (hp : Hp P H m S w) {e : TypeId} {i : TypeInfo} (hi : P.info? e = some i) (hsz : 0 < i.size) {A : Sem Value}
  {ob : Option Nat} {v : Value} {nl : Bool} {xs ys : List PV} (hb : BC H m e ob v nl xs) (hs : ∀ x ∈ ys, x.cells.length = i.size)
  (hA : ∀ us, w.ownsRow 0 e i.size v xs.length us -> vG P S w e i.size A v xs.length us ys) :
  ∃ v' w', A.run P w = .ok v' w' /\
   Stp P H m S w (kill H ob ++ [some (.buf e (ys.isEmpty && nl) (xs ++ ys))]) (upd m H.length v') S w' /\
   Rd P (kill H ob ++ [some (.buf e (ys.isEmpty && nl) (xs ++ ys))]) (upd m H.length v') S w' (.buf H.length) v' := by
 have hown : ∃ us, w.ownsRow 0 e i.size v xs.length us /\ (∀ x ∈ xs, x.cells.length = i.size) /\
   (∀ (k : Nat) (c : PV), (flat xs)[k]? = some c -> ∃ u : Value, us[k]? = some u /\ RdP S w c u /\ u.oneCell' = true) /\ (nl = true ↔ v = .slice none 0 0) := by
  rcases hb with ⟨_, rfl, rfl, rfl⟩ | ⟨id, _, hl, rfl⟩
  ·exact ⟨[], World.ownsRow_nil w 0 e i.size, by simp, by simp [flat], by simp⟩
  ·obtain ⟨i', us, h1, _, h3, h4, h5, h6⟩ := hp.obj id _ hl
   rw [hi] at h1
   injection h1 with h1
   subst h1
   exact ⟨us, h3, h4, h5, h6⟩
 obtain ⟨us, ho, hzx, hrx, hnl⟩ := hown
 have hrun := hA us ho
 obtain ⟨v', w', news, hrun, hown', hgrow, hnil', hat, hry⟩ := hrun
 have hform : ∃ a l c, v' = .slice a l c := by
  rcases hown'.2 with ⟨h, _⟩ | ⟨g, cap, cur, h, _⟩
  ·exact ⟨_, _, _, h⟩
  ·exact ⟨_, _, _, h⟩
 have hlenk := ma H ob
 have hliveN : ∀ {p : AO}, live (kill H ob ++ [some (.buf e (ys.isEmpty && nl) (xs ++ ys))]) H.length p -> p = .buf e (ys.isEmpty && nl) (xs ++ ys) := by
  intro p hl
  rw [<- hlenk] at hl
  rcases bw hl with ⟨_, h⟩ | ⟨h, _⟩
  ·exact h
  ·omega
 have hupd : upd m H.length v' H.length = v' := if_pos rfl
 have hold : aW H (kill H ob ++ [some (.buf e (ys.isEmpty && nl) (xs ++ ys))]) m (upd m H.length v') := by
  refine ⟨by simp [hlenk], fun j hj p hl => ?_⟩
  rcases bw hl with ⟨h, _⟩ | ⟨_, hl'⟩
  ·omega
  ·exact ⟨if_neg (by omega), p, (fH hl').2, fun e nl xs he => ⟨nl, xs, he, Nat.le_refl _⟩, fun _ _ l he => ⟨l, he⟩⟩
 have hblkv : ∀ b, v.ownBlock = some b -> ∃ id, ob = some id /\ live H id (.buf e nl xs) /\ Abs.blk (m id) (.buf e nl xs) = some b := by
  intro b hbv
  rcases hb with ⟨_, rfl, _⟩ | ⟨id, h1, h2, rfl⟩
  ·cases hbv
  ·exact ⟨id, h1, h2, hbv⟩
 have hzall : ∀ x ∈ xs ++ ys, x.cells.length = i.size := fun x hx => (List.mem_append.1 hx).elim (hzx x) (hs x)
 refine ⟨v', w', hrun, ?_, ?_⟩
 ·refine Stp.at_ (fun j => j = H.length \/ ob = some j) hp hold (fun j p hj hl => ?_) hgrow.os hgrow.tape hgrow.output hgrow.size (fun b hlt hn => ?_) (fun j p hj hl hk => ?_) (fun j p b hj hl hbb => ?_) (fun i j oi oj b hi' hj' hli hlj _ _ => ?_)
  ·rcases bw hl with ⟨h, _⟩ | ⟨hlt, hl'⟩
   ·rw [hlenk] at h; exact absurd (.inl h) hj
   ·rw [hlenk] at hlt
    exact ⟨(fH hl').2, if_neg (by omega)⟩
  ·refine hgrow.block b hlt fun he => ?_
   obtain ⟨id, h1, h2, h3⟩ := hblkv b he.symm
   exact hn id _ (.inr h1) h2 h3
  ·rcases bw hl with ⟨h, hpe⟩ | ⟨hlt, hl'⟩
   ·rw [hlenk] at h
    subst h
    have := hliveN hl
    subst this
    rw [hupd]
    refine ⟨i, us ++ news, hi, hsz, by rw [List.length_append]; exact hown', hzall, fun k c hk' => ?_, ?_⟩
    ·rw [bI] at hk'
     have hul : us.length = (flat xs).length := by rw [ho.1, aJ hzx]
     by_cases hkl : k < (flat xs).length
     ·rw [List.getElem?_append_left hkl] at hk'
      obtain ⟨u, hu, h1, h2⟩ := hrx k c hk'
      exact ⟨u, by rw [List.getElem?_append_left (by omega)]; exact hu, h1.mono hk (fun _ h => h), h2⟩
     ·rw [List.getElem?_append_right (by omega)] at hk'
      obtain ⟨u, hu, h1, h2⟩ := hry _ c hk'
      exact ⟨u, by rw [List.getElem?_append_right (by omega), hul]; exact hu, h1.mono hk (fun _ h => h), h2⟩
    ·rw [hnil', <- hnl, Bool.and_eq_true, List.isEmpty_iff]
     constructor
     ·rintro ⟨rfl, h⟩; exact ⟨h, rfl⟩
     ·rintro ⟨h, h0⟩; exact ⟨List.eq_nil_of_length_eq_zero h0, h⟩
   ·rw [hlenk] at hlt
    rcases hj with rfl | hj
    ·omega
    ·exact absurd hj (fH hl').1
  ·rcases bw hl with ⟨h, hpe⟩ | ⟨hlt, hl'⟩
   ·rw [hlenk] at h
    subst h
    subst hpe
    rw [hupd] at hbb
    rcases hat with h | h
    ·have hbb' : v.ownBlock = some b := h.symm.trans hbb
     obtain ⟨id, h1, h2, h3⟩ := hblkv b hbb'
     exact .inl ⟨id, _, .inr h1, h2, h3⟩
    ·have hbb' : v'.ownBlock = some b := hbb
     rw [h] at hbb'
     injection hbb' with hbb'
     exact .inr (by omega)
   ·rw [hlenk] at hlt
    rcases hj with rfl | hj
    ·omega
    ·exact absurd hj (fH hl').1
  ·have key : ∀ {j p}, (j = H.length \/ ob = some j) -> live (kill H ob ++ [some (.buf e (ys.isEmpty && nl) (xs ++ ys))]) j p -> j = H.length := by
    intro j p hj hl
    rcases bw hl with ⟨h, _⟩ | ⟨hlt, hl'⟩
    ·rw [hlenk] at h; exact h
    ·rcases hj with h | h
     ·exact h
     ·exact absurd h (fH hl').1
   exact (key hi' hli).trans (key hj' hlj).symm
 ·obtain ⟨a, l, c, rfl⟩ := hform
  exact .buf _ _ _ _ (by simp [hlenk]) fun o hl => hupd
theorem Stp.append (hp : Hp P H m S w) {t ty e : TypeId} {i : TypeInfo} {z : Value} (ht : P.underlying t = some (.slice e)) (hi : P.info? e = some i) (hz : i.zero = some z) (hzs : z.cells.size = i.size) (hsz : 0 < i.size)
  {ob : Option Nat} {v : Value} {nl : Bool} {xs ys : List PV} {vs : Value} (hb : BC H m e ob v nl xs) (hs : Src S w i.size ys vs) (h63 : xs.length + ys.length <= maxLen) (hbytes : (xs.length + ys.length) * i.bytes <= 140737488355328) :
  ∃ v' w', (Builtin.append_ #[t, t] ty #[v, vs]).run P w = .ok v' w' /\
   Stp P H m S w (kill H ob ++ [some (.buf e (ys.isEmpty && nl) (xs ++ ys))]) (upd m H.length v') S w' /\
   Rd P (kill H ob ++ [some (.buf e (ys.isEmpty && nl) (xs ++ ys))]) (upd m H.length v') S w' (.buf H.length) v' := by
 refine Stp.appendCore hp hi hsz hb hs.ok fun us ho => ?_
 unfold vG
 have some_ : ∀ (a : Addr) (c : Nat) (news : List Value), vs = .slice (some a) ys.length c -> news.length = ys.length * i.size -> (∀ (j : Nat) (u : Value), news[j]? = some u -> w.cell? (a.add j) = some u) ->
   (∀ (k : Nat) (c : PV), (flat ys)[k]? = some c -> ∃ u : Value, news[k]? = some u /\ RdP S w c u /\ u.oneCell' = true) -> ∃ v' w' news, (Builtin.append_ #[t, t] ty #[v, vs]).run P w = .ok v' w' /\ w'.ownsRow 0 e i.size v' (xs.length + ys.length) (us ++ news) /\ w.grownBy w' v.ownBlock /\
  (v' = .slice none 0 0 ↔ v = .slice none 0 0 /\ ys.length = 0) /\ (v'.ownBlock = v.ownBlock \/ v'.ownBlock = some w.heap.size) /\
  ∀ (k : Nat) (c : PV), (flat ys)[k]? = some c -> ∃ u : Value, news[k]? = some u /\ RdP S w c u /\ u.oneCell' = true := by
  rintro a c news rfl hl hat hr
  have h1 : ∀ u ∈ news, u.oneCell' = true := by
   intro u hu
   obtain ⟨j, hj, rfl⟩ := List.mem_iff_getElem.1 hu
   have hjf : j < (flat ys).length := by rw [aJ hs.ok]; omega
   obtain ⟨u', hu', _, h1⟩ := hr j _ (List.getElem?_eq_getElem hjf)
   rw [List.getElem?_eq_getElem hj] at hu'
   injection hu' with hu'
   rw [hu']
   exact h1
  obtain ⟨v', w', h2, h3, h4, h5, h6⟩ := run_append_own_at (P := P) w 0 t ty e i z i.size i.bytes ht hi hz rfl rfl hzs hsz v xs.length us ho a ys.length c news hl hat h1 h63 hbytes (Nat.zero_le _)
  exact ⟨v', w', news, h2, h3, h4, h5, h6, hr⟩
 rcases hs.at_ with ⟨rfl, a, c, rfl⟩ | ⟨a, c, news, h1, h2, h3, h4⟩
 ·rcases a with _ | a
  ·refine ⟨v, w, [], fa 0 t ty e i ht hi v _ us ho c, by simpa using ho, ⟨rfl, rfl, rfl, Nat.le_refl _, fun _ _ _ => rfl⟩, by simp, .inl rfl, by simp [flat]⟩
  ·exact some_ a c [] rfl (by simp) (by simp) (by simp [flat])
 ·exact some_ a c news h1 h2 h3 h4
end
end Go.Abs
namespace Go.Abs
open Go.RowKit
inductive CpA (xs ys : List PV) (lo hi : Nat) (k : Nat -> List PV -> Prop) : Prop
 | mk (n : Nat) (zs : List PV) (hn : min (hi - lo) ys.length = n) (hz : xs.take lo ++ ys.take n ++ xs.drop (lo + n) = zs) (hk : k n zs) : CpA xs ys lo hi k
section
variable {P : Program} {ti : TypeId -> Option TI} {H : AH} {m : Nat -> Value} {S : Nat -> Prop} {w : World}
theorem uT {xs ys : List PV} {lo : Nat} (h : lo + ys.length <= xs.length) : (xs.take lo ++ ys ++ xs.drop (lo + ys.length)).length = xs.length := by
 simp; omega
theorem Cq {xs ys : List PV} {lo : Nat} (h : lo + ys.length <= xs.length) (i : Nat) : (xs.take lo ++ ys ++ xs.drop (lo + ys.length))[i]? = if i < lo then xs[i]? else if i < lo + ys.length then ys[i - lo]? else xs[i]? := by
 have hl : (xs.take lo).length = lo := by rw [List.length_take]; omega
 rw [List.append_assoc, List.getElem?_append, hl]
 split
 ·rename_i h1
  rw [List.getElem?_take, if_pos h1]
 ·rename_i h1
  rw [List.getElem?_append]
  split
  ·rename_i h2
   rw [if_pos (by omega)]
  ·rename_i h2
   rw [if_neg (by omega), List.getElem?_drop]
   congr 1; omega
theorem Stp.bt (hp : Hp P H m S w) {id : Nat} {e : TypeId} {nl : Bool} {xs : List PV} (hH : live H id (.buf e nl xs)) {inf : TypeInfo} (hinf : P.info? e = some inf) {lo : Nat} {ys : List PV} {vs : List Value} (hlo : lo + ys.length <= xs.length) (h0 : 0 < ys.length)
  (hzy : ∀ y ∈ ys, y.cells.length = inf.size) (hvl : vs.length = ys.length * inf.size) (hv : ∀ (k : Nat) (c : PV), (flat ys)[k]? = some c -> ∃ u : Value, vs[k]? = some u /\ RdP S w c u /\ u.oneCell' = true) :
  ∃ g cap cur, m id = .slice (some ⟨g, 0, none⟩) xs.length cap /\ xs.length <= cap /\ w.heap[g]? = some (.cells cur e (0, 0)) /\ lo * inf.size + vs.length <= cur.size /\
   Stp P H m S w (H.set id (some (.buf e nl (xs.take lo ++ ys ++ xs.drop (lo + ys.length))))) m S (w.setRow g (Abs.bt cur.toList (lo * inf.size) vs).toArray) := by
 obtain ⟨inf', us, hinf', hsz, ho, hz, hr, hn⟩ := hp.obj id _ hH
 rw [hinf] at hinf'
 injection hinf' with hinf'
 subst hinf'
 rcases ho.2 with ⟨hv', hl0⟩ | ⟨g, cap, cur, hvm, hg0, hh, hc, hm, hcs, htk⟩
 ·omega
 have hm1 : (lo + ys.length) * inf.size <= xs.length * inf.size := Nat.mul_le_mul_right _ hlo
 have hm2 : xs.length * inf.size <= cap * inf.size := Nat.mul_le_mul_right _ hc
 rw [Nat.add_mul] at hm1
 have hle' : lo * inf.size + vs.length <= cur.toList.length := by rw [show cur.toList.length = cur.size from Array.length_toList]; omega
 have hlz := uT hlo
 have hz' : ∀ x ∈ xs.take lo ++ ys ++ xs.drop (lo + ys.length), x.cells.length = inf.size := by
  intro x hx
  rcases List.mem_append.1 hx with hx | hx
  ·rcases List.mem_append.1 hx with hx | hx
   ·exact hz x (List.mem_of_mem_take hx)
   ·exact hzy x hx
  ·exact hz x (List.mem_of_mem_drop hx)
 refine ⟨g, cap, cur, hvm, hc, hh, by simpa using hle', ?_⟩
 refine Stp.store hp (T := e) (cur := cur) hH (by show (m id).ownBlock = _; rw [hvm]; rfl) hh (fun e' nl' xs' h => ?_) (by show (m id).ownBlock = _; rw [hvm]; rfl) fun hk hh' => ?_
 ·injection h with h2 h3 h4
  subst h2; subst h3; subst h4
  exact ⟨_, _, rfl, by rw [hlz]; exact Nat.le_refl _⟩
 ·refine ⟨inf, ((Abs.bt cur.toList (lo * inf.size) vs).take (xs.length * inf.size)), hinf, hsz, ⟨?_, .inr ⟨g, cap, _, by rw [hlz]; exact hvm, hg0, hh', by rw [hlz]; exact hc, hm, ?_, ?_⟩⟩, hz', fun k c hk' => ?_, hn⟩
  ·rw [List.length_take, bP hle', hlz]
   show min _ cur.size = _
   omega
  ·show (Abs.bt _ _ _).length = _
   rw [bP hle', Array.length_toList, hcs]
  ·rw [hlz]
  ·obtain ⟨i', j, x, rfl, hj, hx', hc'⟩ := ib hz' hk'
   have hi' : i' < xs.length := by have := (List.getElem?_eq_some_iff.1 hx').1; rw [<- hlz]; exact this
   have hm3 : (i' + 1) * inf.size <= xs.length * inf.size := Nat.mul_le_mul_right _ hi'
   rw [Nat.succ_mul] at hm3
   rw [List.getElem?_take, if_pos (by omega)]
   have oldcell : xs[i']? = some x -> ((i' * inf.size + j) < lo * inf.size \/ lo * inf.size + vs.length <= i' * inf.size + j) ->
     ∃ u : Value, (Abs.bt cur.toList (lo * inf.size) vs)[i' * inf.size + j]? = some u /\ RdP S (w.setRow g (Abs.bt cur.toList (lo * inf.size) vs).toArray) c u /\ u.oneCell' = true := by
    intro h1 h3
    obtain ⟨u, hu, hru, hu1⟩ := hr _ c (gh hz _ _ h1 _ _ hc')
    refine ⟨u, ?_, hru.mono hk (fun _ h => h), hu1⟩
    rw [eG hle' h3]
    rw [<- htk, List.getElem?_take] at hu
    split at hu
    ·exact hu
    ·cases hu
   rw [Cq hlo] at hx'
   split at hx'
   ·rename_i h1
    refine oldcell hx' (.inl ?_)
    have : (i' + 1) * inf.size <= lo * inf.size := Nat.mul_le_mul_right _ h1
    rw [Nat.succ_mul] at this
    omega
   ·split at hx'
    ·rename_i h1 h2
     obtain ⟨u, hu, hru, hu1⟩ := hv _ c (gh hzy _ _ hx' _ _ hc')
     refine ⟨u, ?_, hru.mono hk (fun _ h => h), hu1⟩
     have e1 : i' * inf.size + j = lo * inf.size + ((i' - lo) * inf.size + j) := by
      have : i' = lo + (i' - lo) := by omega
      have e2 : i' * inf.size = lo * inf.size + (i' - lo) * inf.size := by rw [<- Nat.add_mul, <- this]
      omega
     rw [e1, iB hle' (by have := (List.getElem?_eq_some_iff.1 hu).1; exact this)]
     exact hu
    ·rename_i h1 h2
     refine oldcell hx' (.inr ?_)
     have : (lo + ys.length) * inf.size <= i' * inf.size := Nat.mul_le_mul_right _ (by omega)
     rw [Nat.add_mul] at this
     omega
theorem ng (hp : Hp P H m S w) {id lo hi : Nat} {e : TypeId} {nl : Bool} {xs : List PV} (hl : live H id (.buf e nl xs)) {i : TypeInfo} (hi' : P.info? e = some i) {v : Value} (hr : Rd P H m S w (.sub id lo hi) v) :
  Src S w i.size ((xs.take hi).drop lo) v /\ lo <= hi /\ hi <= xs.length := by
 obtain ⟨i', us, h1, _, ho, hz, hru, _⟩ := hp.obj id _ hl
 rw [hi'] at h1
 injection h1 with h1
 subst h1
 cases hr with
 | sub _ _ _ a l c hid h =>
  obtain ⟨i2, a0, l0, c0, g1, g2, g3, g4, rfl, rfl, gn, ga⟩ := h _ _ _ hl
  rw [hi'] at g1
  injection g1 with g1
  subst g1
  have hlen : ((xs.take hi).drop lo).length = hi - lo := by simp; omega
  have hz2 : ∀ x ∈ (xs.take hi).drop lo, x.cells.length = i.size := fun x hx => hz x (List.mem_of_mem_take (List.mem_of_mem_drop hx))
  refine ⟨⟨hz2, ?_⟩, g3, g4⟩
  rcases ho.2 with ⟨hv, h0⟩ | ⟨g, cap, cur, hv, _, hh, hcap, _⟩
  ·refine .inl ⟨List.eq_nil_of_length_eq_zero (by omega), ?_⟩
   rw [show hi - lo = 0 by omega]
   exact ⟨_, _, rfl⟩
  ·rw [g2] at hv
   injection hv with hv1 hv2 hv3
   subst hv1; subst hv3
   by_cases hc : c0 = lo
   ·refine .inl ⟨List.eq_nil_of_length_eq_zero (by omega), ?_⟩
    rw [show hi - lo = 0 by omega]
    exact ⟨_, _, rfl⟩
   ·have ga := ga hc
    subst ga
    have hm : hi * i.size <= xs.length * i.size := Nat.mul_le_mul_right _ g4
    have hm2 : lo * i.size <= hi * i.size := Nat.mul_le_mul_right _ g3
    have hus := ho.1
    have hcell := ho.cells (by rw [g2]; rfl)
    have key : ∀ k, (flat ((xs.take hi).drop lo))[k]? = if k < (hi - lo) * i.size then (flat xs)[lo * i.size + k]? else none := by
     intro k
     split
     ·rename_i hk
      obtain ⟨c, hc⟩ : ∃ c, (flat ((xs.take hi).drop lo))[k]? = some c := ⟨_, List.getElem?_eq_getElem (by rw [aJ hz2, hlen]; exact hk)⟩
      obtain ⟨q, j, x, rfl, hj, hx, hcx⟩ := ib hz2 hc
      rw [hc]
      rw [List.getElem?_drop, List.getElem?_take] at hx
      split at hx
      ·have := gh hz _ _ hx _ _ hcx
       rw [Nat.add_mul] at this
       rw [<- this]; congr 1; omega
      ·cases hx
     ·rename_i hk
      exact List.getElem?_eq_none (by rw [aJ hz2, hlen]; omega)
    refine .inr ⟨⟨g, lo * i.size, none⟩, c0 - lo, (us.drop (lo * i.size)).take ((hi - lo) * i.size), ?_, ?_, fun j u hj => ?_, fun k c hk => ?_⟩
    ·rw [hlen]
     show Value.slice (some ((⟨g, 0, none⟩ : Addr).add (lo * i.size))) _ _ = _
     rw [add_lit, Nat.zero_add]
    ·rw [List.length_take, List.length_drop, hus, hlen, Nat.sub_mul]; omega
    ·rw [List.getElem?_take] at hj
     split at hj
     ·rw [List.getElem?_drop] at hj
      have := hcell _ _ hj
      rw [add_lit, Nat.zero_add] at this
      rw [add_lit]
      exact this
     ·cases hj
    ·rw [key] at hk
     split at hk
     ·rename_i hlt
      obtain ⟨u, h1, h2, h3⟩ := hru _ _ hk
      exact ⟨u, by rw [List.getElem?_take, if_pos hlt, List.getElem?_drop]; exact h1, h2, h3⟩
     ·cases hk
def kV (H : AH) (e : TypeId) (sz : Nat) (x : AV) (k : List PV -> Prop) : Prop := match x with
 | .p (.list _ ys) => SzA ys sz (k ys)
 | .buf id2 => match H[id2]? with
  | some (some (.buf e2 _ ys)) => match Nat.beq e e2 with
   | true => k ys
   | false => False
  | some (some (.frz _ ys)) => SzA ys sz (k ys)
  | _ => False
 | .sub id2 lo hi => match H[id2]? with
  | some (some (.buf e2 _ ys)) => match Nat.beq e e2 with
   | true => k ((ys.take hi).drop lo)
   | false => False
  | _ => False
 | _ => False
def pW (H : AH) (e : TypeId) (x : AV) (k : Nat -> Bool -> List PV -> Nat -> Nat -> Prop) : Prop := match x with
 | .buf id => match H[id]? with
  | some (some (.buf e2 nl xs)) => match Nat.beq e e2 with
   | true => k id nl xs 0 xs.length
   | false => False
  | _ => False
 | .sub id lo hi => match H[id]? with
  | some (some (.buf e2 nl xs)) => match Nat.beq e e2 with
   | true => k id nl xs lo hi
   | false => False
  | _ => False
 | _ => False
theorem zj {sz n : Nat} {ys : List PV} {v : Value} (h : Src S w sz ys v) (hn : n <= ys.length) (h0 : 0 < n) : ∃ (a : Addr) (c : Nat) (news : List Value), v = .slice (some a) ys.length c /\ news.length = n * sz /\ (∀ (j : Nat) (u : Value), news[j]? = some u -> w.cell? (a.add j) = some u) /\
  (∀ (k : Nat) (c : PV), (flat (ys.take n))[k]? = some c -> ∃ u : Value, news[k]? = some u /\ RdP S w c u /\ u.oneCell' = true) := by
 rcases h.at_ with ⟨rfl, _⟩ | ⟨a, c, news, h1, h2, h3, h4⟩
 ·simp at hn; omega
 ·have hm : n * sz <= ys.length * sz := Nat.mul_le_mul_right _ hn
  refine ⟨a, c, news.take (n * sz), h1, by rw [List.length_take]; omega, fun j u hj => ?_, fun k c hk => ?_⟩
  ·rw [List.getElem?_take] at hj
   split at hj
   ·exact h3 j u hj
   ·cases hj
  ·have hlt : k < n * sz := by
    have := (List.getElem?_eq_some_iff.1 hk).1
    rw [aJ (fun x hx => h.ok x (List.mem_of_mem_take hx)), List.length_take] at this
    rwa [show min n ys.length = n by omega] at this
   have e1 : flat ys = flat (ys.take n) ++ flat (ys.drop n) := by rw [<- bI, List.take_append_drop]
   have : (flat ys)[k]? = some c := by rw [e1, List.getElem?_append_left (List.getElem?_eq_some_iff.1 hk).1]; exact hk
   obtain ⟨u, h5, h6, h7⟩ := h4 k c this
   exact ⟨u, by rw [List.getElem?_take, if_pos hlt]; exact h5, h6, h7⟩
theorem w5 (dT sT ty elem : TypeId) (inf : TypeInfo) (g o dLen dCap : Nat) (a : Addr) (sLen sCap n : Nat) (cur : Array Value) (t : TypeId) (cs : List Value)
  (hu : P.underlying dT = some (.slice elem)) (hi : P.info? elem = some inf) (hg : w.heap[g]? = some (.cells cur t (0, 0))) (hn : n = Nat.min sLen dLen) (hl : cs.length = n * inf.size)
  (hsrc : ∀ j v, cs[j]? = some v -> w.cell? (a.add j) = some v) (hfit : o + cs.length <= cur.size) (h1 : ∀ v ∈ cs, v.oneCell' = true) :
  (Builtin.copy_ #[dT, sT] ty #[.slice (some ⟨g, o, none⟩) dLen dCap, .slice (some a) sLen sCap]).run P w = .ok (.int .i64 n) (w.setRow g (Abs.bt cur.toList o cs).toArray) := by
 have hld := run_loadCells_list (P := P) w a cs hsrc
 have hst := run_storeCells_at P g o t cs 0 cur w hg (by simpa using hfit) h1
 rw [hl] at hld
 simp [Builtin.copy_, run_underlying hu, Builtin.lenOf, Builtin.firstCells, sizeOf, typeInfo, hi, <- hn, hld, hst, goInt, Abs.bt, List.append_assoc]
theorem w6 (dT sT ty elem : TypeId) (inf : TypeInfo) (d a : Option Addr) (dLen dCap sLen sCap : Nat) (hu : P.underlying dT = some (.slice elem)) (hi : P.info? elem = some inf) (hn : 0 = Nat.min sLen dLen) :
  (Builtin.copy_ #[dT, sT] ty #[.slice d dLen dCap, .slice a sLen sCap]).run P w = .ok (.int .i64 0) w := by
 have hld : ∀ a : Addr, (loadCells a 0).run P w = .ok #[] w := fun a => run_loadCells_list (P := P) w a [] (by simp)
 cases d <;> cases a <;> simp [Builtin.copy_, run_underlying hu, Builtin.lenOf, Builtin.firstCells, sizeOf, typeInfo, hi, <- hn, goInt, hld, storeCells]
def mT (ti : TypeId -> Option TI) (H : AH) (t : TypeId) (x y : AV) (k : AV -> AH -> Prop) : Prop := match ti t with
 | some ⟨.sl e, _, _, _⟩ => match ti e with
  | some ⟨_, sz + 1, _, _⟩ => pW H e x fun id nl xs lo hi => kV H e (sz + 1) y fun ys => CpA xs ys lo hi fun n zs => k (.p (.v (.int .i64 n))) (H.set id (some (.buf e nl zs)))
  | _ => False
 | _ => False
def jT (ti : TypeId -> Option TI) (H : AH) (t : TypeId) (x : AV) (k : AV -> AH -> Prop) : Prop := match ti t with
 | some ⟨.sl e, _, _, _⟩ => match ti e with
  | some ⟨_, _ + 1, _, z⟩ => pW H e x fun id nl xs lo hi => IsL (xs.take lo ++ List.replicate (hi - lo) (pz z) ++ xs.drop hi) fun zs => k (.tup []) (H.set id (some (.buf e nl zs)))
  | _ => False
 | _ => False
theorem nh (hp : Hp P H m S w) {id : Nat} {e : TypeId} {nl : Bool} {ys : List PV} (hl : live H id (.buf e nl ys)) {i : TypeInfo} (hi : P.info? e = some i) : Src S w i.size ys (m id) := by
 obtain ⟨i', us, h1, _, ho, hz, hr, _⟩ := hp.obj id _ hl
 rw [hi] at h1
 injection h1 with h1
 subst h1
 refine ⟨hz, ?_⟩
 rcases ho.2 with ⟨hv, h0⟩ | ⟨g, cap, cur, hv, _⟩
 ·exact .inl ⟨List.eq_nil_of_length_eq_zero h0, _, _, hv⟩
 ·exact .inr ⟨_, _, us, hv, ho.1, ho.cells (by rw [hv]; rfl), hr⟩
theorem qB (hp : Hp P H m S w) {e : TypeId} {x : AV} {vx : Value} {k : List PV -> Prop} {i : TypeInfo} (hi : P.info? e = some i) (h : kV H e i.size x k) (hx : Rd P H m S w x vx) : ∃ ys, k ys /\ Src S w i.size ys vx := by
 unfold kV at h
 split at h
 ·cases hx with | p _ _ hr => exact ⟨_, h.2, cJ hr h.1⟩
 ·rename_i id2
  split at h
  ·rename_i e2 nl2 ys hH
   split at h
   ·rename_i hbe
    obtain rfl := Nat.eq_of_beq_eq_true hbe
    have hv := hx.bX hH
    subst hv
    exact ⟨_, h, nh hp hH hi⟩
   ·cases h
  ·rename_i nl2 ys hH
   have hv := hx.bX hH
   subst hv
   exact ⟨_, h.2, cJ (hp.obj _ _ hH) h.1⟩
  ·cases h
 ·rename_i id2 lo hi2
  split at h
  ·rename_i e2 nl2 ys hH
   split at h
   ·rename_i hbe
    obtain rfl := Nat.eq_of_beq_eq_true hbe
    exact ⟨_, h, (ng hp hH hi hx).1⟩
   ·cases h
  ·cases h
 ·cases h
structure Dst (P : Program) (H : AH) (m : Nat -> Value) (e : TypeId) (inf : TypeInfo) (id : Nat) (nl : Bool) (xs : List PV) (lo hi : Nat) (v : Value) : Prop where
 live : live H id (.buf e nl xs)
 le : lo <= hi /\ hi <= xs.length
 at_ : ∃ a c, v = .slice a (hi - lo) c /\ ∀ g c0, m id = .slice (some ⟨g, 0, none⟩) xs.length c0 -> xs.length <= c0 -> lo < hi -> a = some ⟨g, lo * inf.size, none⟩
theorem lL (hp : Hp P H m S w) {e : TypeId} {x : AV} {vx : Value} {k : Nat -> Bool -> List PV -> Nat -> Nat -> Prop} {i : TypeInfo} (hi : P.info? e = some i) (h : pW H e x k) (hx : Rd P H m S w x vx) : ∃ id nl xs lo hi, k id nl xs lo hi /\ Dst P H m e i id nl xs lo hi vx := by
 unfold pW at h
 split at h
 ·rename_i id
  split at h
  ·rename_i e2 nl2 xs hH
   split at h
   ·rename_i hbe
    obtain rfl := Nat.eq_of_beq_eq_true hbe
    have hv := hx.bX hH
    subst hv
    refine ⟨_, _, _, _, _, h, hH, ⟨Nat.zero_le _, Nat.le_refl _⟩, ?_⟩
    obtain ⟨i', us, h1, _, ho, hz, hr, _⟩ := hp.obj id _ hH
    rcases ho.2 with ⟨hv, h0⟩ | ⟨g, cap, cur, hv, _⟩
    ·refine ⟨none, 0, by rw [hv, h0], fun g c0 h2 h3 h4 => ?_⟩
     omega
    ·refine ⟨_, cap, hv, fun g' c0 h2 h3 h4 => ?_⟩
     rw [hv] at h2
     injection h2 with h2
     rw [h2, Nat.zero_mul]
   ·cases h
  ·cases h
 ·rename_i id lo hi2
  split at h
  ·rename_i e2 nl2 xs hH
   split at h
   ·rename_i hbe
    obtain rfl := Nat.eq_of_beq_eq_true hbe
    have hs := ng hp hH hi hx
    refine ⟨_, _, _, _, _, h, hH, hs.2, ?_⟩
    cases hx with
    | sub _ _ _ a l c hid h =>
     obtain ⟨i2, a0, l0, c0, g1, g2, g3, g4, rfl, rfl, gn, ga⟩ := h _ _ _ hH
     rw [hi] at g1
     injection g1 with g1
     subst g1
     refine ⟨_, _, rfl, fun g c0' h2 h3 h4 => ?_⟩
     rw [g2] at h2
     injection h2 with h5 h6 h7
     subst h5; subst h7
     rw [ga (by omega)]
     show some ((⟨g, 0, none⟩ : Addr).add (lo * i.size)) = _
     rw [add_lit, Nat.zero_add]
   ·cases h
  ·cases h
 ·cases h
theorem dF {id : Nat} {o : AO} (h : live H id o) : H.set id (some o) = H := by
 apply List.ext_getElem?
 intro j
 rw [List.getElem?_set]
 split
 ·rename_i hj
  subst hj
  unfold Abs.live at h
  rw [h]
  rw [if_pos (List.getElem?_eq_some_iff.1 h).1]
 ·rfl
theorem qE (hT : aK P ti) (hp : Hp P H m S w) {t t' ty : TypeId} {x y : AV} {vx vy : Value} {k : AV -> AH -> Prop} (h : mT ti H t x y k) (hx : Rd P H m S w x vx) (hy : Rd P H m S w y vy) :
  ∃ av H' v w', k av H' /\ (Builtin.copy_ #[t, t'] ty #[vx, vy]).run P w = .ok v w' /\ Stp P H m S w H' m S w' /\ Rd P H' m S w' av v := by
 unfold mT at h
 split at h
 ·rename_i e s1 b1 z1 hti
  have hu := bF (hT.ok _ _ hti) rfl
  split at h
  ·rename_i ke sz by_ z hte
   obtain ⟨inf, d, hinf, hd, hz, hsz, hby, _, hzs, _⟩ := aE (hT.ok _ _ hte)
   simp only at hsz
   obtain ⟨id, nl, xs, lo, hi, h, hdl, hdle, a, c, rfl, hda⟩ := lL hp hinf h hx
   rw [show sz + 1 = inf.size from hsz.symm] at h
   obtain ⟨ys, ⟨n, zs, hn, rfl, hk⟩, hsrc⟩ := qB hp hinf h hy
   rcases Nat.eq_zero_or_pos n with h0 | h0
   ·subst h0
    have hzs2 : xs.take lo ++ ys.take 0 ++ xs.drop (lo + 0) = xs := by simp
    rw [hzs2, dF hdl] at hk
    have hvy : ∃ a l c, vy = .slice a l c /\ l = ys.length := by
     rcases hsrc.at_ with ⟨rfl, a, c, rfl⟩ | ⟨a, c, news, rfl, _⟩
     ·exact ⟨_, _, _, rfl, rfl⟩
     ·exact ⟨_, _, _, rfl, rfl⟩
    obtain ⟨a2, l2, c2, rfl, hl2⟩ := hvy
    exact ⟨_, _, _, _, hk, w6 t t' ty e inf a a2 _ _ _ _ hu hinf (by show 0 = min l2 (hi - lo); omega), Stp.refl hp, Rd.mk rfl⟩
   ·obtain ⟨a2, c2, news, rfl, hnl, hnat, hnr⟩ := zj hsrc (show n <= ys.length by omega) h0
    have htl : (ys.take n).length = n := by rw [List.length_take]; omega
    obtain ⟨g, cap, cur, hm, hcap, hh, hfit, hst⟩ := Stp.bt hp hdl hinf (lo := lo) (ys := ys.take n) (vs := news) (by rw [htl]; omega) (by omega) (fun q hq => hsrc.ok q (List.mem_of_mem_take hq)) (by rw [htl]; exact hnl) hnr
    rw [htl] at hst
    obtain rfl := hda g cap hm hcap (by omega)
    have h1 : ∀ v ∈ news, v.oneCell' = true := by
     intro v hv
     obtain ⟨j, hj, rfl⟩ := List.getElem_of_mem hv
     have hf : j < (flat (ys.take n)).length := by rw [aJ (sz := inf.size) (fun q hq => hsrc.ok q (List.mem_of_mem_take hq)), htl, <- hnl]; exact hj
     obtain ⟨u, h2, _, h3⟩ := hnr j _ (List.getElem?_eq_getElem hf)
     rw [List.getElem?_eq_getElem hj] at h2
     injection h2 with h2
     rw [h2]; exact h3
    refine ⟨_, _, _, _, hk, w5 t t' ty e inf g (lo * inf.size) _ _ a2 _ _ n cur e news hu hinf hh (by show n = min ys.length (hi - lo); omega) hnl hnat hfit h1, hst, Rd.mk rfl⟩
  ·cases h
 ·cases h
theorem uw (t e : TypeId) (inf : TypeInfo) (ty : TypeId) (z : Value) (g o n c : Nat) (cur : Array Value) (T : TypeId) (hu : P.underlying t = some (.slice e)) (hi : P.info? e = some inf) (hz : inf.zero = some z) (hzs : z.cells.size = inf.size) (hg : w.heap[g]? = some (.cells cur T (0, 0))) (h0 : 0 < n)
  (hfit : o + n * inf.size <= cur.size) (h1 : ∀ v ∈ z.cells, v.oneCell' = true) :
  (Builtin.clear_ #[t] ty #[.slice (some ⟨g, o, none⟩) n c]).run P w = .ok (.tuple #[]) (w.setRow g (Abs.bt cur.toList o (Builtin.zeroCells z.cells n).toList).toArray) := by
 have hlen : (Builtin.zeroCells z.cells n).toList.length = n * inf.size := by simp [Builtin.zeroCells, hzs]
 have hst := run_storeCells_at P g o T (Builtin.zeroCells z.cells n).toList 0 cur w hg (by rw [hlen]; omega) (fun v hv => by
  rw [Builtin.zeroCells, Array.toList_map] at hv
  obtain ⟨k, hk, rfl⟩ := List.mem_map.1 hv
  have hk' : k < n * z.cells.size := by simpa using hk
  have hp : 0 < z.cells.size := by
   rcases Nat.eq_zero_or_pos z.cells.size with h | h
   ·rw [h] at hk'; omega
   ·exact h
  have hml := Nat.mod_lt k hp
  have e1 : z.cells[k % z.cells.size]! = z.cells[k % z.cells.size] := by simp [hml]
  rw [e1]
  exact h1 _ (Array.getElem_mem hml))
 obtain ⟨n, rfl⟩ : ∃ k, n = k + 1 := ⟨n - 1, by omega⟩
 simp [Builtin.clear_, run_underlying hu, zeroValue, typeInfo, hi, hz, hst, Abs.bt, List.append_assoc]
theorem o_ (hT : aK P ti) (hp : Hp P H m S w) {t ty : TypeId} {x : AV} {vx : Value} {k : AV -> AH -> Prop} (h : jT ti H t x k) (hx : Rd P H m S w x vx) :
  ∃ av H' v w', k av H' /\ (Builtin.clear_ #[t] ty #[vx]).run P w = .ok v w' /\ Stp P H m S w H' m S w' /\ Rd P H' m S w' av v := by
 unfold jT at h
 split at h
 ·rename_i e s1 b1 z1 hti
  have hu := bF (hT.ok _ _ hti) rfl
  split at h
  ·rename_i ke sz by_ z hte
   obtain ⟨inf, d, hinf, hd, hz, hsz, hby, _, hzs, hz1⟩ := aE (hT.ok _ _ hte)
   simp only at hsz hz hzs hz1
   obtain ⟨id, nl, xs, lo, hi, h, hdl, hdle, a, c, rfl, hda⟩ := lL hp hinf h hx
   obtain ⟨_, rfl, hk⟩ := h
   rcases Nat.eq_zero_or_pos (hi - lo) with h0 | h0
   ·have hzs2 : xs.take lo ++ List.replicate (hi - lo) (pz z) ++ xs.drop hi = xs := by
     rw [h0, show hi = lo by omega]; simp
    rw [hzs2, dF hdl] at hk
    refine ⟨_, _, .tuple #[], _, hk, ?_, Stp.refl hp, .tup [] #[] rfl (by simp)⟩
    rw [h0]
    cases a <;> simp [Builtin.clear_, run_underlying hu]
   ·have hl : (List.replicate (hi - lo) (pz z)).length = hi - lo := by simp
    have hpc : (pz z).cells.length = inf.size := by rw [fF]; simp [hzs, hsz]
    have hz0 : 0 < z.cells.size := by omega
    have hcl : (Builtin.zeroCells z.cells (hi - lo)).toList.length = (hi - lo) * inf.size := by simp [Builtin.zeroCells, hzs, hsz]
    obtain ⟨g, cap, cur, hm, hcap, hh, hfit, hst⟩ := Stp.bt hp hdl hinf (lo := lo) (ys := List.replicate (hi - lo) (pz z)) (vs := (Builtin.zeroCells z.cells (hi - lo)).toList) (by rw [hl]; omega) (by rw [hl]; exact h0) (fun q hq => by rw [List.eq_of_mem_replicate hq]; exact hpc) (by rw [hl]; exact hcl) (fun j cc hj => by
     obtain ⟨h1, h2⟩ := eN _ _ _ _ hj
     rw [hpc] at h1 h2
     rw [fF, List.getElem?_map, Option.map_eq_some_iff] at h1
     obtain ⟨u, hu1, rfl⟩ := h1
     have hml : j % inf.size < z.cells.size := by have := (List.getElem?_eq_some_iff.1 hu1).1; simpa using this
     have e1 : z.cells[j % inf.size] = u := by
      have := hu1
      simpa [hml] using this
     refine ⟨u, ?_, ?_, ?_⟩
     ·have hjl : j < (hi - lo) * z.cells.size := by rw [show z.cells.size = inf.size by omega]; exact h2
      have e2 : z.cells.size = inf.size := by omega
      have e3 : z.cells[j % inf.size]! = u := by rw [getElem!_pos z.cells _ hml]; exact e1
      simp [Builtin.zeroCells, e2, h2, e3]
     ·exact dZ (by rw [<- e1]; exact hz1 _ (Array.getElem_mem hml))
     ·rw [<- e1]; exact hz1 _ (Array.getElem_mem hml))
    rw [hl, show lo + (hi - lo) = hi by omega] at hst
    obtain rfl := hda g cap hm hcap (by omega)
    exact ⟨_, _, _, _, hk, uw t e inf ty z g (lo * inf.size) _ _ cur e hu hinf hz (by omega) hh h0 (by rw [hcl] at hfit; exact hfit) hz1, hst, .tup [] #[] rfl (by simp)⟩
  ·cases h
 ·cases h
inductive BV (xs ys : List PV) (lo hi by_ : Nat) (k : Nat -> List PV -> Prop) : Prop
 | mk (hh : hi = xs.length) (hy : 0 < ys.length) (hb : xs.length + ys.length <= maxLen /\ (xs.length + ys.length) * by_ <= 140737488355328) (hk : ∀ lo' zs, lo' <= zs.length -> zs.drop lo' = xs.drop lo ++ ys -> zs.length <= xs.length + ys.length -> k lo' zs) : BV xs ys lo hi by_ k
theorem Rd.r5 (hp : Hp P H m S w) {id : Nat} {e : TypeId} {nl : Bool} {xs : List PV} (hl : live H id (.buf e nl xs)) {v : Value} (hr : Rd P H m S w (.buf id) v) : Rd P H m S w (.sub id 0 xs.length) v := by
 have hv := hr.bX hl
 obtain ⟨inf, us, hinf, _, ho, _, _, _⟩ := hp.obj id _ hl
 obtain ⟨a, c, hm, _⟩ := cv hp hl
 rw [hv, hm]
 refine .sub _ _ _ _ _ _ (List.getElem?_eq_some_iff.1 hl).1 (fun e2 nl2 xs2 hl2 => ?_) (fun _ _ _ he => by rw [hm] at he; cases he)
 unfold Abs.live at hl hl2
 rw [hl] at hl2
 injection hl2 with hl2; injection hl2 with hl2; injection hl2 with he _ hxs
 subst he; subst hxs
 refine ⟨inf, a, _, c, hinf, hm, Nat.zero_le _, Nat.le_refl _, rfl, rfl, Iff.rfl, fun _ => ?_⟩
 cases a with
 | none => rfl
 | some x => show some x = some (x.add (0 * inf.size)); rw [Nat.zero_mul]; rfl
theorem Stp.kill (hp : Hp P H m S w) (id : Nat) : Stp P H m S w (H.set id none) m S w := by
 have hlv : ∀ {j o}, live (H.set id none) j o -> j ≠ id /\ live H j o := fun {j o} h => by
  rcases aH h with ⟨_, he⟩ | h
  ·cases he
  ·exact h
 exact Stp.at_ (fun j => j = id) hp ⟨by simp, fun j hj o' h => ⟨rfl, o', (hlv h).2, fun _ _ _ e => ⟨_, _, e, Nat.le_refl _⟩, fun _ _ l e => ⟨l, e⟩⟩⟩ (fun j o hj h => ⟨(hlv h).2, rfl⟩) rfl rfl rfl (Nat.le_refl _) (fun _ _ _ => rfl) (fun j o hj h _ => absurd hj (hlv h).1) (fun j o b hj h _ => absurd hj (hlv h).1) (fun i j _ _ _ hi hj _ _ _ _ => hi.trans hj.symm)
theorem Stp.appendCap (hp : Hp P H m S w) {t ty e : TypeId} {i : TypeInfo} {z : Value} (ht : P.underlying t = some (.slice e)) (hi : P.info? e = some i) (hz : i.zero = some z) (hzs : z.cells.size = i.size) (hsz : 0 < i.size)
  {nl : Bool} {xs ys : List PV} {v vs : Value} (hr : Rd P H m S w (.cap nl xs) v) (hzx : ∀ x ∈ xs, x.cells.length = i.size) (hs : Src S w i.size ys vs) (hy : 0 < ys.length) (h63 : xs.length + ys.length <= maxLen) (hbytes : (xs.length + ys.length) * i.bytes <= 140737488355328) :
  ∃ v' w', (Builtin.append_ #[t, t] ty #[v, vs]).run P w = .ok v' w' /\ Stp P H m S w (H ++ [some (.buf e false (xs ++ ys))]) (upd m H.length v') S w' /\ Rd P (H ++ [some (.buf e false (xs ++ ys))]) (upd m H.length v') S w' (.buf H.length) v' := by
 have hye : ys.isEmpty = false := by cases ys with
  | nil => simp at hy
  | cons => rfl
 have hcap : ∀ a l c, v = .slice a l c -> c = l := by
  cases hr with
  | cap _ _ a l h => intro a l c he; injection he with _ h1 h2; omega
 have hr0 : RdP S w (.list nl xs) v := by cases hr with | cap _ _ a l h => exact h
 clear hr
 cases hr0 with
 | nil =>
  have whole := Stp.append (ty := ty) hp ht hi hz hzs hsz (ob := none) (v := .slice none 0 0) (nl := true) (xs := []) (.inl ⟨rfl, rfl, rfl, rfl⟩) hs h63 hbytes
  rw [hye, Bool.false_and] at whole
  exact whole
 | list _ a cap sz us hS hc hm hz' hu hr =>
  obtain rfl := hcap _ _ _ rfl
  rcases hs.at_ with ⟨rfl, _⟩ | ⟨a2, c2, news, rfl, hnlen, hnat, hnr⟩
  ·simp at hy
  have hfl := aJ hzx
  obtain ⟨v', w', h2, h3, h4⟩ := run_append_arg_grows (P := P) w t ty e i z i.size i.bytes ht hi hz rfl rfl hzs hsz a xs.length xs.length ((List.range (flat xs).length).map us) (by simp [hfl]) (fun j u hj => by
   simp only [List.getElem?_map, Option.map_eq_some_iff] at hj
   obtain ⟨j', hj', rfl⟩ := hj
   have hlt : j < (flat xs).length := by have := (List.getElem?_eq_some_iff.1 hj').1; simpa using this
   have : j' = j := by simpa [hlt] using hj'.symm
   subst this
   exact (hu j' _ (List.getElem?_eq_getElem hlt)).1) a2 ys.length c2 news hnlen hnat (by omega) h63 hbytes
  have hpush : Stp P H m S w (H ++ [some (.buf e false (xs ++ ys))]) (upd m H.length v') S w' := by
   refine Stp.push hp h4.os h4.tape h4.output h4.size (fun b hb => h4.block b hb (by simp)) (fun hk => ⟨i, (List.range (flat xs).length).map us ++ news, hi, hsz, ?_, fun x hx => (List.mem_append.1 hx).elim (hzx x) (hs.ok x), fun k c hk' => ?_, ?_⟩) (fun b hb => (h3.lt b hb).1)
   ·rw [List.length_append]; exact ⟨h3.1, h3.2.imp (fun q => q) fun ⟨g, cap, cur, q1, q2, q3, q4, q5, q6, q7⟩ => ⟨g, cap, cur, q1, Nat.zero_le _, q3, q4, q5, q6, q7⟩⟩
   ·rw [bI] at hk'
    by_cases hkl : k < (flat xs).length
    ·rw [List.getElem?_append_left hkl] at hk'
     exact ⟨us k, by rw [List.getElem?_append_left (by simpa using hkl)]; simp [hkl], (hr k c hk').mono hk (fun _ h => h), (hu k c hk').2⟩
    ·rw [List.getElem?_append_right (by omega)] at hk'
     obtain ⟨u, hu', q1, q2⟩ := hnr _ c hk'
     exact ⟨u, by rw [List.getElem?_append_right (by simp; omega)]; simpa using hu', q1.mono hk (fun _ h => h), q2⟩
   ·constructor
    ·intro h; cases h
    ·intro h
     rcases h3.2 with ⟨_, q⟩ | ⟨g', cap', cur', q, _⟩
     ·omega
     ·rw [h] at q; cases q
  refine ⟨v', w', h2, hpush, ?_⟩
  obtain ⟨a', l', c', rfl⟩ : ∃ a' l' c', v' = .slice a' l' c' := by
   rcases h3.2 with ⟨q, _⟩ | ⟨g', cap', cur', q, _⟩
   ·exact ⟨_, _, _, q⟩
   ·exact ⟨_, _, _, q⟩
  exact .buf _ _ _ _ (by simp) fun o hl => if_pos rfl
theorem Stp.yK (hp : Hp P H m S w) {t ty e : TypeId} {i : TypeInfo} {z : Value} (ht : P.underlying t = some (.slice e)) (hi : P.info? e = some i) (hz : i.zero = some z) (hzs : z.cells.size = i.size) (hsz : 0 < i.size)
  {id lo hi' : Nat} {nl : Bool} {xs ys : List PV} (hl : live H id (.buf e nl xs)) {v vs : Value} (hr : Rd P H m S w (.sub id lo hi') v) (hh : hi' = xs.length) (hs : Src S w i.size ys vs) (hy : 0 < ys.length) (h63 : xs.length + ys.length <= maxLen) (hbytes : (xs.length + ys.length) * i.bytes <= 140737488355328) :
  ∃ lo' zs v' w' m', lo' <= zs.length /\ zs.drop lo' = xs.drop lo ++ ys /\ zs.length <= xs.length + ys.length /\ (Builtin.append_ #[t, t] ty #[v, vs]).run P w = .ok v' w' /\
   Stp P H m S w (Abs.kill H (some id) ++ [some (.buf e false zs)]) m' S w' /\ Rd P (Abs.kill H (some id) ++ [some (.buf e false zs)]) m' S w' (.sub H.length lo' zs.length) v' := by
 obtain ⟨inf, us, hinf, _, ho, hzx, hrx, hnl⟩ := hp.obj id _ hl
 rw [hi] at hinf
 injection hinf with hinf
 subst hinf
 subst hh
 have hye : ys.isEmpty = false := by cases ys with
  | nil => simp at hy
  | cons => rfl
 have hlen' : (Abs.kill H (some id)).length = H.length := ma H _
 have hlvN : ∀ zs, live (Abs.kill H (some id) ++ [some (.buf e false zs)]) H.length (.buf e false zs) := by
  intro zs
  unfold Abs.live
  rw [List.getElem?_append_right (by omega), hlen']
  simp
 have whole := fun (ty : TypeId) => Stp.append (ty := ty) hp ht hi hz hzs hsz (ob := some id) (v := m id) (nl := nl) (xs := xs) (.inr ⟨id, rfl, hl, rfl⟩) hs h63 hbytes
 rw [hye, Bool.false_and] at whole
 cases hr with
 | sub _ _ _ a l c hid h =>
  obtain ⟨i2, a0, l0, c0, g1, g2, g3, _, rfl, rfl, gn, ga⟩ := h _ _ _ hl
  rw [hi] at g1
  injection g1 with g1
  subst g1
  rcases hs.at_ with ⟨rfl, _⟩ | ⟨a2, c2, news, rfl, hnlen, hnat, hnr⟩
  ·simp at hy
  have h1 : ∀ u ∈ news, u.oneCell' = true := by
   intro u hu
   obtain ⟨j, hj, rfl⟩ := List.getElem_of_mem hu
   have hf : j < (flat ys).length := by rw [aJ hs.ok, <- hnlen]; exact hj
   obtain ⟨u, h2, _, h3⟩ := hnr j _ (List.getElem?_eq_getElem hf)
   rw [List.getElem?_eq_getElem hj] at h2
   injection h2 with h2
   rw [h2]; exact h3
  rcases ho.2 with ⟨hv, h0⟩ | ⟨g, cap, cur, hv, _, hh, hcap, hmax, hcs, htk⟩
  ·rw [g2] at hv
   injection hv with e1 e2 e3
   subst e1; subst e3
   obtain rfl := gn.2 rfl
   obtain rfl : lo = 0 := by omega
   have hxs : xs = [] := List.eq_nil_of_length_eq_zero h0
   subst hxs
   obtain ⟨v', w', h2, h3, h4⟩ := whole ty
   rw [g2] at h2
   subst e2
   exact ⟨0, _, v', w', _, Nat.zero_le _, rfl, by simp, h2, h3, Rd.r5 h3.hp (hlvN _) h4⟩
  ·rw [g2] at hv
   injection hv with e1 e2 e3
   subst e1; subst e2; subst e3
   have grow : ∀ b : Addr, a = some b -> (c0 ≠ lo -> b = ⟨g, lo * i.size, none⟩) -> ¬ xs.length + ys.length <= c0 -> ∃ lo' zs v' w' m', lo' <= zs.length /\ zs.drop lo' = xs.drop lo ++ ys /\ zs.length <= xs.length + ys.length /\ (Builtin.append_ #[t, t] ty #[.slice a (xs.length - lo) (c0 - lo), .slice (some a2) ys.length c2]).run P w = .ok v' w' /\
     Stp P H m S w (Abs.kill H (some id) ++ [some (.buf e false zs)]) m' S w' /\ Rd P (Abs.kill H (some id) ++ [some (.buf e false zs)]) m' S w' (.sub H.length lo' zs.length) v' := by
    intro b hb hat hroom
    subst hb
    have hdl : (xs.drop lo).length = xs.length - lo := List.length_drop ..
    have hmul : lo * i.size <= xs.length * i.size := Nat.mul_le_mul_right _ g3
    have hz' : ∀ x ∈ xs.drop lo ++ ys, x.cells.length = i.size := fun x hx => (List.mem_append.1 hx).elim (fun h => hzx x (List.mem_of_mem_drop h)) (hs.ok x)
    have hcell := ho.cells (by rw [g2]; rfl)
    obtain ⟨v', w', h2, h3, h4⟩ := run_append_arg_grows (P := P) w t ty e i z i.size i.bytes ht hi hz rfl rfl hzs hsz b (xs.length - lo) (c0 - lo) (us.drop (lo * i.size)) (by rw [List.length_drop, ho.1, Nat.sub_mul]) (fun j u hj => by
     rw [List.getElem?_drop] at hj
     have hjl := (List.getElem?_eq_some_iff.1 hj).1
     rw [ho.1] at hjl
     have hne : c0 ≠ lo := by
      intro he
      have : xs.length = lo := by omega
      rw [this] at hjl
      omega
     have := hcell _ _ hj
     rw [add_lit, Nat.zero_add] at this
     rw [hat hne, add_lit]
     exact this) a2 ys.length c2 news hnlen hnat (by omega) (by omega) (Nat.le_trans (Nat.mul_le_mul_right _ (by omega)) hbytes)
    have hk0 := Stp.kill hp id
    have hflat : flat xs = flat (xs.take lo) ++ flat (xs.drop lo) := by rw [<- bI, List.take_append_drop]
    have hft : (flat (xs.take lo)).length = lo * i.size := by rw [aJ (fun x hx => hzx x (List.mem_of_mem_take hx)), List.length_take]; congr 1; omega
    have hfd : (flat (xs.drop lo)).length = (xs.length - lo) * i.size := by rw [aJ (fun x hx => hzx x (List.mem_of_mem_drop hx)), hdl]
    have hul : (us.drop (lo * i.size)).length = (xs.length - lo) * i.size := by rw [List.length_drop, ho.1, Nat.sub_mul]
    have hpush : Stp P (H.set id none) m S w (H.set id none ++ [some (.buf e false (xs.drop lo ++ ys))]) (upd m (H.set id none).length v') S w' := by
     refine Stp.push hk0.hp h4.os h4.tape h4.output h4.size (fun b hb => h4.block b hb (by simp)) (fun hk => ⟨i, us.drop (lo * i.size) ++ news, hi, hsz, ?_, hz', fun k c hk' => ?_, ?_⟩) (fun b hb => (h3.lt b hb).1)
     ·rw [List.length_append, hdl]; exact ⟨h3.1, h3.2.imp (fun q => q) fun ⟨g, cap, cur, q1, q2, q3, q4, q5, q6, q7⟩ => ⟨g, cap, cur, q1, Nat.zero_le _, q3, q4, q5, q6, q7⟩⟩
     ·rw [bI] at hk'
      by_cases hkl : k < (flat (xs.drop lo)).length
      ·rw [List.getElem?_append_left hkl] at hk'
       obtain ⟨u, hu, q1, q2⟩ := hrx (lo * i.size + k) c (by rw [hflat, List.getElem?_append_right (by omega), hft, Nat.add_sub_cancel_left]; exact hk')
       exact ⟨u, by rw [List.getElem?_append_left (by omega), List.getElem?_drop]; exact hu, q1.mono hk (fun _ h => h), q2⟩
      ·rw [List.getElem?_append_right (by omega)] at hk'
       obtain ⟨u, hu, q1, q2⟩ := hnr _ c hk'
       exact ⟨u, by rw [List.getElem?_append_right (by omega), hul, <- hfd]; exact hu, q1.mono hk (fun _ h => h), q2⟩
     ·constructor
      ·intro h; cases h
      ·intro h
       rcases h3.2 with ⟨_, q⟩ | ⟨g', cap', cur', q, _⟩
       ·omega
       ·rw [h] at q; cases q
    have hst := hk0.trans hpush
    refine ⟨0, xs.drop lo ++ ys, v', w', _, Nat.zero_le _, rfl, by rw [List.length_append, hdl]; omega, h2, hst, ?_⟩
    have hmv : upd m (H.set id none).length v' H.length = v' := by
     show (if H.length = (H.set id none).length then v' else m H.length) = v'
     rw [if_pos (by simp)]
    refine Rd.r5 hst.hp (hlvN _) ?_
    obtain ⟨a', l', c', rfl⟩ : ∃ a' l' c', v' = .slice a' l' c' := by
     rcases h3.2 with ⟨q, _⟩ | ⟨g', cap', cur', q, _⟩
     ·exact ⟨_, _, _, q⟩
     ·exact ⟨_, _, _, q⟩
    exact .buf _ _ _ _ (by simp [hlen']) fun o hlo => hmv
   by_cases hroom : xs.length + ys.length <= c0
   ·have ga := ga (by omega)
    obtain rfl : a = some ⟨g, lo * i.size, none⟩ := by rw [ga]; show some ((⟨g, 0, none⟩ : Addr).add (lo * i.size)) = _; rw [add_lit, Nat.zero_add]
    obtain ⟨v', w', h2, h3, h4⟩ := whole ty
    rw [g2] at h2
    have hmu : (xs.length + ys.length) * i.size <= c0 * i.size := Nat.mul_le_mul_right _ hroom
    rw [Nat.add_mul] at hmu
    have hlow : lo * i.size + (xs.length - lo) * i.size = xs.length * i.size := by rw [<- Nat.add_mul]; congr 1; omega
    have hcells : ∀ j, j < news.length -> (w.cell? ⟨g, xs.length * i.size + j, none⟩).isSome = true := by
     intro j hj
     rw [cell_of_row w g _ cur e (0, 0) hh]
     rw [Array.getElem?_eq_getElem (by omega)]
     rfl
    have hfro : ∀ j, j < news.length -> w.frozen? ⟨g, xs.length * i.size + j, none⟩ = false := by
     intro j hj
     simp [World.frozen?, hh]
    have r1 := run_append_room_cells (P := P) w t ty e i ht hi g 0 xs.length c0 a2 ys.length c2 news hnlen hnat h1 hroom (by simpa using hcells) (by simpa using hfro)
    have r2 := run_append_room_cells (P := P) w t ty e i ht hi g (lo * i.size) (xs.length - lo) (c0 - lo) a2 ys.length c2 news hnlen hnat h1 (by omega) (by rw [hlow]; exact hcells) (by rw [hlow]; exact hfro)
    rw [h2] at r1
    injection r1 with r3 r4
    rw [hlow] at r2
    rw [Nat.zero_add] at r4
    refine ⟨lo, xs ++ ys, _, w', _, by rw [List.length_append]; omega, by rw [List.drop_append_of_le_length g3], by rw [List.length_append]; exact Nat.le_refl _, by rw [r2, r4], h3, ?_⟩
    have hmv : upd m H.length v' H.length = v' := if_pos rfl
    refine .sub _ _ _ _ _ _ (by simp [hlen']) (fun e2 nl2 xs2 hl2 => ?_) (fun _ _ _ he => by rw [hmv, r3] at he; cases he)
    have hl3 := hlvN (xs ++ ys)
    unfold Abs.live at hl2 hl3
    rw [hl3] at hl2
    injection hl2 with hl2; injection hl2 with hl2; injection hl2 with he _ hxs
    subst he; subst hxs
    refine ⟨i, some ⟨g, 0, none⟩, _, c0, hi, hmv.trans r3, by rw [List.length_append]; omega, Nat.le_refl _, by rw [List.length_append]; omega, rfl, by simp, fun _ => ?_⟩
    show some (_ : Addr) = some ((⟨g, 0, none⟩ : Addr).add (lo * i.size))
    rw [add_lit, Nat.zero_add]
   ·cases a with
    | none => exact absurd (gn.1 rfl) (by simp)
    | some b =>
     refine grow b rfl (fun hne => ?_) hroom
     have := ga hne
     injection this with this
     rw [this]
     show (⟨g, 0, none⟩ : Addr).add (lo * i.size) = _
     rw [add_lit, Nat.zero_add]
end
end Go.Abs
namespace Go.Abs
open Go.RowKit
inductive BD (X Y : Prop) : Prop
 | own (h : X) : BD X Y
 | both (h : Y) : BD X Y
section
variable {P : Program} {ti : TypeId -> Option TI} {H : AH} {m : Nat -> Value} {S : Nat -> Prop} {w : World}
theorem k_ {t ty e : TypeId} {i : TypeInfo} {z : Value} (ht : P.underlying t = some (.slice e)) (hi : P.info? e = some i) (hz : i.zero = some z) (hzs : z.cells.size = i.size) (hsz : 0 < i.size)
  {v : Value} {n : Nat} {us : List Value} (hown : w.ownsRow 0 e i.size v n us) {a : Addr} {m c : Nat} {news : List Value} (hl : news.length = m * i.size) (hnews : ∀ j u, news[j]? = some u -> w.cell? (a.add j) = some u) (h1 : ∀ u ∈ news, u.oneCell' = true)
  (h63 : n + m <= maxLen) (hbytes : (n + m) * i.bytes <= 140737488355328) {v' : Value} {w' : World} (hrun : (Builtin.append_ #[t, t] ty #[v, .slice (some a) m c]).run P w = .ok v' w') :
  v'.ownBlock = v.ownBlock \/ ∀ b, b < w.heap.size -> w'.heap[b]? = w.heap[b]? := by
 have hown0 := hown
 rcases hown.2 with ⟨rfl, rfl⟩ | ⟨g, cap, cur, rfl, hbg, hg, hnc, hcm, hcs, htake⟩
 ·obtain ⟨v2, w2, h2, _, h3, _⟩ := run_append_own_at (P := P) w 0 t ty e i z i.size i.bytes ht hi hz rfl rfl hzs hsz _ 0 us hown0 a m c news hl hnews h1 h63 hbytes (Nat.zero_le _)
  rw [h2] at hrun
  injection hrun with e1 e2
  subst e1; subst e2
  exact .inr fun b hb => h3.block b hb (by simp [Value.ownBlock])
 ·by_cases hroom : n + m <= cap
  ·have hfit : n * i.size + news.length <= cur.size := by rw [hl, hcs, <- Nat.add_mul]; exact Nat.mul_le_mul_right _ hroom
   have hr := run_append_room (P := P) w t ty e i ht hi g n cap cur hg a m c news hl hnews h1 hroom hfit
   rw [hr] at hrun
   injection hrun with e1 e2
   subst e1
   exact .inl rfl
  ·have hsmall : n + m <= 9223372036854775807 := by simp only [maxLen] at h63; omega
   have holds : ∀ j u, us[j]? = some u -> w.cell? ((⟨g, 0, none⟩ : Addr).add j) = some u := hown.cells (g := g) rfl
   have hr := run_append_grow (P := P) w t ty e i z ht hi hz ⟨g, 0, none⟩ n cap us hown.1 holds a m c news hl hnews (by omega) (by omega) (growslice_fits (by omega) hbytes)
   rw [hr] at hrun
   injection hrun with e1 e2
   subst e2
   exact .inr fun b hb => heap_alloc_old w.drew _ (r := b) hb
theorem vw (hp : Hp P H m S w) {t ty e : TypeId} {i : TypeInfo} {z : Value} (ht : P.underlying t = some (.slice e)) (hi : P.info? e = some i) (hz : i.zero = some z) (hzs : z.cells.size = i.size) (hsz : 0 < i.size)
  {v : Value} {n : Nat} {us : List Value} (ho : w.ownsRow 0 e i.size v n us) {ys : List PV} {vs : Value} (hs : Src S w i.size ys vs) (h63 : n + ys.length <= maxLen) (hbytes : (n + ys.length) * i.bytes <= 140737488355328) :
  ∃ v' w' news, (Builtin.append_ #[t, t] ty #[v, vs]).run P w = .ok v' w' /\ w'.ownsRow 0 e i.size v' (n + ys.length) (us ++ news) /\ w.grownBy w' v.ownBlock /\
   (v' = .slice none 0 0 ↔ v = .slice none 0 0 /\ ys.length = 0) /\ (v'.ownBlock = v.ownBlock \/ v'.ownBlock = some w.heap.size) /\ (v'.ownBlock = v.ownBlock \/ ∀ b, b < w.heap.size -> w'.heap[b]? = w.heap[b]?) /\
   ∀ (k : Nat) (c : PV), (flat ys)[k]? = some c -> ∃ u : Value, news[k]? = some u /\ RdP S w c u /\ u.oneCell' = true := by
 have some_ : ∀ (a : Addr) (c : Nat) (news : List Value), vs = .slice (some a) ys.length c -> news.length = ys.length * i.size -> (∀ (j : Nat) (u : Value), news[j]? = some u -> w.cell? (a.add j) = some u) ->
   (∀ (k : Nat) (c : PV), (flat ys)[k]? = some c -> ∃ u : Value, news[k]? = some u /\ RdP S w c u /\ u.oneCell' = true) -> ∃ v' w' news, (Builtin.append_ #[t, t] ty #[v, vs]).run P w = .ok v' w' /\ w'.ownsRow 0 e i.size v' (n + ys.length) (us ++ news) /\ w.grownBy w' v.ownBlock /\
  (v' = .slice none 0 0 ↔ v = .slice none 0 0 /\ ys.length = 0) /\ (v'.ownBlock = v.ownBlock \/ v'.ownBlock = some w.heap.size) /\ (v'.ownBlock = v.ownBlock \/ ∀ b, b < w.heap.size -> w'.heap[b]? = w.heap[b]?) /\
  ∀ (k : Nat) (c : PV), (flat ys)[k]? = some c -> ∃ u : Value, news[k]? = some u /\ RdP S w c u /\ u.oneCell' = true := by
  rintro a c news rfl hl hat hr
  have h1 : ∀ u ∈ news, u.oneCell' = true := by
   intro u hu
   obtain ⟨j, hj, rfl⟩ := List.mem_iff_getElem.1 hu
   have hjf : j < (flat ys).length := by rw [aJ hs.ok]; omega
   obtain ⟨u', hu', _, h1⟩ := hr j _ (List.getElem?_eq_getElem hjf)
   rw [List.getElem?_eq_getElem hj] at hu'
   injection hu' with hu'
   rw [hu']
   exact h1
  obtain ⟨v', w', h2, h3, h4, h5, h6⟩ := run_append_own_at (P := P) w 0 t ty e i z i.size i.bytes ht hi hz rfl rfl hzs hsz v n us ho a ys.length c news hl hat h1 h63 hbytes (Nat.zero_le _)
  exact ⟨v', w', news, h2, h3, h4, h5, h6, k_ ht hi hz hzs hsz ho hl hat h1 h63 hbytes h2, hr⟩
 rcases hs.at_ with ⟨rfl, a, c, rfl⟩ | ⟨a, c, news, h1, h2, h3, h4⟩
 ·rcases a with _ | a
  ·refine ⟨v, w, [], fa 0 t ty e i ht hi v _ us ho c, by simpa using ho, ⟨rfl, rfl, rfl, Nat.le_refl _, fun _ _ _ => rfl⟩, by simp, .inl rfl, .inl rfl, by simp [flat]⟩
  ·exact some_ a c [] rfl (by simp) (by simp) (by simp [flat])
 ·exact some_ a c news h1 h2 h3 h4
theorem Stp.vz (hp : Hp P H m S w) {t ty e : TypeId} {i : TypeInfo} {z : Value} (ht : P.underlying t = some (.slice e)) (hi : P.info? e = some i) (hz : i.zero = some z) (hzs : z.cells.size = i.size) (hsz : 0 < i.size)
  {id : Nat} {nl : Bool} {xs ys : List PV} {vs : Value} (hl : live H id (.buf e nl xs)) (hs : Src S w i.size ys vs) (h63 : xs.length + ys.length <= maxLen) (hbytes : (xs.length + ys.length) * i.bytes <= 140737488355328) :
  ∃ v' w' S', (Builtin.append_ #[t, t] ty #[m id, vs]).run P w = .ok v' w' /\
   Stp P H m S w (H.set id (some (.frz nl xs)) ++ [some (.frz (ys.isEmpty && nl) (xs ++ ys))]) (upd m H.length v') S' w' /\
   Rd P (H.set id (some (.frz nl xs)) ++ [some (.frz (ys.isEmpty && nl) (xs ++ ys))]) (upd m H.length v') S' w' (.buf H.length) v' := by
 obtain ⟨i', us, hi', _, ho, hzx, hrx, hnl⟩ := hp.obj id _ hl
 rw [hi] at hi'
 injection hi' with hi'
 subst hi'
 obtain ⟨v', w', news, hrun, hown', hgrow, hnil', hat, hkeep, hry⟩ := vw (ty := ty) hp ht hi hz hzs hsz ho hs h63 hbytes
 have hid : id < H.length := (List.getElem?_eq_some_iff.1 hl).1
 let S' : Nat -> Prop := fun b => S b \/ (m id).ownBlock = some b \/ v'.ownBlock = some b
 have hk : b8 S w w' := fun b hb => hgrow.block b (hp.sub b hb) fun he => hp.out id _ b hl he.symm hb
 have hupd : upd m H.length v' H.length = v' := if_pos rfl
 have hlen : (H.set id (some (.frz nl xs)) ++ [some (.frz (ys.isEmpty && nl) (xs ++ ys))] : AH).length = H.length + 1 := by simp
 have lv : ∀ {j : Nat} {o : AO}, live (H.set id (some (.frz nl xs)) ++ [some (.frz (ys.isEmpty && nl) (xs ++ ys))]) j o ->
   (j = H.length /\ o = .frz (ys.isEmpty && nl) (xs ++ ys)) \/ (j = id /\ o = .frz nl xs) \/ (j < H.length /\ j ≠ id /\ live H j o) := by
  intro j o h
  rcases bw h with ⟨h1, h2⟩ | ⟨h1, h2⟩
  ·rw [List.length_set] at h1; exact .inl ⟨h1, h2⟩
  ·rw [List.length_set] at h1
   rcases aH h2 with ⟨h3, h4⟩ | ⟨h3, h4⟩
   ·injection h4 with h4; exact .inr (.inl ⟨h3, h4.symm⟩)
   ·exact .inr (.inr ⟨h1, h3, h4⟩)
 have mOld : ∀ {j : Nat}, j < H.length -> upd m H.length v' j = m j := fun hj => if_neg (by omega)
 have hzall : ∀ x ∈ xs ++ ys, x.cells.length = i.size := fun x hx => (List.mem_append.1 hx).elim (hzx x) (hs.ok x)
 have hul : us.length = (flat xs).length := by rw [ho.1, aJ hzx]
 have hcell : ∀ (k : Nat) (c : PV), (flat (xs ++ ys))[k]? = some c -> ∃ u : Value, (us ++ news)[k]? = some u /\ RdP S w' c u /\ u.oneCell' = true := by
  intro k c hk'
  rw [bI] at hk'
  by_cases hkl : k < (flat xs).length
  ·rw [List.getElem?_append_left hkl] at hk'
   obtain ⟨u, hu, h1, h2⟩ := hrx k c hk'
   exact ⟨u, by rw [List.getElem?_append_left (by omega)]; exact hu, h1.mono hk (fun _ h => h), h2⟩
  ·rw [List.getElem?_append_right (by omega)] at hk'
   obtain ⟨u, hu, h1, h2⟩ := hry _ c hk'
   exact ⟨u, by rw [List.getElem?_append_right (by omega), hul]; exact hu, h1.mono hk (fun _ h => h), h2⟩
 have hnewOK : OK P H m S w' v' (.buf e (ys.isEmpty && nl) (xs ++ ys)) := by
  refine ⟨i, us ++ news, hi, hsz, by rw [List.length_append]; exact hown', hzall, hcell, ?_⟩
  rw [hnil', <- hnl, Bool.and_eq_true, List.isEmpty_iff]
  constructor
  ·rintro ⟨rfl, h⟩; exact ⟨h, rfl⟩
  ·rintro ⟨h, h0⟩; exact ⟨List.eq_nil_of_length_eq_zero h0, h⟩
 have hnew : RdP S' w' (.list (ys.isEmpty && nl) (xs ++ ys)) v' := RdP.nR hnewOK (fun _ h => .inl h) fun b hb => .inr (.inr hb)
 have hold : aW H (H.set id (some (.frz nl xs)) ++ [some (.frz (ys.isEmpty && nl) (xs ++ ys))]) m (upd m H.length v') := by
  refine ⟨by rw [hlen]; omega, fun j hj p hp' => ⟨mOld hj, ?_⟩⟩
  rcases lv hp' with ⟨h1, _⟩ | ⟨rfl, rfl⟩ | ⟨_, _, h3⟩
  ·omega
  ·exact ⟨_, hl, fun _ _ _ he => (by cases he), fun _ _ _ he => (by cases he)⟩
  ·exact ⟨p, h3, fun e nl xs he => ⟨nl, xs, he, Nat.le_refl _⟩, fun _ _ l he => ⟨l, he⟩⟩
 have hread : RdP S' w' (.list nl xs) (m id) := by
  rcases hkeep with hb | hb
  ·rcases ho.2 with ⟨hv, h0⟩ | ⟨g, cap, cur, hv, _, hh, hc, hm, hcs, htk⟩
   ·have hx : xs = [] := List.eq_nil_of_length_eq_zero h0
    have hn : nl = true := hnl.2 hv
    subst hx; subst hn
    rw [hv]
    exact .nil
   ·have hn : nl = false := by
     cases nl
     ·rfl
     ·have := hnl.1 rfl; rw [hv] at this; cases this
    subst hn
    have hg : v'.ownBlock = some g := by rw [hb, hv]; rfl
    have hcells := hown'.cells hg
    have hS : S' g := .inr (.inr hg)
    have hfl : ∀ (k : Nat) (c : PV), (flat xs)[k]? = some c -> ∃ u : Value, (us ++ news)[k]? = some u /\ RdP S w' c u /\ u.oneCell' = true := fun k c hk' =>
     hcell k c (by rw [bI, List.getElem?_append_left (List.getElem?_eq_some_iff.1 hk').1]; exact hk')
    rw [hv]
    refine .list xs _ cap i.size (fun k => ((us ++ news)[k]?).getD undef) (fun _ => hS) hc hm hzx (fun k c hk' => ?_) fun k c hk' => ?_
    ·obtain ⟨u, hu, _, h1⟩ := hfl k c hk'
     rw [hu]
     exact ⟨hcells k u hu, h1⟩
    ·obtain ⟨u, hu, h2, _⟩ := hfl k c hk'
     rw [hu]
     exact h2.mono (fun _ _ => rfl) fun _ h => .inl h
  ·have hok := hp.obj id _ hl
   have h2 : OK P H m S w' (m id) (.buf e nl xs) := OK.mono hk (fun _ h => h) (aW.refl _ _) hok fun b hb' => hb b (hok.bE hb')
   exact RdP.nR h2 (fun _ h => .inl h) fun b hb => .inr (.inl hb)
 have hlt' : ∀ b, v'.ownBlock = some b -> b < w'.heap.size := fun b hb => (hown'.lt b hb).2
 refine ⟨v', w', S', hrun, ⟨hold, ⟨fun j o hj => ?_, fun a b oa ob g ha hb hga hgb => ?_, fun b hb => ?_, fun j o b hj hb hS => ?_, hp.glb.mono hk fun _ h => .inl h⟩, hk, fun _ h => .inl h, hgrow.os, hgrow.tape, hgrow.output, hgrow.size, fun b hlt hn => ?_, fun b hb => ?_, fun b hb => ?_, fun b hb => ?_⟩, ?_⟩
 ·rcases lv hj with ⟨rfl, rfl⟩ | ⟨rfl, rfl⟩ | ⟨h1, h2, h3⟩
  ·rw [hupd]; exact hnew
  ·rw [mOld hid]; exact hread
  ·rw [mOld h1]
   exact OK.mono hk (fun _ h => .inl h) hold (hp.obj j o h3) fun b hb => hgrow.block b ((hp.obj j o h3).bE hb) fun he => h2 (hp.inj j id o _ b h3 hl hb he.symm)
 ·rcases lv ha with ⟨rfl, rfl⟩ | ⟨rfl, rfl⟩ | ⟨h1, h2, h3⟩
  ·cases hga
  ·cases hga
  ·rcases lv hb with ⟨rfl, rfl⟩ | ⟨rfl, rfl⟩ | ⟨g1, g2, g3⟩
   ·cases hgb
   ·cases hgb
   ·rw [mOld h1] at hga
    rw [mOld g1] at hgb
    exact hp.inj a b oa ob g h3 g3 hga hgb
 ·rcases hb with hb | hb | hb
  ·exact Nat.lt_of_lt_of_le (hp.sub b hb) hgrow.size
  ·exact Nat.lt_of_lt_of_le ((hp.obj id _ hl).bE hb) hgrow.size
  ·exact hlt' b hb
 ·rcases lv hj with ⟨rfl, rfl⟩ | ⟨rfl, rfl⟩ | ⟨h1, h2, h3⟩
  ·cases hb
  ·cases hb
  ·rw [mOld h1] at hb
   rcases hS with hS | hS | hS
   ·exact hp.out j o b h3 hb hS
   ·exact h2 (hp.inj j id o _ b h3 hl hb hS)
   ·rcases hat with h | h
    ·rw [h] at hS
     exact h2 (hp.inj j id o _ b h3 hl hb hS)
    ·rw [h] at hS
     injection hS with hS
     have := (hp.obj j o h3).bE hb
     omega
 ·exact hgrow.block b hlt fun he => hn ⟨id, _, hl, he.symm⟩
 ·rcases hb with hb | hb | hb
  ·exact .inl hb
  ·exact .inr (.inl ⟨id, _, hl, hb⟩)
  ·rcases hat with h | h
   ·rw [h] at hb
    exact .inr (.inl ⟨id, _, hl, hb⟩)
   ·rw [h] at hb
    injection hb with hb
    exact .inr (.inr (by omega))
 ·obtain ⟨j, o, h1, h2⟩ := hb
  rcases lv h1 with ⟨rfl, rfl⟩ | ⟨rfl, rfl⟩ | ⟨g1, g2, g3⟩
  ·cases h2
  ·cases h2
  ·rw [mOld g1] at h2
   exact .inl ⟨j, o, g3, h2⟩
 ·rcases hb with hb | hb | hb
  ·exact .inl hb
  ·rcases hkeep with h | h
   ·refine .inr (hnewOK.isC ?_ rfl)
    show v'.ownBlock = _
    rw [h]; exact hb
   ·obtain ⟨vs, T, f, h1⟩ := (hp.obj id _ hl).isC hb rfl
    exact .inr ⟨vs, T, f, (h b ((hp.obj id _ hl).bE hb)).trans h1⟩
  ·exact .inr (hnewOK.isC hb rfl)
 ·have hform : ∃ a l c, v' = .slice a l c := by
   rcases hown'.2 with ⟨h, _⟩ | ⟨g, cap, cur, h, _⟩
   ·exact ⟨_, _, _, h⟩
   ·exact ⟨_, _, _, h⟩
  obtain ⟨a, l, c, rfl⟩ := hform
  exact .buf _ _ _ _ (by rw [hlen]; omega) fun o ho' => hupd
end
end Go.Abs
namespace Go.Abs
open Go.RowKit
def yn : TK -> Option TypeDesc
 | .int k => some (.int k)
 | .str => some .string
 | _ => none
inductive wJ (d : TypeDesc) (key : Value) (es : List (Value × Value)) (k : Option Value -> Prop) : Prop
 | mk (r : Option Value) (h0 : MapKept.IsKey d key) (h1 : ∀ e ∈ es, MapKept.IsKey d e.1) (h2 : pR key es r) (hk : k r) : wJ d key es k
def tP : List PV -> Bool
 | [] => true
 | .v _ :: r => tP r
 | _ :: _ => false
def ca : List PV -> List Value
 | [] => []
 | .v x :: r => x :: ca r
 | _ :: r => undef :: ca r
theorem tJ {S : Nat -> Prop} {w : World} : ∀ {cs : List PV} {vs : List Value}, tP cs = true -> vs.length = cs.length -> (∀ k c, cs[k]? = some c -> RdP S w c (vs.getD k undef)) -> vs = ca cs
 | [], vs, _, hl, _ => List.eq_nil_of_length_eq_zero hl
 | .v x :: r, v :: vs, h, hl, hr => by
  have h1 := hr 0 (.v x) rfl
  have h2 : v = x := by
   cases h1 with
   | v _ _ => rfl
  have h3 := tJ (cs := r) (vs := vs) h (by simpa using hl) fun k c hk => by simpa using hr (k + 1) c (by simpa using hk)
  rw [ca, <- h3, h2]
 | .v x :: r, [], _, hl, _ => by simp at hl
 | .list _ _ :: r, _, h, _, _ => by cases h
 | .agg _ :: r, _, h, _, _ => by cases h
theorem D8 (x : Value) (S : Nat -> Prop) (w : World) (v : Value) (h : RdP S w (.v x) v) : v = x := by
 cases h with
 | v _ _ => rfl
theorem rU {cs : List PV} (hc : tP cs = true) (S : Nat -> Prop) (w : World) (v : Value) (h : RdP S w (.agg cs) v) : v = .agg (ca cs).toArray := by
 cases h with
 | agg _ vs hl ho hr =>
  have := tJ (vs := vs.toList) hc (by simpa using hl) fun k c hk => by
   have := hr k c hk
   simpa [Array.getD_eq_getD_getElem?, List.getD_eq_getElem?_getD] using this
  rw [<- this]
def cP (cs : List PV) : Value := .agg (ca cs).toArray
def my (cs : List PV) : Bool := tP cs && (ca cs).all (·.oneCell')
def BB (ti : TypeId -> Option TI) (fs : List (TypeId × Nat)) (cs : List PV) (x : Value) : Prop := ∃ ds b, my ds = true /\ x = cP ds /\ oI ti fs cs ds = some b /\ (b = true ↔ x = cP cs)
inductive tY (ti : TypeId -> Option TI) (fs : List (TypeId × Nat)) (cs : List PV) (es : List (Value × Value)) (k : Option Value -> Prop) : Prop
 | mk (r : Option Value) (b : Bool) (h0 : my cs = true) (h3 : oI ti fs cs cs = some b) (h1 : ∀ e ∈ es, BB ti fs cs e.1) (h2 : pR (cP cs) es r) (hk : k r) : tY ti fs cs es k
def gJ (ti : TypeId -> Option TI) (H : AH) (t : TypeId) (ok : Bool) (x ix : AV) (k : AV -> Prop) : Prop := match x, ix, ti t with
 | .mp id, .p (.v kv), some ⟨.map kt et, _, _, _⟩ => match ti kt, ti et, H[id]? with
  | some ⟨tk, _, _, _⟩, some ⟨_, _, _, z⟩, some (some (.map es)) => match yn tk, z.oneCell' with
   | some d, true => wJ d kv es fun r => match ok with
    | false => k (.p (.v (r.getD z)))
    | true => k (.tup [.p (.v (r.getD z)), .p (.v (.bool r.isSome))])
   | _, _ => False
  | _, _, _ => False
 | .mp id, .p (.agg cs), some ⟨.map kt et, _, _, _⟩ => match ti kt, ti et, H[id]? with
  | some ⟨.st fs, _, _, _⟩, some ⟨_, _, _, z⟩, some (some (.map es)) => match z.oneCell' with
   | true => tY ti fs cs es fun r => match ok with
    | false => k (.p (.v (r.getD z)))
    | true => k (.tup [.p (.v (r.getD z)), .p (.v (.bool r.isSome))])
   | false => False
  | _, _, _ => False
 | _, _, _ => False
inductive vA (d : TypeDesc) (key : Value) (es : List (Value × Value)) (X : Prop) : Prop
 | mk (h0 : MapKept.IsKey d key) (h1 : ∀ e ∈ es, MapKept.IsKey d e.1) (h2 : ∀ e ∈ es, e.1 ≠ key) (hk : X) : vA d key es X
def cF (ti : TypeId -> Option TI) (H : AH) (t : TypeId) (x ix v : AV) (k : AV -> AH -> Prop) : Prop := match x, ix, v, ti t with
 | .mp id, .p (.v kv), .p (.v vv), some ⟨.map kt _, _, _, _⟩ => match ti kt, H[id]? with
  | some ⟨tk, _, _, _⟩, some (some (.map es)) => match yn tk with
   | some d => vA d kv es (k .dead (H.set id (some (.map (es ++ [(kv, vv)])))))
   | none => False
  | _, _ => False
 | .mp id, .p (.agg cs), .p (.v vv), some ⟨.map kt _, _, _, _⟩ => match ti kt, H[id]? with
  | some ⟨.st fs, _, _, _⟩, some (some (.map es)) => tY ti fs cs es fun r => r = none /\ k .dead (H.set id (some (.map (es ++ [(cP cs, vv)]))))
  | _, _ => False
 | _, _, _, _ => False
def c_ (ns : List Int) : ByteArray := ns.foldl (fun r n => r.push (UInt8.ofNat n.toNat)) ByteArray.empty
inductive eU (xs : List PV) (k : AV -> Prop) : Prop
 | mk (ns : List Int) (h : xs = ns.map fun n => .v (.int .u8 n)) (hk : k (.p (.v (.string (c_ ns)))))
def vg (ti : TypeId -> Option TI) (src dst : TypeId) : Bool := match ti src, ti dst with
 | some ⟨.sl e, _, _, _⟩, some ⟨.str, _, _, _⟩ => match ti e with
  | some ⟨.int .u8, _, _, _⟩ => true
  | _ => false
 | _, _ => false
def iy (ti : TypeId -> Option TI) (H : AH) (src dst : TypeId) (x : AV) (k : AV -> Prop) : Prop := match x with
 | .buf id => match ti src, ti dst, H[id]? with
  | some ⟨.sl e, _, _, _⟩, some ⟨.str, _, _, _⟩, some (some (.buf e' _ xs)) => match ti e, Nat.beq e e' with
   | some ⟨.int .u8, _, _, _⟩, true => eU xs k
   | _, _ => False
  | _, _, _ => False
 | .p (.list nl xs) => match vg ti src dst with
  | true => eU xs k
  | false => jn ti src dst (.p (.list nl xs)) k
 | x => jn ti src dst x k
section
variable {P : Program} {ti : TypeId -> Option TI} {H : AH} {m : Nat -> Value} {S : Nat -> Prop} {w : World}
theorem wb {t : TypeId} {i : TI} (hi : cA P t = some i) {d : TypeDesc} (hd : yn i.k = some d) : P.underlying t = some d := by
 obtain ⟨inf, d', _, hu, _, _, _, hkd, _⟩ := aE hi
 rw [hu]
 cases d' <;> simp [kindOf] at hkd <;> rw [<- hkd] at hd <;> simp [yn] at hd <;> simp [hd]
theorem dY : ∀ (cs : List PV), (ca cs).length = cs.length
 | [] => rfl
 | .v _ :: r => by simp [ca, dY r]
 | .list _ _ :: r => by simp [ca, dY r]
 | .agg _ :: r => by simp [ca, dY r]
theorem y6 {cs : List PV} (h : my cs = true) : ∀ (k : Nat) (c : PV), cs[k]? = some c -> RdP S w c ((ca cs).getD k undef) := by
 induction cs with
 | nil => intro k c hk; cases hk
 | cons x r ih =>
  intro k c hk
  unfold my at h
  simp only [Bool.and_eq_true] at h
  cases x with
  | v x =>
   simp only [tP, ca, List.all_cons, Bool.and_eq_true] at h
   cases k with
   | zero => simp at hk; subst hk; exact .v _ h.2.1
   | succ k => simpa [ca] using ih (by unfold my; simp [h.1, h.2.2]) k c (by simpa using hk)
  | list => cases h.1
  | agg => cases h.1
theorem vM {cs : List PV} (h : my cs = true) : (cP cs = .agg (ca cs).toArray) /\ (ca cs).toArray.size = cs.length /\ ∀ (k : Nat) (c : PV), cs[k]? = some c -> RdP S w c ((ca cs).toArray.getD k undef) :=
 ⟨rfl, by simp [dY], fun k c hk => by simpa [Array.getD_eq_getD_getElem?, List.getD_eq_getElem?_getD] using y6 (S := S) (w := w) h k c hk⟩
theorem mq (hT : aK P ti) {xs : List PV} {vs : Array Value} (hlx : vs.size = xs.length) (hx : ∀ k c, xs[k]? = some c -> RdP S w c (vs.getD k undef)) {F : Array Field} {kt : TypeId} (hd : P.underlying kt = some (.struct F)) (hn : ∀ f ∈ F.toList, f.name ≠ "_") {r : Bool}
  (hr : oI ti (F.toList.map fun f => (f.type, f.offset)) xs xs = some r) (em : Bool) (w' : World) : (Instr.checkKey em 10000 kt (.agg vs)).run P w' = .ok () w' := by
 unfold Instr.checkKey
 simp only [Sem.run_bind, run_underlying hd, Result.andThen_ok]
 rw [<- Array.forIn_toList]
 generalize F.toList = L at hn hr
 induction L generalizing r with
 | nil => simp
 | cons f L ih =>
  unfold oI at hr
  simp only [List.map_cons] at hr
  have hname := hn f (List.mem_cons_self ..)
  split at hr
  ·rename_i i x y r' hi hxs hys hr'
   have hv : vs[f.offset]? = some x := by
    have h1 := hx _ _ hxs
    have h2 : f.offset < vs.size := by have := (List.getElem?_eq_some_iff.1 hxs).1; omega
    generalize hg : vs.getD f.offset undef = v at h1
    cases h1
    simp [h2] at hg ⊢
    exact hg
   obtain ⟨inf, d, _, hd2, _, _, _, hk, _⟩ := aE (hT.ok _ _ hi)
   have hrest := ih (fun g hg => hn g (List.mem_cons_of_mem _ hg)) hr'
   have hpc : (part f.type vs f.offset).run P w' = .ok x w' /\ (Instr.checkKey em 9999 f.type x).run P w' = .ok () w' := by
    split at hr
    ·rename_i hki
     rw [hki] at hk
     cases d <;> simp [kindOf] at hk
     refine ⟨by simp [part, isAgg, run_underlying hd2, hv], ?_⟩
     unfold Instr.checkKey
     simp only [Sem.run_bind, run_underlying hd2, Result.andThen_ok]
     rfl
    ·rename_i hki
     rw [hki] at hk
     cases d <;> simp [kindOf] at hk
     refine ⟨by simp [part, isAgg, run_underlying hd2, hv], ?_⟩
     unfold Instr.checkKey
     simp only [Sem.run_bind, run_underlying hd2, Result.andThen_ok]
     rfl
    ·rename_i hki
     rw [hki] at hk
     cases d <;> simp [kindOf] at hk
     refine ⟨by simp [part, isAgg, run_underlying hd2, hv], ?_⟩
     unfold Instr.checkKey
     simp only [Sem.run_bind, run_underlying hd2, Result.andThen_ok]
     rfl
    ·cases hr
   simp only [List.forIn_cons, Sem.run_bind, hname, ne_eq, not_false_eq_true, if_true, Result.andThen_ok, hpc.1, hpc.2, Sem.run_pure]
   simpa only [ne_eq, Sem.run_pure] using hrest
  ·cases hr
theorem dR {kt : TypeId} {kv : Value} {w' : World} : ∀ (l : List MapEntry) (i : Nat), (∀ e ∈ l, ∃ b : Bool, (Op.equal kt kv e.key).run P w' = .ok b w' /\ (b = true ↔ e.key = kv)) ->
  ((Instr.findAsking kt kv l i).run P w' = .ok none w' /\ ∀ e ∈ l, e.key ≠ kv) \/ ∃ j e, (Instr.findAsking kt kv l i).run P w' = .ok (some (j, e.val)) w' /\ e ∈ l /\ e.key = kv
 | [], i, _ => .inl ⟨by simp [Instr.findAsking], by simp⟩
 | e :: l, i, h => by
  obtain ⟨b, h1, h2⟩ := h e (List.mem_cons_self ..)
  cases b with
  | true => exact .inr ⟨i, e, by simp [Instr.findAsking, h1], List.mem_cons_self .., h2.1 rfl⟩
  | false =>
   have hne : e.key ≠ kv := fun he => by cases h2.2 he
   rcases dR l (i + 1) (fun y hy => h y (List.mem_cons_of_mem _ hy)) with ⟨h3, h4⟩ | ⟨j, e', h3, h4, h5⟩
   ·refine .inl ⟨by simp [Instr.findAsking, h1, h3], fun y hy => ?_⟩
    rcases List.mem_cons.1 hy with rfl | hy
    ·exact hne
    ·exact h4 y hy
   ·exact .inr ⟨j, e', by simp [Instr.findAsking, h1, h3], List.mem_cons_of_mem _ h4, h5⟩
theorem gR {kt : TypeId} {F : Array Field} (hd : P.underlying kt = some (.struct F)) {kv : Value} {w' : World} (l : List MapEntry) : (Instr.findKey kt kv l).run P w' = (Instr.findAsking kt kv l 0).run P w' := by
 unfold Instr.findKey
 simp only [Sem.run_bind, run_underlying hd, Result.andThen_ok]
 cases l with
 | nil => simp [Instr.findNow, Instr.findAsking]
 | cons e l => simp [Instr.findNow, Instr.sameNow]
theorem nW (hT : aK P ti) {kt : TypeId} {fs : List (TypeId × Nat)} {sz b0 : Nat} {z0 : Value} (hi : ti kt = some ⟨.st fs, sz, b0, z0⟩) {cs : List PV} {es : List (Value × Value)} {k : Option Value -> Prop} (h : tY ti fs cs es k) {ents : Array MapEntry} (he : ents.toList.map (fun e => (e.key, e.val)) = es) :
  ∃ r, k r /\ pR (cP cs) es r /\ (∀ (em : Bool) (w' : World), (Instr.checkKey em 10000 kt (cP cs)).run P w' = .ok () w') /\
   ((r = none /\ ∀ w' : World, (Instr.findKey kt (cP cs) ents.toList).run P w' = .ok none w') \/ ∃ v, r = some v /\ ∀ w' : World, ∃ j, (Instr.findKey kt (cP cs) ents.toList).run P w' = .ok (some (j, v)) w') := by
 obtain ⟨r, b, h0, h3, h1, h2, hk⟩ := h
 have hti := hT.ok _ _ hi
 obtain ⟨inf, d, _, hd, _, _, _, hkd, _⟩ := aE hti
 cases d <;> simp [kindOf] at hkd
 rename_i F
 obtain ⟨hsi, _, hnm⟩ := m6 hti hd
 have hF : P.fieldsOf kt = F := by simp [Program.fieldsOf, hd]
 have hx := fun w => vM (S := fun _ => True) (w := w) h0
 have heq : ∀ (w' : World), ∀ e ∈ ents.toList, ∃ b : Bool, (Op.equal kt (cP cs) e.key).run P w' = .ok b w' /\ (b = true ↔ e.key = cP cs) := by
  intro w' e hm
  obtain ⟨ds, b, g1, g2, g3, g4⟩ := h1 (e.key, e.val) (by rw [<- he]; exact List.mem_map_of_mem hm)
  simp only at g2 g4
  refine ⟨b, ?_, g4⟩
  rw [g2]
  have hy := vM (S := fun _ => True) (w := w') g1
  have hrun := jZ (S := fun _ => True) (w := w') hT (hx w').2.1 (hx w').2.2 hy.2.1 hy.2.2 (P.fieldsOf kt).toList (fun f hf => hnm f (by rw [hF] at hf; simpa using hf)) b (by rw [hF, hkd]; exact g3) w'
  show (Op.equalIn 10000 kt (.agg _) (.agg _)).run P w' = _
  rw [run_equalIn_struct w' 9999 kt _ _ (by rw [hF]; exact hd) hsi, hrun]
 refine ⟨r, hk, h2, fun em w' => mq (S := fun _ => True) (w := w') hT (hx w').2.1 (hx w').2.2 hd (fun f hf => hnm f (by simpa using hf)) (r := b) (by rw [hkd]; exact h3) em w', ?_⟩
 cases r with
 | none =>
  refine .inl ⟨rfl, fun w' => ?_⟩
  rw [gR hd]
  rcases dR ents.toList 0 (heq w') with ⟨g1, _⟩ | ⟨j, e, g1, g2, g3⟩
  ·exact g1
  ·exact absurd g3 (h2 (e.key, e.val) (by rw [<- he]; exact List.mem_map_of_mem g2))
 | some v =>
  refine .inr ⟨v, rfl, fun w' => ?_⟩
  rw [gR hd]
  rcases dR ents.toList 0 (heq w') with ⟨_, g2⟩ | ⟨j, e, g1, g2, g3⟩
  ·obtain ⟨⟨e, hm, hek⟩, _⟩ := h2
   rw [<- he] at hm
   obtain ⟨x, hx, rfl⟩ := List.mem_map.1 hm
   exact absurd hek (g2 x hx)
  ·have hv : e.val = v := h2.2 (e.key, e.val) (by rw [<- he]; exact List.mem_map_of_mem g2) g3
   exact ⟨j, by rw [g1, hv]⟩
theorem mQ (hT : aK P ti) (hp : Hp P H m S w) {t : TypeId} {ok : Bool} {x ix : AV} {k : AV -> Prop} {xv iv : Value} (h : gJ ti H t ok x ix k) (hx : Rd P H m S w x xv) (hi : Rd P H m S w ix iv) :
  ∃ av v, k av /\ Rd P H m S w av v /\ (Instr.lookup t xv iv ok).run P w = .ok v w := by
 unfold gJ at h
 split at h
 ·rename_i id kv kt et _ _ _ hti
  split at h
  ·rename_i tk _ _ _ _ _ _ z es hk he hl
   split at h
   ·rename_i d hd hz1
    have h1 := q_ (hT.ok _ _ hti) rfl
    have h2 := wb (hT.ok _ _ hk) hd
    obtain ⟨inf, d', hinf, _, hz, _⟩ := aE (hT.ok _ _ he)
    obtain ⟨b, ents, c, h3, h4, h5, h6⟩ := hp.obj id _ hl
    have hiv := hi.pv.1
    subst hiv
    obtain ⟨r, g0, g1, g2, hk⟩ := h
    cases hx with
    | mp _ b' hid hb' =>
     have h7 := hb' _ hl
     rw [h3] at h7
     injection h7 with h7; injection h7 with h7
     subst h7
     have hrun := nD (P := P) (z := z) h1 h2 (by simp [zeroValue, typeInfo, hinf, hz]) h4 g0 h5 g1 g2 ok
     have hro : (r.getD z).oneCell' = true := by
      cases r with
      | none => exact hz1
      | some v =>
       obtain ⟨⟨e, hm, hek⟩, hv⟩ := g2
       rw [<- hv e hm hek]
       exact h6 e hm
     cases ok with
     | false => exact ⟨_, _, hk, .p _ _ (.v _ hro), hrun⟩
     | true =>
      refine ⟨_, _, hk, .tup _ _ rfl fun j c hj => ?_, hrun⟩
      match j, hj with
      | 0, hj => cases hj; exact .p _ _ (.v _ hro)
      | 1, hj => cases hj; exact Rd.mk rfl
   ·cases h
  ·cases h
 ·rename_i id cs kt et _ _ _ hti
  split at h
  ·rename_i fs _ _ _ _ _ _ z es hk he hl
   split at h
   ·rename_i hz1
    have h1 := q_ (hT.ok _ _ hti) rfl
    obtain ⟨inf, d', hinf, _, hz, _⟩ := aE (hT.ok _ _ he)
    obtain ⟨b, ents, c, h3, h4, h5, h6⟩ := hp.obj id _ hl
    obtain ⟨r, hk, g2, g0, g3⟩ := nW (P := P) hT hk h h5
    obtain ⟨_, _, h0, _, _, _, _⟩ := h
    cases hi with | p _ _ hi =>
    have hiv := rU (by unfold my at h0; simp only [Bool.and_eq_true] at h0; exact h0.1) S w iv hi
    have hiv : iv = cP cs := hiv
    subst hiv
    cases hx with
    | mp _ b' hid hb' =>
     have h7 := hb' _ hl
     rw [h3] at h7
     injection h7 with h7; injection h7 with h7
     subst h7
     have hzr : (zeroValue et).run P w = .ok z w := by simp [zeroValue, typeInfo, hinf, hz]
     have hro : (r.getD z).oneCell' = true := by
      cases r with
      | none => exact hz1
      | some v =>
       obtain ⟨⟨e, hm, hek⟩, hv⟩ := g2
       rw [<- hv e hm hek]
       exact h6 e hm
     have hrun : (Instr.lookup t (.map (some b)) (cP cs) ok).run P w = .ok (if ok then .tuple #[r.getD z, .bool r.isSome] else r.getD z) w := by
      rcases g3 with ⟨rfl, g3⟩ | ⟨v, rfl, g3⟩
      ·cases ok <;> simp [Instr.lookup, run_underlying h1, MapKept.run_getObj_map h4, g0, g3, hzr, Result.andThen]
      ·obtain ⟨j, g3⟩ := g3 w
       cases ok <;> simp [Instr.lookup, run_underlying h1, MapKept.run_getObj_map h4, g0, g3, Result.andThen]
     cases ok with
     | false => exact ⟨_, _, hk, .p _ _ (.v _ hro), hrun⟩
     | true =>
      refine ⟨_, _, hk, .tup _ _ rfl fun j c hj => ?_, hrun⟩
      match j, hj with
      | 0, hj => cases hj; exact .p _ _ (.v _ hro)
      | 1, hj => cases hj; exact Rd.mk rfl
   ·cases h
  ·cases h
 ·cases h
theorem Stp.Cg (hp : Hp P H m S w) (t : TypeId) :
  Stp P H m S w (H ++ [some (.map [])]) (upd m H.length (.map (some w.heap.size))) S (w.alloc (.map #[] 0)) /\
  Rd P (H ++ [some (.map [])]) (upd m H.length (.map (some w.heap.size))) S (w.alloc (.map #[] 0)) (.mp H.length) (.map (some w.heap.size)) /\
  (Instr.makeMap t none).run P w = .ok (.map (some w.heap.size)) (w.alloc (.map #[] 0)) := by
 refine ⟨Stp.push hp rfl rfl rfl (by simp) (fun b hb => Below.heap_alloc w _ _ hb) (fun hk => ?_) (fun b hb => ?_), ?_, ?_⟩
 ·exact ⟨w.heap.size, #[], 0, rfl, heap_alloc_new w _, rfl, fun e he => by cases he⟩
 ·simp [Abs.blk] at hb
  omega
 ·exact .mp _ _ (by simp) fun o hl => if_pos rfl
 ·simp [Instr.makeMap]
theorem Stp.zz (hp : Hp P H m S w) {id b c c' : Nat} {ks ks' : List (Value × Value)} {es es' : Array MapEntry} (hl : live H id (.map ks)) (hm : m id = .map (some b)) (hb : w.heap[b]? = some (.map es c))
  (hk : es'.toList.map (fun e => (e.key, e.val)) = ks') (hv : ∀ e ∈ ks', e.2.oneCell' = true) :
  Stp P H m S w (H.set id (some (.map ks'))) m S { w with heap := w.heap.setIfInBounds b (.map es' c') } := by
 have hset := MapKept.heap_set (o' := .map es' c') hb
 refine Stp.at_ (fun j => j = id) hp (cL hl (fun e nl xs he => by cases he)) (fun j p hj hlp => ?_) rfl rfl rfl (by simp) (fun b2 hlt hn => ?_) (fun j p hj hlp hk2 => ?_) (fun j p b2 hj hlp hbb => ?_) (fun i j _ _ _ hi hj _ _ _ _ => hi.trans hj.symm)
 ·rcases aH hlp with ⟨rfl, _⟩ | ⟨_, hl'⟩
  ·exact absurd rfl hj
  ·exact ⟨hl', rfl⟩
 ·refine hset.2 b2 fun e => ?_
  subst e
  exact hn id _ rfl hl (by rw [hm]; rfl)
 ·subst hj
  rcases aH hlp with ⟨_, he⟩ | ⟨hne, _⟩
  ·injection he with he
   subst he
   exact ⟨b, es', c', hm, hset.1, hk, hv⟩
  ·exact absurd rfl hne
 ·subst hj
  rcases aH hlp with ⟨_, he⟩ | ⟨hne, _⟩
  ·injection he with he
   subst he
   refine .inl ⟨j, _, rfl, hl, ?_⟩
   rw [hm] at hbb ⊢
   exact hbb
  ·exact absurd rfl hne
theorem eY (hT : aK P ti) (hp : Hp P H m S w) {t : TypeId} {x ix v : AV} {k : AV -> AH -> Prop} {xv iv vv : Value} (h : cF ti H t x ix v k) (hx : Rd P H m S w x xv) (hi : Rd P H m S w ix iv) (hvv : Rd P H m S w v vv) :
  ∃ H' w', k .dead H' /\ Stp P H m S w H' m S w' /\ (Instr.mapUpdate t xv iv vv).run P w = .ok () w' := by
 unfold cF at h
 split at h
 ·rename_i id kv vv0 kt _ _ _ _ hti
  split at h
  ·rename_i tk _ _ _ es hk hl
   split at h
   ·rename_i d hd
    have h1 := q_ (hT.ok _ _ hti) rfl
    have h2 := wb (hT.ok _ _ hk) hd
    obtain ⟨g0, g1, g2, hk⟩ := h
    obtain ⟨b, ents, c, h3, h4, h5, h6⟩ := hp.obj id _ hl
    have hiv := hi.pv.1
    subst hiv
    obtain ⟨hvv', hone⟩ := hvv.pv
    subst hvv'
    cases hx with
    | mp _ b' hid hb' =>
     have h7 := hb' _ hl
     rw [h3] at h7
     injection h7 with h7; injection h7 with h7
     subst h7
     rcases find_spec g0 h5 g1 (r := none) g2 with ⟨_, h8⟩ | ⟨v, j, h8, _⟩
     ·refine ⟨_, _, hk, Stp.zz hp hl h3 h4 (es' := ents.push { key := _, val := _, born := c }) (c' := c + 1) (by rw [Array.toList_push, List.map_append, h5]; rfl) (fun e he => ?_), ?_⟩
      ·rcases List.mem_append.1 he with he | he
       ·exact h6 e he
       ·rw [List.mem_singleton.1 he]; exact hone
      ·simp [Instr.mapUpdate, run_underlying h1, MapKept.run_getObj_map h4, MapKept.run_checkKey h2 g0, MapKept.run_findKey h2 h8, MapKept.run_setObj_map _ h4, Result.andThen]
     ·cases h8
   ·cases h
  ·cases h
 ·rename_i id cs vv0 kt _ _ _ _ hti
  split at h
  ·rename_i fs _ _ _ es hk hl
   have h1 := q_ (hT.ok _ _ hti) rfl
   obtain ⟨b, ents, c, h3, h4, h5, h6⟩ := hp.obj id _ hl
   obtain ⟨r, ⟨hr, hk⟩, g2, g0, g3⟩ := nW (P := P) hT hk h h5
   subst hr
   obtain ⟨_, _, h0, _, _, _, _⟩ := h
   cases hi with | p _ _ hi =>
   have hiv := rU (by unfold my at h0; simp only [Bool.and_eq_true] at h0; exact h0.1) S w iv hi
   have hiv : iv = cP cs := hiv
   subst hiv
   obtain ⟨hvv', hone⟩ := hvv.pv
   subst hvv'
   cases hx with
   | mp _ b' hid hb' =>
    have h7 := hb' _ hl
    rw [h3] at h7
    injection h7 with h7; injection h7 with h7
    subst h7
    rcases g3 with ⟨_, h8⟩ | ⟨v, h8, _⟩
    ·refine ⟨_, _, hk, Stp.zz hp hl h3 h4 (es' := ents.push { key := _, val := _, born := c }) (c' := c + 1) (by rw [Array.toList_push, List.map_append, h5]; rfl) (fun e he => ?_), ?_⟩
     ·rcases List.mem_append.1 he with he | he
      ·exact h6 e he
      ·rw [List.mem_singleton.1 he]; exact hone
     ·simp [Instr.mapUpdate, run_underlying h1, MapKept.run_getObj_map h4, g0, h8, MapKept.run_setObj_map _ h4, Result.andThen]
      rfl
    ·cases h8
  ·cases h
 ·cases h
theorem lj (ns : List Int) : flat (ns.map fun n => PV.v (.int .u8 n)) = ns.map fun n => PV.v (.int .u8 n) := by
 unfold flat
 induction ns with
 | nil => rfl
 | cons n r ih => rw [List.map_cons, List.flatMap_cons, ih]; rfl
theorem o9 (hT : aK P ti) (hp : Hp P H m S w) {src dst : TypeId} {x : AV} {k : AV -> Prop} {xv : Value} (h : iy ti H src dst x k) (hx : Rd P H m S w x xv) :
  ∃ av v, k av /\ Rd P H m S w av v /\ (convert src dst xv).run P w = .ok v w := by
 unfold iy at h
 split at h
 ·rename_i id
  split at h
  ·rename_i e _ _ _ _ _ _ e' nl xs hs hd hl
   split at h
   ·rename_i he hee
    have hee := Nat.eq_of_beq_eq_true hee
    subst hee
    obtain ⟨ns, rfl, hk⟩ := h
    have h1 := bF (hT.ok _ _ hs) rfl
    have h2 := gO (hT.ok _ _ hd) rfl
    have h3 := n9 (hT.ok _ _ he) rfl
    obtain ⟨i, us, hinf, hpos, ho, hz, hr, _⟩ := hp.obj id _ hl
    have hv := hx.bX hl
    subst hv
    refine ⟨_, _, hk, Rd.mk rfl, ?_⟩
    rcases ho.2 with ⟨hn, h0⟩ | ⟨g, cap, cur, hn, _, hh, hc, hmx, hsz, htk⟩
    ·have : ns = [] := by simpa using h0
     subst this
     rw [hn, run_convert_bytes_string w src dst _ none 0 0 h1 h3 h2]
     simp [Conv.bytesToString, c_]
    ·rw [hn, run_convert_bytes_string w src dst _ _ _ _ h1 h3 h2]
     have hcell : ∀ j v, (ns.map (Value.int .u8))[j]? = some v -> w.cell? ((⟨g, 0, none⟩ : Addr).add j) = some v := fun j v hj => by
      rw [add_lit, fo hh, Nat.zero_add]
      have h5 : (flat (ns.map fun n => PV.v (.int .u8 n)))[j]? = some (PV.v v) := by
       rw [lj, List.getElem?_map]
       rw [List.getElem?_map] at hj
       cases hj2 : ns[j]? with
       | none => rw [hj2] at hj; cases hj
       | some n => rw [hj2] at hj; injection hj with hj; subst hj; rfl
      obtain ⟨u, hu, hru, _⟩ := hr j _ h5
      have e2 : u = v := by cases hru; rfl
      subst e2
      rw [<- htk, List.getElem?_take] at hu
      split at hu
      ·rw [<- Array.getElem?_toList]; exact hu
      ·cases hu
     have := run_loadCells_list (P := P) (w := w) ⟨g, 0, none⟩ (ns.map (Value.int .u8)) hcell
     rw [List.length_map] at this
     rw [List.length_map]
     exact run_bytesToString w _ _ _ ns this
   ·cases h
  ·cases h
 ·rename_i nl xs
  split at h
  ·rename_i hbt
   obtain ⟨ns, rfl, hk⟩ := h
   unfold vg at hbt
   split at hbt
   ·rename_i e _ _ _ _ _ _ hs hd
    split at hbt
    ·rename_i he
     have h1 := bF (hT.ok _ _ hs) rfl
     have h2 := gO (hT.ok _ _ hd) rfl
     have h3 := n9 (hT.ok _ _ he) rfl
     have hxr : RdP S w (.list nl (ns.map fun n => .v (.int .u8 n))) xv := by cases hx with | p _ _ h => exact h
     have hsrc := cJ hxr (sz := 1) (fun x hx => by
      simp only [List.mem_map] at hx
      obtain ⟨n, _, rfl⟩ := hx
      rfl)
     refine ⟨_, _, hk, Rd.mk rfl, ?_⟩
     have key : ∀ (a : Addr) (c : Nat), (∀ j v, (ns.map (Value.int .u8))[j]? = some v -> w.cell? (a.add j) = some v) -> (convert src dst (.slice (some a) ns.length c)).run P w = .ok (.string (c_ ns)) w := by
      intro a c hcell
      rw [run_convert_bytes_string w src dst _ _ _ _ h1 h3 h2]
      have := run_loadCells_list (P := P) (w := w) a (ns.map (Value.int .u8)) hcell
      rw [List.length_map] at this
      exact run_bytesToString w _ _ _ ns this
     rcases hsrc.at_ with ⟨h0, a, c, rfl⟩ | ⟨a, c, news, rfl, hnl, hat, hr⟩
     ·have : ns = [] := by simpa using h0
      subst this
      cases a with
      | none =>
       rw [run_convert_bytes_string w src dst _ none 0 c h1 h3 h2]
       simp [Conv.bytesToString, c_]
      | some a => exact key a c (by simp)
     ·rw [List.length_map]
      refine key a c fun j v hj => ?_
      have h5 : (flat (ns.map fun n => PV.v (.int .u8 n)))[j]? = some (PV.v v) := by
       rw [lj, List.getElem?_map]
       rw [List.getElem?_map] at hj
       cases hj2 : ns[j]? with
       | none => rw [hj2] at hj; cases hj
       | some n => rw [hj2] at hj; injection hj with hj; subst hj; rfl
      obtain ⟨u, hu, hru, _⟩ := hr j _ h5
      have e2 : u = v := by cases hru; rfl
      subst e2
      exact hat j u hu
    ·cases hbt
   ·cases hbt
  ·obtain ⟨av, v, h1, h2, h3⟩ := fS hT h hx
   exact ⟨av, v, h1, h2, h3 w⟩
 ·obtain ⟨av, v, h1, h2, h3⟩ := fS hT h hx
  exact ⟨av, v, h1, h2, h3 w⟩
end
end Go.Abs
namespace Go.Abs
open Go.RowKit
section
variable {P : Program} {ti : TypeId -> Option TI} {H : AH} {m : Nat -> Value} {S : Nat -> Prop} {w : World}
theorem Stp.view (hp : Hp P H m S w) {id : Nat} {o o' : AO} (hl : live H id o) (hnb : ∀ e nl xs, o' ≠ .buf e nl xs) (hok : ∀ H', aW H H' m m -> OK P H m S w (m id) o -> OK P H' m S w (m id) o') (hb : Abs.blk (m id) o' = Abs.blk (m id) o) (hbL : ∀ e xs l, o' = .bn e xs l -> ∃ l0, o = .bn e xs l0 := by intro _ _ _ h; cases h) :
  Stp P H m S w (H.set id (some o')) m S w := by
 have hold : aW H (H.set id (some o')) m m := cL hl (fun e nl xs he => absurd he (hnb e nl xs)) hbL
 refine Stp.at_ (fun j => j = id) hp hold (fun j p hj hlp => ?_) rfl rfl rfl (Nat.le_refl _) (fun _ _ _ => rfl) (fun j p hj hlp _ => ?_) (fun j p b hj hlp hbb => ?_) (fun i j _ _ _ hi hj _ _ _ _ => hi.trans hj.symm)
 ·rcases aH hlp with ⟨rfl, _⟩ | ⟨_, hl'⟩
  ·exact absurd rfl hj
  ·exact ⟨hl', rfl⟩
 ·subst hj
  rcases aH hlp with ⟨_, he⟩ | ⟨hne, _⟩
  ·injection he with he
   subst he
   exact hok _ hold (hp.obj j o hl)
  ·exact absurd rfl hne
 ·subst hj
  rcases aH hlp with ⟨_, he⟩ | ⟨hne, _⟩
  ·injection he with he
   subst he
   rw [hb] at hbb
   exact .inl ⟨j, o, rfl, hl, hbb⟩
  ·exact absurd rfl hne
theorem OK.CS {H' : AH} {mv : Value} {xs : List PV} (h : OK P H m S w mv (.cells (xs.map AV.p))) : OK P H' m S w mv (.arr xs) := by
 obtain ⟨b, T, vs, h1, h2, h3, h4⟩ := h
 refine ⟨b, T, vs, h1, h2, by rw [List.length_map] at h3; exact h3, fun k c hk => ?_⟩
 obtain ⟨h5, h6⟩ := h4 k (.p c) (by rw [List.getElem?_map, hk]; rfl)
 cases h5 with | p _ _ h => exact ⟨h, h6⟩
theorem OK.Am {H' : AH} {mv : Value} {xs : List PV} (h : OK P H m S w mv (.arr xs)) : OK P H' m S w mv (.cells (xs.map AV.p)) := by
 obtain ⟨b, T, vs, h1, h2, h3, h4⟩ := h
 refine ⟨b, T, vs, h1, h2, by rw [List.length_map]; exact h3, fun k c hk => ?_⟩
 rw [List.getElem?_map, Option.map_eq_some_iff] at hk
 obtain ⟨y, hy, rfl⟩ := hk
 obtain ⟨h5, h6⟩ := h4 k y hy
 exact ⟨.p _ _ h5, h6⟩
theorem Stp.AQ (hp : Hp P H m S w) {id : Nat} {xs : List PV} (hl : live H id (.arr xs)) : Stp P H m S w (H.set id (some (.cells (xs.map AV.p)))) m S w :=
 Stp.view hp hl (fun _ _ _ => by simp) (fun _ _ h => h.Am) rfl
theorem Stp.BF (hp : Hp P H m S w) {id : Nat} {xs : List PV} (hl : live H id (.cells (xs.map AV.p))) : Stp P H m S w (H.set id (some (.arr xs))) m S w :=
 Stp.view hp hl (fun _ _ _ => by simp) (fun _ _ h => h.CS) rfl
theorem vV {H : AH} {id : Nat} {o : AO} (h : id < H.length) : live (H.set id (some o)) id o := by
 unfold live; rw [List.getElem?_set_self h]
theorem A_ {H : AH} {id : Nat} {o : AO} (h : live H id o) : id < H.length := (List.getElem?_eq_some_iff.1 h).1
theorem Stp.AT (hp : Hp P H m S w) {id b : Nat} {o : AO} (hl : live H id o) (ho : o.isMap = false) (hb : Abs.blk (m id) o = some b) :
  Stp P H m S w (H.set id none) m (fun c => S c \/ c = b) w := by
 have hlive : ∀ {j : Nat} {o : AO}, live (H.set id none) j o -> j ≠ id /\ live H j o := by
  intro j o h
  rcases aH h with ⟨_, h⟩ | h
  ·cases h
  ·exact h
 have hold : aW H (H.set id none) m m := ⟨by simp, fun j _ o h => ⟨rfl, o, (hlive h).2, fun e nl xs he => ⟨nl, xs, he, Nat.le_refl _⟩, fun _ _ l he => ⟨l, he⟩⟩⟩
 refine ⟨hold, ⟨fun j o h => OK.mono (fun _ _ => rfl) (fun _ h => .inl h) hold (hp.obj j o (hlive h).2) fun _ _ => rfl, fun i j oi oj c hi hj => hp.inj i j oi oj c (hlive hi).2 (hlive hj).2, fun c hc => ?_, fun j o c h hb' hc => ?_, hp.glb.mono (fun _ _ => rfl) fun _ h => .inl h⟩,
  fun _ _ => rfl, fun _ h => .inl h, rfl, rfl, rfl, Nat.le_refl _, fun _ _ _ => rfl, fun c hc => ?_, fun c hc => ?_, fun c hc => ?_⟩
 ·rcases hc with hc | rfl
  ·exact hp.sub c hc
  ·exact (hp.obj id _ hl).bE hb
 ·rcases hc with hc | rfl
  ·exact hp.out j o c (hlive h).2 hb' hc
  ·exact (hlive h).1 (hp.inj j id o _ c (hlive h).2 hl hb' hb)
 ·rcases hc with hc | rfl
  ·exact .inl hc
  ·exact .inr (.inl ⟨id, _, hl, hb⟩)
 ·obtain ⟨j, o, h1, h2⟩ := hc
  exact .inl ⟨j, o, (hlive h1).2, h2⟩
 ·rcases hc with hc | rfl
  ·exact .inl hc
  ·exact .inr ((hp.obj id _ hl).isC hb ho)
def BS (i : TI) : Bool := match i.k with
 | .ar n _ => Nat.ble 16 n
 | _ => false
def gH (i : TI) : List PV := i.zero.cells.toList.map cX
theorem yW (i : TI) : zeroCells i = (gH i).map AV.p := by unfold zeroCells gH; rw [List.map_map]; rfl
theorem Stp.Ch (hp : Hp P H m S w) {t : TypeId} {i : TI} (hi : cA P t = some i) :
  Stp P H m S w (H ++ [some (.arr (gH i))]) (upd m H.length (.pointer (some ⟨w.heap.size, 0, none⟩))) S (w.alloc (.cells i.zero.cells t)) /\
  Rd P (H ++ [some (.arr (gH i))]) (upd m H.length (.pointer (some ⟨w.heap.size, 0, none⟩))) S (w.alloc (.cells i.zero.cells t)) (.ptr H.length 0) (.pointer (some ⟨w.heap.size, 0, none⟩)) := by
 have h1 := (Stp.nS hp (jL (H := H) (m := m) (S := S) (w := w) hi) t).1
 rw [yW] at h1
 have hl : live (H ++ [some (AO.cells ((gH i).map AV.p))]) H.length (.cells ((gH i).map AV.p)) := by unfold live; simp
 have h2 := h1.trans (Stp.BF h1.hp hl)
 have e : (H ++ [some (AO.cells ((gH i).map AV.p))]).set H.length (some (.arr (gH i))) = H ++ [some (.arr (gH i))] := by
  rw [List.set_append_right _ _ (Nat.le_refl _)]; simp
 rw [e] at h2
 exact ⟨h2, .ptr _ _ _ (by simp) fun o hl => ⟨w.heap.size, if_pos rfl, rfl⟩⟩
inductive Eg (xs : List PV) (off : Nat) (y : PV) (k : List PV -> Prop) : Prop
 | mk (n : Nat) (zs : List PV) (hn : off = n) (h : n < xs.length) (e : xs.set n y = zs) (hk : k zs)
theorem p4 : ∀ (ys : List PV) (xs : List PV) (off : Nat), off + ys.length <= xs.length -> setAt (xs.map AV.p) off (ys.map AV.p) = ((xs.take off) ++ ys ++ xs.drop (off + ys.length)).map AV.p
 | [], xs, off, _ => by simp [setAt]
 | y :: r, xs, off, h => by
  have h2 : off + (r.length + 1) <= xs.length := h
  show setAt ((xs.map AV.p).set off (.p y)) (off + 1) (r.map AV.p) = _
  have e : (xs.map AV.p).set off (.p y) = (xs.set off y).map AV.p := by rw [List.map_set]
  rw [e, p4 r (xs.set off y) (off + 1) (by rw [List.length_set]; omega)]
  congr 1
  rw [List.take_set, List.drop_set_of_lt (by omega), List.take_succ_eq_append_getElem (by omega), List.set_append_right _ _ (by rw [List.length_take]; omega)]
  have : off - (xs.take off).length = 0 := by rw [List.length_take]; omega
  rw [this]
  simp [Nat.add_assoc, Nat.add_comm 1]
theorem Stp.sJ (hp : Hp P H m S w) {t : TypeId} {i : TI} (hi : cA P t = some i) {id off : Nat} {xs ys : List PV} (hH : live H id (.arr xs)) {x : AV} {v : Value} (hx : Rd P H m S w x v) (hc : x.cells = ys.map AV.p) (h1 : x.cells.all AV.one = true) (hxl : x.cells.length = i.size)
  (hle : off + ys.length <= xs.length) {va : Value} (ha : Rd P H m S w (.ptr id off) va) :
  ∃ w', (Instr.storeAt t va v).run P w = .ok () w' /\ Stp P H m S w (H.set id (some (.arr (xs.take off ++ ys ++ xs.drop (off + ys.length))))) m S w' := by
 have hid := A_ hH
 have g1 := Stp.AQ hp hH
 have hyl : ys.length = i.size := by rw [<- hxl, hc, List.length_map]
 obtain ⟨w', g2, g3⟩ := Stp.storeCells g1.hp hi (vV hid) (hx.mono g1.keeps g1.sub g1.old) h1 hxl (by rw [List.length_map]; omega) (ha.mono g1.keeps g1.sub g1.old)
 rw [hc, p4 _ _ _ hle, List.set_set] at g3
 have g4 := (g1.trans g3).trans (Stp.BF g3.hp (vV hid))
 rw [List.set_set] at g4
 exact ⟨w', g2, g4⟩
def fQ (i : TI) (H : AH) (id off : Nat) (xs : List PV) (x : AV) (k : AV -> AH -> Prop) : Prop := match i.k.isAgg with
 | false => match x with
  | .p y => match y.one && Nat.beq i.size 1 with
   | true => Eg xs off y fun zs => k .dead (H.set id (some (.arr zs)))
   | false => False
  | _ => False
 | true => match off, x with
  | 0, .p (.agg ys) => sd ys i.size (sd xs i.size (k .dead (H.set id (some (.arr ys)))))
  | _, _ => False
theorem qf {y : PV} (h : y.one = true) : y.cells = [y] := by
 cases y with
 | v x => rfl
 | list nl xs => rfl
 | agg cs => cases h
theorem By {ys : List PV} {v : Value} (h : RdP S w (.agg ys) v) : (ys.map AV.p).all AV.one = true := by
 cases h with
 | agg _ vs hl ho hr =>
  rw [List.all_eq_true]
  intro c hc
  obtain ⟨y, hy, rfl⟩ := List.mem_map.1 hc
  obtain ⟨k, hk, rfl⟩ := List.getElem_of_mem hy
  have h1 := hr k _ (List.getElem?_eq_getElem hk)
  have h2 := ho k _ (List.getElem?_eq_getElem hk)
  generalize ys[k] = y at h1 ⊢
  generalize vs.getD k undef = u at h1 h2
  cases y with
  | v x => rfl
  | list nl xs => rfl
  | agg cs =>
   cases h1 with
   | agg _ us => cases h2
theorem kU (hp : Hp P H m S w) {t : TypeId} {i : TI} (hi : cA P t = some i) {id off : Nat} {xs : List PV} (hH : live H id (.arr xs)) {x : AV} {v va : Value} {k : AV -> AH -> Prop} (h : fQ i H id off xs x k) (hx : Rd P H m S w x v) (ha : Rd P H m S w (.ptr id off) va) :
  ∃ H' w', k .dead H' /\ (Instr.storeAt t va v).run P w = .ok () w' /\ Stp P H m S w H' m S w' := by
 unfold fQ at h
 split at h
 ·split at h
  ·rename_i y
   split at h
   ·rename_i hc
    simp only [Bool.and_eq_true] at hc
    obtain ⟨hy1, hs⟩ := hc
    have hs := Nat.eq_of_beq_eq_true hs
    obtain ⟨n, zs, rfl, hlt, rfl, hk⟩ := h
    have hcl : (AV.p y).cells = [y].map AV.p := by cases y with
     | v x => rfl
     | list nl xs => rfl
     | agg cs => cases hy1
    have hone : ((AV.p y).cells).all AV.one = true := by
     rw [hcl]; cases y with
     | v x => rfl
     | list nl xs => rfl
     | agg cs => cases hy1
    obtain ⟨w', g1, g2⟩ := Stp.sJ (ys := [y]) (off := off) hp hi hH hx hcl hone (by rw [hcl, hs]; rfl) hlt ha
    refine ⟨_, w', hk, g1, ?_⟩
    have e : xs.set off y = xs.take off ++ [y] ++ xs.drop (off + [y].length) := by
     rw [List.set_eq_take_append_cons_drop, if_pos hlt]; simp
    rw [e]
    exact g2
   ·cases h
  ·cases h
 ·split at h
  ·rename_i ys
   obtain ⟨h1, h2, hk⟩ := h
   have hcl : (AV.p (.agg ys)).cells = ys.map AV.p := rfl
   have h1one : ((AV.p (.agg ys)).cells).all AV.one = true := by
    rw [hcl]
    cases hx with | p _ _ h => exact By h
   obtain ⟨w', g1, g2⟩ := Stp.sJ (ys := ys) (off := 0) hp hi hH hx hcl h1one (by rw [hcl, List.length_map]; exact h1) (by omega) ha
   refine ⟨_, w', hk, g1, ?_⟩
   have e : xs.take 0 ++ ys ++ xs.drop (0 + ys.length) = ys := by
    rw [List.drop_eq_nil_of_le (by omega)]; simp
   rw [e] at g2
   exact g2
  ·cases h
theorem Stp.C8 (hp : Hp P H m S w) {id : Nat} {e : TypeId} {nl : Bool} {xs : List PV} (hl : live H id (.buf e nl xs)) {a : Option Addr} {c h : Nat} (hm : m id = .slice a xs.length c) (hh : h <= xs.length) :
  Stp P H m S w (H.set id none ++ [some (.buf e nl (xs.take h))]) (upd m H.length (.slice a h c)) S w := by
 have hid : id < H.length := (List.getElem?_eq_some_iff.1 hl).1
 have hlen : (H.set id none).length = H.length := by simp
 have hnot : ∀ {o}, ¬ live (H.set id none) id o := fun {o} h => by
  rcases aH h with ⟨_, he⟩ | ⟨hne, _⟩
  ·cases he
  ·exact hne rfl
 have hup : upd m H.length (.slice a h c) H.length = .slice a h c := if_pos rfl
 have hlv : ∀ {j o}, live (H.set id none ++ [some (.buf e nl (xs.take h))]) j o -> (j = H.length /\ o = .buf e nl (xs.take h)) \/ (j ≠ id /\ j < H.length /\ live H j o) := fun {j o} h1 => by
  rcases bw h1 with ⟨h2, h3⟩ | ⟨h2, h3⟩
  ·exact .inl ⟨by rw [h2, hlen], h3⟩
  ·rcases aH h3 with ⟨_, he⟩ | ⟨hne, h4⟩
   ·cases he
   ·exact .inr ⟨hne, by omega, h4⟩
 have hold : aW H (H.set id none ++ [some (.buf e nl (xs.take h))]) m (upd m H.length (.slice a h c)) := by
  refine aW.trans (H' := H.set id none) (m' := m) ⟨by simp, fun j hj o' h => ⟨rfl, o', (by rcases aH h with ⟨_, he⟩ | ⟨_, h⟩; cases he; exact h), fun _ _ _ e => ⟨_, _, e, Nat.le_refl _⟩, fun _ _ l e => ⟨l, e⟩⟩⟩ ?_
  have := jw (H := H.set id none) (m := m) (.buf e nl (xs.take h)) (.slice a h c)
  rw [hlen] at this
  exact this
 obtain ⟨inf, us, hinf, hsz, ho, hz, hr, hn⟩ := hp.obj id _ hl
 refine Stp.at_ (fun j => j = id \/ j = H.length) hp hold (fun j o hj h1 => ?_) rfl rfl rfl (Nat.le_refl _) (fun _ _ _ => rfl) (fun j o hj h1 _ => ?_) (fun j o b hj h1 hb => ?_) (fun i j _ _ _ hi hj h1 h2 _ _ => ?_)
 ·rcases hlv h1 with ⟨rfl, _⟩ | ⟨h2, h3, h4⟩
  ·exact absurd (.inr rfl) hj
  ·exact ⟨h4, if_neg (by omega)⟩
 ·rcases hlv h1 with ⟨rfl, rfl⟩ | ⟨h2, h3, h4⟩
  ·rw [hup]
   have hfl : flat xs = flat (xs.take h) ++ flat (xs.drop h) := by
    unfold flat
    rw [<- List.flatMap_append, List.take_append_drop]
   have htl : (xs.take h).length = h := by rw [List.length_take]; omega
   have hfl2 : (flat (xs.take h)).length = h * inf.size := by rw [aJ (sz := inf.size) (fun x hx => hz x (List.mem_of_mem_take hx)), htl]
   refine ⟨inf, us.take (h * inf.size), hinf, hsz, ⟨?_, ?_⟩, fun x hx => hz x (List.mem_of_mem_take hx), fun k c2 hk => ?_, ?_⟩
   ·have : h * inf.size <= xs.length * inf.size := Nat.mul_le_mul_right _ hh
    rw [List.length_take, ho.1, htl]; omega
   ·rw [htl]
    rcases ho.2 with ⟨hv, h0⟩ | ⟨g, cap, cur, hv, h0, hh2, hc, hcm, hcs, htk⟩
    ·rw [hm] at hv
     injection hv with e1 e2 e3
     exact .inl ⟨by rw [e1, e3, show h = 0 by omega], by omega⟩
    ·rw [hm] at hv
     injection hv with e1 e2 e3
     refine .inr ⟨g, cap, cur, by rw [e1, e3], h0, hh2, by omega, hcm, hcs, ?_⟩
     rw [<- htk, List.take_take]
     congr 1
     have : h * inf.size <= xs.length * inf.size := Nat.mul_le_mul_right _ hh
     omega
   ·have hkl : k < h * inf.size := by rw [<- hfl2]; exact (List.getElem?_eq_some_iff.1 hk).1
    obtain ⟨u, h5, h6, h7⟩ := hr k c2 (by rw [hfl, List.getElem?_append_left (by omega)]; exact hk)
    exact ⟨u, by rw [List.getElem?_take, if_pos hkl]; exact h5, h6, h7⟩
   ·rw [hn, hm]
    constructor
    ·intro e
     injection e with e1 e2 e3
     rw [e1, e3, show h = 0 by omega]
    ·intro e
     injection e with e1 e2 e3
     rcases ho.2 with ⟨hv, h0⟩ | ⟨g, cap, cur, hv, _⟩
     ·rw [hm] at hv; exact hv
     ·rw [hm, e1] at hv; injection hv with e4; cases e4
  ·rcases hj with rfl | rfl
   ·exact absurd rfl h2
   ·omega
 ·rcases hlv h1 with ⟨rfl, rfl⟩ | ⟨h2, h3, h4⟩
  ·rw [hup] at hb
   refine .inl ⟨id, _, .inl rfl, hl, ?_⟩
   rw [hm]
   show (Value.slice a xs.length c).ownBlock = some b
   have hb : (Value.slice a h c).ownBlock = some b := hb
   cases a with
   | none => exact hb
   | some x => exact hb
  ·rcases hj with rfl | rfl
   ·exact absurd rfl h2
   ·omega
 ·rcases hlv h1 with ⟨e1, _⟩ | ⟨g1, g2, _⟩ <;> rcases hlv h2 with ⟨e2, _⟩ | ⟨g3, g4, _⟩
  ·exact e1.trans e2.symm
  ·rcases hj with rfl | rfl
   ·exact absurd rfl g3
   ·omega
  ·rcases hi with rfl | rfl
   ·exact absurd rfl g1
   ·omega
  ·rcases hi with rfl | rfl
   ·exact absurd rfl g1
   ·omega
inductive sj (X Y : Prop) : Prop
 | part (h : X) : sj X Y
 | own (h : Y) : sj X Y
def qz (ti : TypeId -> Option TI) (H : AH) (t : TypeId) (id : Nat) (lo hi mx : Option AV) (k : AV -> AH -> Prop) : Prop := match lo, hi, mx with
 | none, some h, none => match ti t with
  | some ⟨.sl e, _, _, _⟩ => match ti e with
   | some _ => match H[id]?, asI h with
    | some (some (.buf e' nl xs)), some h => match Nat.beq e e' with
     | true => (0 <= h /\ h <= (xs.length : Int)) /\ IsL (xs.take h.toNat) fun ys => k (.buf H.length) (H.set id none ++ [some (.buf e nl ys)])
     | false => False
    | _, _ => False
   | none => False
  | _ => False
 | _, _, _ => False
theorem o6 (hT : aK P ti) (hp : Hp P H m S w) {t : TypeId} {id : Nat} {lo hi mx : Option AV} {k : AV -> AH -> Prop} {vx : Value} {vlo vhi vmx : Option Value} (h : qz ti H t id lo hi mx k) (hx : Rd P H m S w (.buf id) vx)
  (hlo : lo = none /\ vlo = none \/ ∃ b v, lo = some b /\ vlo = some v /\ Rd P H m S w b v) (hhi : hi = none /\ vhi = none \/ ∃ b v, hi = some b /\ vhi = some v /\ Rd P H m S w b v) (hmx : mx = none /\ vmx = none \/ ∃ b v, mx = some b /\ vmx = some v /\ Rd P H m S w b v) :
  ∃ av H' m' S' v, k av H' /\ (Instr.sliceAt t vx vlo vhi vmx).run P w = .ok v w /\ Stp P H m S w H' m' S' w /\ Rd P H' m' S' w av v := by
 unfold qz at h
 split at h
 ·rename_i h'
  split at h
  ·rename_i e _ _ _ hti
   split at h
   ·rename_i ie hie
    split at h
    ·rename_i e' nl xs hq hH hI
     split at h
     ·rename_i hbe
      obtain rfl := Nat.eq_of_beq_eq_true hbe
      obtain ⟨⟨h0, h1⟩, ys, rfl, hk⟩ := h
      rcases hlo with ⟨_, rfl⟩ | ⟨b, v, hb, _⟩
      rotate_left
      ·cases hb
      rcases hmx with ⟨_, rfl⟩ | ⟨b, v, hb, _⟩
      rotate_left
      ·cases hb
      rcases hhi with ⟨hb, _⟩ | ⟨b, v, hb, rfl, hrv⟩
      ·cases hb
      injection hb with hb
      subst hb
      obtain ⟨kd, rfl⟩ := eS hI hrv
      have hu := bF (hT.ok _ _ hti) rfl
      obtain ⟨inf, hinf, hs⟩ := cV (hT.ok _ _ hie)
      obtain ⟨a, c, hm, _, hlc, _⟩ := cv hp hH
      have hv := hx.bX hH
      rw [hm] at hv
      subst hv
      have hbd := qw (P := P) (lo := none) (hi := some (.int kd hq)) (ho := some hq) (l := 0) (.inl ⟨rfl, rfl⟩) (.inr ⟨kd, hq, rfl, rfl⟩) ⟨Int.le_refl _, h0, h1⟩ hlc
      have hst := Stp.C8 hp hH hm (h := hq.toNat) (by omega)
      refine ⟨_, _, _, _, .slice a hq.toNat c, hk, ?_, hst, ?_⟩
      ·have hrun := dt (P := P) (a := a) hu hinf hbd w
       rw [hrun]
       congr 2
       ·split
        ·rfl
        ·cases a with
         | none => rfl
         | some x => show some (x.add (0 * inf.size)) = some x; rw [Nat.zero_mul]; rfl
      ·refine .buf _ _ _ _ (by simp) fun o hl2 => ?_
       have : upd m H.length (.slice a hq.toNat c) H.length = .slice a hq.toNat c := if_pos rfl
       exact this
     ·cases h
    ·cases h
   ·cases h
  ·cases h
 ·cases h
def ew (ti : TypeId -> Option TI) (H : AH) (t : TypeId) (x : AV) (lo hi mx : Option AV) (k : AV -> AH -> Prop) : Prop := match x with
 | .ptr id 0 => match ti t, lo, hi, mx with
  | some ⟨.ar n e, _, _, _⟩, none, some h, none => match H[id]?, asI h, ti e with
   | some (some (.arr xs)), some h, some ⟨_, 1, _, _⟩ => (0 <= h /\ h <= n /\ n <= 65536) /\ sd xs n (k (.p (.list false (xs.take h.toNat))) (H.set id none))
   | _, _, _ => False
  | _, _, _, _ => False
 | .p (.list nl xs) => match lo, hi, mx, ti t with
  | none, some h, some m, some ⟨.sl e, _, _, _⟩ => match asI h, asI m, ti e with
   | some h, some m, some _ => (h = m /\ 0 <= h /\ h <= (xs.length : Int)) /\ IsL (xs.take h.toNat) fun ys => k (.cap nl ys) H
   | _, _, _ => False
  | lo, hi, mx, _ => dn ti H t (.p (.list nl xs)) lo hi mx fun v => k v H
 | .buf id => sj (dn ti H t (.buf id) lo hi mx fun v => k v H) (qz ti H t id lo hi mx k)
 | x => dn ti H t x lo hi mx fun v => k v H
theorem CT {t : TypeId} {i : TI} {n : Nat} {e : TypeId} (hi : cA P t = some i) (hk : i.k = .ar n e) : P.underlying t = some (.array n e) := by
 obtain ⟨inf, d, _, hd, _, _, _, hkd, _⟩ := aE hi
 rw [hk] at hkd
 cases d <;> simp [kindOf] at hkd
 obtain ⟨rfl, rfl⟩ := hkd
 exact hd
theorem nQ : ∀ {xs : List PV}, (∀ x ∈ xs, x.one = true) -> flat xs = xs
 | [], _ => rfl
 | x :: r, h => by
  show x.cells ++ flat r = _
  rw [qf (h x (List.mem_cons_self ..)), nQ fun y hy => h y (List.mem_cons_of_mem _ hy)]; rfl
theorem Cc {y : PV} {u : Value} (h : RdP S w y u) (h1 : u.oneCell' = true) : y.one = true := by
 cases h with
 | v x _ => rfl
 | nil => rfl
 | list => rfl
 | agg => cases h1
theorem mS (hT : aK P ti) (hp : Hp P H m S w) {t : TypeId} {x : AV} {lo hi mx : Option AV} {k : AV -> AH -> Prop} {vx : Value} {vlo vhi vmx : Option Value} (h : ew ti H t x lo hi mx k) (hx : Rd P H m S w x vx)
  (hlo : lo = none /\ vlo = none \/ ∃ b v, lo = some b /\ vlo = some v /\ Rd P H m S w b v) (hhi : hi = none /\ vhi = none \/ ∃ b v, hi = some b /\ vhi = some v /\ Rd P H m S w b v) (hmx : mx = none /\ vmx = none \/ ∃ b v, mx = some b /\ vmx = some v /\ Rd P H m S w b v)
  (hsl : ∀ {k' : AV -> Prop}, dn ti H t x lo hi mx k' -> ∃ av v, k' av /\ Rd P H m S w av v /\ (Instr.sliceAt t vx vlo vhi vmx).run P w = .ok v w) :
  ∃ av H' m' S' v, k av H' /\ (Instr.sliceAt t vx vlo vhi vmx).run P w = .ok v w /\ Stp P H m S w H' m' S' w /\ Rd P H' m' S' w av v := by
 unfold ew at h
 split at h
 ·rename_i id
  split at h
  ·rename_i n e _ _ _ hv hti
   split at h
   ·rename_i xs h' _ _ _ hH hI hte
    obtain ⟨⟨h0, h1, h2⟩, hlen, hk⟩ := h
    rcases hlo with ⟨_, rfl⟩ | ⟨b, v, hb, _⟩
    rotate_left
    ·cases hb
    rcases hmx with ⟨_, rfl⟩ | ⟨b, v, hb, _⟩
    rotate_left
    ·cases hb
    rcases hhi with ⟨hb, _⟩ | ⟨b, v, hb, rfl, hrv⟩
    ·cases hb
    injection hb with hb
    subst hb
    obtain ⟨kd, rfl⟩ := eS hI hrv
    obtain ⟨b, T, vs, hm1, hh, hl, hr⟩ := hp.obj id _ hH
    cases hx with
    | ptr _ _ a hid hpt =>
     obtain ⟨b', hm2, rfl⟩ := hpt _ hH
     rw [hm1] at hm2
     obtain rfl : b = b' := by injection hm2 with h2; injection h2 with h2; injection h2
     have hu := CT (hT.ok _ _ hti) rfl
     obtain ⟨inf, d, hinf, _⟩ := aE (hT.ok _ _ hte)
     have hst := Stp.AT hp hH rfl (b := b) (by rw [hm1]; rfl)
     obtain ⟨_, hrun⟩ := qw (P := P) (len := n) (cap := n) (l := 0) (ho := some h') (lo := none) (hi := some (.int kd h')) (.inl ⟨rfl, rfl⟩) (.inr ⟨kd, h', rfl, rfl⟩) ⟨Int.le_refl _, h0, h1⟩ (Nat.le_refl _)
     have hone : ∀ y ∈ xs.take h'.toNat, y.one = true := fun y hy => by
      obtain ⟨j, hj, rfl⟩ := List.getElem_of_mem (List.mem_of_mem_take hy)
      obtain ⟨g1, g2⟩ := hr j _ (List.getElem?_eq_getElem hj)
      exact Cc g1 g2
     have htl : (xs.take h'.toNat).length = h'.toNat := by rw [List.length_take]; omega
     refine ⟨_, _, _, _, .slice (some ⟨b, 0, none⟩) (xs.take h'.toNat).length n, hk, ?_, hst, .p _ _ (.list _ _ n 1 (fun j => vs.getD j undef) (fun _ => .inr rfl) (by rw [htl]; omega) (by simp only [maxLen]; omega) (fun y hy => by rw [qf (hone y hy)]; rfl) (fun j c hj => ?_) fun j c hj => ?_)⟩
     ·simp [Instr.sliceAt, run_underlying hu, Instr.sureAddr, hrun w rfl, sizeOf, typeInfo, hinf, htl, Addr.add]
     ·rw [nQ hone, List.getElem?_take] at hj
      split at hj
      ·obtain ⟨_, g2⟩ := hr j c hj
       have hlt : j < vs.size := Nat.lt_of_lt_of_le (List.getElem?_eq_some_iff.1 hj).1 hl
       refine ⟨?_, g2⟩
       rw [add_lit, fo hh, Nat.zero_add]
       simp [Array.getD, hlt]
      ·cases hj
     ·rw [nQ hone, List.getElem?_take] at hj
      split at hj
      ·exact (hr j c hj).1.mono (fun _ _ => rfl) (fun _ h => .inl h)
      ·cases hj
   ·cases h
  ·cases h
 ·split at h
  ·rename_i e _ _ _ hti
   split at h
   ·rename_i h1 m1 _ hI1 hI2 hte
    obtain ⟨⟨rfl, h0, h2⟩, _, rfl, hk⟩ := h
    rcases hlo with ⟨_, rfl⟩ | ⟨b, v, hb, _⟩
    rotate_left
    ·cases hb
    rcases hhi with ⟨hb, _⟩ | ⟨b, v, hb, rfl, hrv⟩
    ·cases hb
    injection hb with hb
    subst hb
    rcases hmx with ⟨hb, _⟩ | ⟨b, v, hb, rfl, hrv2⟩
    ·cases hb
    injection hb with hb
    subst hb
    obtain ⟨kd, rfl⟩ := eS hI1 hrv
    obtain ⟨kd2, rfl⟩ := eS hI2 hrv2
    have hu := bF (hT.ok _ _ hti) rfl
    obtain ⟨inf, d, hinf, _⟩ := aE (hT.ok _ _ hte)
    cases hx with
    | p _ _ hr =>
     obtain ⟨a, c, rfl, _, hlc, _⟩ := Rd.iI (P := P) (H := H) (m := m) (.p _ _ hr)
     exact ⟨_, H, m, S, _, hk, zn hu hinf h0 (by omega) w, Stp.refl hp, .cap _ _ _ _ (hr.Dd (by omega))⟩
   ·cases h
  ·obtain ⟨av, v, h1, h2, h3⟩ := hsl h
   exact ⟨av, H, m, S, v, h1, h3, Stp.refl hp, h2⟩
 ·cases h with
  | part h =>
   obtain ⟨av, v, h1, h2, h3⟩ := hsl h
   exact ⟨av, H, m, S, v, h1, h3, Stp.refl hp, h2⟩
  | own h => exact o6 hT hp h hx hlo hhi hmx
 ·obtain ⟨av, v, h1, h2, h3⟩ := hsl h
  exact ⟨av, H, m, S, v, h1, h3, Stp.refl hp, h2⟩
def gP (b : ByteArray) : List PV := b.data.toList.map fun c => PV.v (.int .u8 c.toNat)
theorem jX (b : ByteArray) : (gP b).length = b.size := by
 rw [gP, List.length_map, Array.length_toList]
 rfl
theorem pP {t u ty e : TypeId} {i : TypeInfo} (ht : P.underlying t = some (.slice e)) (hu : P.underlying u = some .string) (hi : P.info? e = some i) (hz : i.zero = some (.int .u8 0)) (hsize : i.size = 1) (hby : i.bytes = 1)
  {v : Value} {n : Nat} {us : List Value} (ho : w.ownsRow 0 e i.size v n us) (b : ByteArray) (h63 : n + b.size <= maxLen) (hbytes : n + b.size <= 140737488355328) :
  vG P S w e i.size (Builtin.append_ #[t, u] ty #[v, .string b]) v n us (gP b) := by
 rw [hsize] at ho ⊢
 have hsmall : n + b.size <= 9223372036854775807 := by simp only [maxLen] at h63; omega
 have hl := jX b
 obtain ⟨v', w', h1, h2, h3, h4⟩ := Lib.run_append_own_string (P := P) w 0 t u ty e i ht hu hi hz hsize hby v n us ho b h63 hbytes (Nat.zero_le _)
 refine ⟨v', w', Lib.strCells b, h1, by rw [hl]; exact h2, h3, by rw [hl]; exact h4, ?_, fun k c hk => ?_⟩
 ·have hown := ho
  rcases ho.2 with ⟨rfl, rfl⟩ | ⟨g, cap, cur, rfl, hbg, hg, hnc, hcm, hcs, htake⟩
  ·by_cases hm : b.size = 0
   ·have := h4.2 ⟨rfl, hm⟩
    subst this
    exact .inl rfl
   ·have hr := run_append_nil_string (P := P) w t u ty e i (.int .u8 0) ht hu hi hz b (by omega) (by omega) (by rw [hby]; omega)
    rw [h1] at hr
    injection hr with hr _
    subst hr
    exact .inr rfl
  ·by_cases hroom : n + b.size <= cap
   ·have hr := Lib.run_append_room_string (P := P) w t u ty e i ht hu hi hsize g n cap cur hg b hroom (by omega)
    rw [h1] at hr
    injection hr with hr _
    subst hr
    exact .inl rfl
   ·have hxl : us.length = n := by simpa using hown.1
    have hr := Lib.run_append_grow_string (P := P) w t u ty e i (.int .u8 0) ht hu hi hz ⟨g, 0, none⟩ n cap us (by rw [hsize]; omega) (hown.cells (g := g) rfl) b (by omega) (by omega) (by rw [hby]; exact growslice_fits (by omega) (by omega))
    rw [h1] at hr
    injection hr with hr _
    subst hr
    exact .inr rfl
 ·have hf : flat (gP b) = gP b := by
   unfold gP
   generalize b.data.toList = l
   unfold flat
   induction l with
   | nil => rfl
   | cons x r ih => rw [List.map_cons, List.flatMap_cons, ih]; rfl
  rw [hf, gP, List.getElem?_map, Option.map_eq_some_iff] at hk
  obtain ⟨x, hx, rfl⟩ := hk
  refine ⟨.int .u8 x.toNat, ?_, .v _ rfl, rfl⟩
  rw [Lib.strCells, List.getElem?_map, hx]
  rfl
def qI (H : AH) (e : TypeId) (ob : Option Nat) (nl : Bool) (xs : List PV) (b : ByteArray) (k : AV -> AH -> Prop) : Prop :=
 IsL (gP b) fun ys => bx xs ys 1 fun zs => k (.buf H.length) (kill H ob ++ [some (.buf e (ys.isEmpty && nl) zs)])
def uh (ti : TypeId -> Option TI) (H : AH) (t t' : TypeId) (s x : AV) (k : AV -> AH -> Prop) : Prop := match ti t, ti t', x with
 | some ⟨.sl e, _, _, _⟩, some ⟨.str, _, _, _⟩, .p (.v (.string b)) => match ti e with
  | some ⟨_, 1, 1, .int .u8 (.ofNat 0)⟩ => match s with
   | .p (.list true []) => qI H e none true [] b k
   | .buf id => match H[id]? with
    | some (some (.buf e' nl xs)) => match Nat.beq e e' with
     | true => qI H e (some id) nl xs b k
     | false => False
    | _ => False
   | _ => False
  | _ => False
 | _, _, _ => False
theorem qH {ty : TypeId} (hT : aK P ti) (hp : Hp P H m S w) {t t' : TypeId} {s x : AV} {k : AV -> AH -> Prop} {vs vx : Value} (h : uh ti H t t' s x k) (hs : Rd P H m S w s vs) (hx : Rd P H m S w x vx) :
  ∃ av H' m' S' v w', k av H' /\ (Builtin.append_ #[t, t'] ty #[vs, vx]).run P w = .ok v w' /\ Stp P H m S w H' m' S' w' /\ Rd P H' m' S' w' av v := by
 unfold uh at h
 split at h
 ·rename_i e _ _ _ _ _ _ b hti hti'
  obtain ⟨rfl, _⟩ := hx.pv
  split at h
  ·rename_i tk hte
   have hu := bF (hT.ok _ _ hti) rfl
   have hu' := gO (hT.ok _ _ hti') rfl
   obtain ⟨inf, d, hinf, hd, hz, hsz, hby, _, _, _⟩ := aE (hT.ok _ _ hte)
   simp only at hsz hby hz
   have fin : ∀ {ob : Option Nat} {nl : Bool} {xs : List PV}, BC H m e ob vs nl xs -> qI H e ob nl xs b k ->
     ∃ av H' m' S' v w', k av H' /\ (Builtin.append_ #[t, t'] ty #[vs, .string b]).run P w = .ok v w' /\ Stp P H m S w H' m' S' w' /\ Rd P H' m' S' w' av v := by
    intro ob nl xs hb h
    obtain ⟨_, rfl, _, rfl, ⟨h1, h2⟩, hk⟩ := h
    have hl := jX b
    rw [List.length_append] at h1 h2
    obtain ⟨v', w', h3, h4, h5⟩ := Stp.appendCore hp hinf (by omega) hb (fun x hx => by
     simp only [gP, List.mem_map] at hx
     obtain ⟨y, _, rfl⟩ := hx
     rw [hsz]
     rfl) fun us ho => pP (ty := ty) (S := S) hu hu' hinf hz hsz hby ho b (by omega) (by omega)
    exact ⟨_, _, _, _, v', w', hk, h3, h4, h5⟩
   split at h
   ·exact fin (.inl ⟨rfl, hs.ff, rfl, rfl⟩) h
   ·rename_i id
    split at h
    ·rename_i e' nl xs hH
     split at h
     ·rename_i hbe
      obtain rfl := Nat.eq_of_beq_eq_true hbe
      exact fin (.inr ⟨id, rfl, hH, hs.bX hH⟩) h
     ·cases h
    ·cases h
   ·cases h
  ·cases h
 ·cases h
def mV (ti : TypeId -> Option TI) (H : AH) (t t' : TypeId) (s x : AV) (k : AV -> AH -> Prop) : Prop := match s, asI x, ti t, ti t' with
 | .p (.list true []), some n, some ⟨.sl e, _, _, _⟩, some ⟨.int _, _, _, _⟩ => match ti e with
  | some ⟨_, _ + 1, by_, z⟩ => (0 < n /\ n * (by_ : Int) <= 281474976710656 /\ n <= 4611686018427387904) /\ IsL (List.replicate n.toNat (pz z)) fun ys => k (.buf H.length) (H ++ [some (.buf e false ys)])
  | _ => False
 | _, _, _, _ => uh ti H t t' s x k
theorem qG {ty : TypeId} (hT : aK P ti) (hp : Hp P H m S w) {t t' : TypeId} {s x : AV} {k : AV -> AH -> Prop} {vs vx : Value} (h : mV ti H t t' s x k) (hs : Rd P H m S w s vs) (hx : Rd P H m S w x vx) :
  ∃ av H' m' S' v w', k av H' /\ (Builtin.append_ #[t, t'] ty #[vs, vx]).run P w = .ok v w' /\ Stp P H m S w H' m' S' w' /\ Rd P H' m' S' w' av v := by
 unfold mV at h
 split at h
 ·rename_i n e _ _ _ kd _ _ _ hI hti hti'
  split at h
  ·rename_i ke sz0 by_ z hte
   obtain ⟨⟨h0, hb, hm⟩, ⟨_, rfl, hk⟩⟩ := h
   have hu := bF (hT.ok _ _ hti) rfl
   have hu' := n9 (hT.ok _ _ hti') rfl
   obtain ⟨inf, d, hinf, hd, hz, hsz, hby, _, hzs, hz1⟩ := aE (hT.ok _ _ hte)
   simp only at hsz hby hz hzs hz1
   obtain ⟨kx, rfl⟩ := eS hI hx
   have hvs : vs = .slice none 0 0 := by
    cases hs with
    | p _ _ h => cases h with
     | nil => rfl
   subst hvs
   obtain ⟨N, rfl⟩ : ∃ N : Nat, n = N := ⟨n.toNat, by omega⟩
   have hrun := Lib.run_append_nil_zeros (P := P) w t t' ty e inf z kx kd hu hu' hinf hz N (by omega) (by omega) (by omega) (by rw [hby]; have h5 : ((N * by_ : Nat) : Int) <= 281474976710656 := (by rw [Int.natCast_mul]; exact hb); omega)
   have hge := grownCap_ge w N 0 e
   have hle := grownCap_le_maxLen w N 0 e (by unfold maxLen; omega)
   generalize hcap : grownCap w N 0 e = cap at hrun hge hle
   have hcl : Stp P H m S w H m S w.drew := Stp.at_ (fun _ => False) hp (aW.refl _ _) (fun j o _ h => ⟨h, rfl⟩) rfl rfl rfl (Nat.le_refl _) (fun _ _ _ => rfl) (fun _ _ h => h.elim) (fun _ _ _ h => h.elim) (fun _ _ _ _ _ h => h.elim)
   have hpc : (pz z).cells.length = inf.size := by rw [fF]; simp [hzs, hsz]
   have e2 : z.cells.size = inf.size := by omega
   have hcs : (Builtin.zeroCells z.cells N ++ Builtin.zeroCells z.cells (cap - N)).size = cap * inf.size := by
    rw [Array.size_append, size_zeroCells, size_zeroCells, e2, <- Nat.add_mul]
    congr 1
    omega
   have hnb := Stp.uK (P := P) (w := w.drew) (e := e) (i := inf) (xs := List.replicate N (pz z)) (cur := Builtin.zeroCells z.cells N ++ Builtin.zeroCells z.cells (cap - N)) (n := N) (cap := cap) hcl.hp hinf (by omega) (by simp) (by omega) (by omega) hcs
    (fun x hx => by rw [List.eq_of_mem_replicate hx]; exact hpc) (fun j c hk' => by
     obtain ⟨h1, h2⟩ := eN _ _ _ _ hk'
     rw [hpc] at h1 h2
     rw [fF, List.getElem?_map, Option.map_eq_some_iff] at h1
     obtain ⟨u, hu1, rfl⟩ := h1
     have hml : j % inf.size < z.cells.size := by have := (List.getElem?_eq_some_iff.1 hu1).1; simpa using this
     have e1 : z.cells[j % inf.size] = u := by
      have := hu1
      simpa [hml] using this
     refine ⟨u, ?_, ?_, ?_⟩
     ·have e3 : z.cells[j % inf.size]! = u := by rw [getElem!_pos z.cells _ hml]; exact e1
      rw [Array.getElem?_append_left (by rw [size_zeroCells, e2]; exact h2)]
      simp [Builtin.zeroCells, e2, h2, e3]
     ·exact dZ (by rw [<- e1]; exact hz1 _ (Array.getElem_mem hml))
     ·rw [<- e1]; exact hz1 _ (Array.getElem_mem hml))
   exact ⟨_, _, _, _, _, _, hk, hrun, hcl.trans hnb.1, hnb.2⟩
  ·cases h
 ·exact qH hT hp h hs hx
end
end Go.Abs
namespace Go.Abs
open Go.RowKit
section
variable {P : Program} {ti : TypeId -> Option TI} {H : AH} {m : Nat -> Value} {S : Nat -> Prop} {w : World}
theorem Stp.B0 (hp : Hp P H m S w) {t : TypeId} {i : TI} (hi : cA P t = some i) {id off : Nat} {e : TypeId} {xs : List PV} {l : List AV} (hH : live H id (.bn e xs l)) {x : AV} {v : Value} (hx : Rd P H m S w x v) (h1 : x.cells.all AV.one = true) (hxl : x.cells.length = i.size)
  (hle : off + i.size <= l.length) {va : Value} (ha : Rd P H m S w (.bN id off) va) :
  ∃ w', (Instr.storeAt t va v).run P w = .ok () w' /\ Stp P H m S w (H.set id (some (.bn e xs (setAt l off x.cells)))) m S w' := by
 obtain ⟨inf, g, cap, cur, hinf, hsz, hm, hh, hc1, hc2, hcs, hll, hz, hr1, hr2⟩ := lD hp hH
 have hva : va = .pointer (some ⟨g, xs.length * inf.size + off, none⟩) := by
  cases ha with
  | bN _ _ a hid hb =>
   obtain ⟨i2, g2, l0, c0, hi2, hm2, rfl⟩ := hb _ _ _ hH
   rw [hinf] at hi2
   injection hi2 with hi2
   subst hi2
   rw [hm] at hm2
   injection hm2 with h2; injection h2 with h2; injection h2 with h2
   subst h2
   rfl
 subst hva
 obtain ⟨hs, hc⟩ := hx.cells (qY h1)
 have hoc : ∀ u ∈ v.cells.toList, u.oneCell' = true := by
  intro u hu
  obtain ⟨j, hj, rfl⟩ := List.mem_iff_getElem.1 hu
  have hj' : j < x.cells.length := by rw [<- hs]; simpa using hj
  have := (hc j _ (List.getElem?_eq_getElem hj')).2
  have hj2 : j < v.cells.size := by simpa using hj
  simpa [Array.getD, hj2] using this
 have hvl : v.cells.toList.length = i.size := by rw [Array.length_toList, hs, hxl]
 have hmul : (xs.length + 1) * inf.size <= cap * inf.size := Nat.mul_le_mul_right _ hc1
 have hsm : (xs.length + 1) * inf.size = xs.length * inf.size + inf.size := Nat.succ_mul _ _
 refine ⟨_, eI hi hh (by rw [hs, hxl]) hoc (by omega), ?_⟩
 have hle' : xs.length * inf.size + off + v.cells.toList.length <= cur.toList.length := by
  have : cur.toList.length = cur.size := by simp
  omega
 have hlen : (setAt l off x.cells).length = l.length := by
  have h3 := cW off x.cells 0 l
  rwa [Nat.add_zero] at h3
 have hold : aW H (H.set id (some (.bn e xs (setAt l off x.cells)))) m m := cL hH (fun _ _ _ h => by cases h) fun e2 xs2 l2 h => by
  injection h with h1 h2 h3
  subst h1; subst h2
  exact ⟨_, rfl⟩
 refine Stp.store hp (o := .bn e xs l) (T := e) (cur := cur) hH (by rw [hm]; rfl) hh (fun _ _ _ h => by cases h) (by rw [hm]; rfl) (fun hk hh' => ?_) (fun e2 xs2 l2 h => by
  injection h with h1 h2 h3
  subst h1; subst h2
  exact ⟨_, rfl⟩)
 refine ⟨inf, ((Abs.bt cur.toList (xs.length * inf.size + off) v.cells.toList).take ((xs.length + 1) * inf.size)), hinf, hsz, ⟨?_, .inr ⟨g, cap, _, hm, Nat.zero_le _, hh', hc1, hc2, ?_, rfl⟩⟩, hz, by rw [hlen]; exact hll, fun k c hk' => ?_, fun k c hk' => ?_⟩
 ·rw [List.length_take, bP hle']
  show min _ cur.size = _
  omega
 ·show (Abs.bt _ _ _).length = _
  rw [bP hle', Array.length_toList, hcs]
 ·obtain ⟨u, hu, hru, hu1⟩ := hr1 k c hk'
  have hkl : k < xs.length * inf.size := by rw [<- aJ hz]; exact (List.getElem?_eq_some_iff.1 hk').1
  refine ⟨u, ?_, hru.mono hk (fun _ h => h), hu1⟩
  rw [List.getElem?_take, if_pos (by omega), eG hle' (by omega)]
  exact hu
 ·rcases nr x.cells off l k c hk' (by omega) with ⟨j, rfl, hj⟩ | ⟨hko, hkc⟩
  ·have hjl : j < v.cells.toList.length := by have := (List.getElem?_eq_some_iff.1 hj).1; omega
   have hj2 : j < v.cells.size := by simpa using hjl
   have h3 := hc j c hj
   have e2 : v.cells.getD j undef = v.cells[j] := by simp [Array.getD, hj2]
   rw [e2] at h3
   refine ⟨v.cells[j], ?_, h3.1.mono hk (fun _ h => h) hold, h3.2⟩
   rw [List.getElem?_take, if_pos (by omega), <- Nat.add_assoc, iB hle' hjl]
   simp [hj2]
  ·obtain ⟨u, hu, hru, hu1⟩ := hr2 k c hkc
   have hkl : k < l.length := (List.getElem?_eq_some_iff.1 hkc).1
   refine ⟨u, ?_, hru.mono hk (fun _ h => h) hold, hu1⟩
   rw [List.getElem?_take, if_pos (by omega), eG hle' (by omega)]
   exact hu
def gY (H : AH) (id j g : Nat) (o : AO) (cs : List AV) : AH := ((H.set g none) ++ [some o]).set id (some (AO.cells (cs.set j (.buf H.length))))
theorem eJ {id j g : Nat} {o' : AO} {cs : List AV} {k : Nat} {o : AO} (hid : id < H.length) (h : live (gY H id j g o' cs) k o) :
  (k = id /\ o = .cells (cs.set j (.buf H.length))) \/ (k = H.length /\ o = o') \/ (k ≠ id /\ k ≠ g /\ k < H.length /\ live H k o) := by
 unfold gY at h
 rcases aH h with ⟨rfl, he⟩ | ⟨hne, h⟩
 ·injection he with he
  exact .inl ⟨rfl, he.symm⟩
 ·rcases bw h with ⟨h1, h2⟩ | ⟨h1, h2⟩
  ·rw [List.length_set] at h1
   exact .inr (.inl ⟨h1, h2⟩)
  ·rw [List.length_set] at h1
   rcases aH h2 with ⟨_, he⟩ | ⟨hg, h3⟩
   ·cases he
   ·exact .inr (.inr ⟨hne, hg, h1, h3⟩)
theorem Stp.move (hp : Hp P H m S w) {id j g : Nat} {o o' : AO} {cs : List AV} (hl : live H id (.cells cs)) (hj : cs[j]? = some (.buf g)) (hg : live H g o) (hne : id ≠ g)
  (hok : ∀ H' m', aW H H' m m' -> OK P H m S w (m g) o -> OK P H' m' S w (m g) o') (hb : Abs.blk (m g) o' = Abs.blk (m g) o) :
  Stp P H m S w (gY H id j g o' cs) (upd m H.length (m g)) S w := by
 have hid : id < H.length := (List.getElem?_eq_some_iff.1 hl).1
 have hgl : g < H.length := (List.getElem?_eq_some_iff.1 hg).1
 obtain ⟨b, T, vs, g1, g2, g3, g4⟩ := hp.obj id _ hl
 have hlt : ∀ {k : Nat}, k < H.length -> upd m H.length (m g) k = m k := fun {k} h => if_neg (by omega)
 have hN : upd m H.length (m g) H.length = m g := if_pos rfl
 have hold : aW H (gY H id j g o' cs) m (upd m H.length (m g)) := by
  refine ⟨by simp [gY], fun k hk p hlv => ⟨hlt hk, ?_⟩⟩
  rcases eJ hid hlv with ⟨rfl, rfl⟩ | ⟨h2, _⟩ | ⟨_, _, _, h2⟩
  ·exact ⟨_, hl, (fun _ _ _ he => by cases he), fun _ _ _ he => by cases he⟩
  ·omega
  ·exact ⟨_, h2, fun e2 nl2 xs2 he => ⟨nl2, xs2, he, Nat.le_refl _⟩, fun e2 xs2 l2 he => ⟨l2, he⟩⟩
 refine Stp.at_ (fun k => k = g \/ k = H.length \/ k = id) hp hold (fun k o hk hlv => ?_) rfl rfl rfl (Nat.le_refl _) (fun _ _ _ => rfl) (fun k o hk hlv hkp => ?_) (fun k o b2 hk hlv hbb => ?_) (fun k1 k2 o1 o2 b2 hk1 hk2 hl1 hl2 hb1 hb2 => ?_)
 ·rcases eJ hid hlv with ⟨h2, _⟩ | ⟨h2, _⟩ | ⟨_, _, h3, h2⟩
  ·exact absurd (.inr (.inr h2)) hk
  ·exact absurd (.inr (.inl h2)) hk
  ·exact ⟨h2, hlt h3⟩
 ·rcases eJ hid hlv with ⟨rfl, rfl⟩ | ⟨rfl, rfl⟩ | ⟨h3, h4, h5, _⟩
  ·rw [hlt hid]
   refine ⟨b, T, vs, g1, g2, by rw [List.length_set]; exact g3, fun q c hc => ?_⟩
   rw [List.getElem?_set] at hc
   split at hc
   ·rename_i hjk
    subst hjk
    split at hc
    ·injection hc with hc
     subst hc
     obtain ⟨h5, h6⟩ := g4 _ _ hj
     refine ⟨?_, h6⟩
     generalize vs.getD j undef = u at h5
     cases h5 with
     | buf _ a l c hid5 h5 =>
      exact .buf _ _ _ _ (by simp [gY]) fun p _ => by rw [hN]; exact h5 o hg
    ·cases hc
   ·exact ⟨(g4 q c hc).1.mono hkp (fun _ h => h) hold, (g4 q c hc).2⟩
  ·rw [hN]
   exact hok _ _ hold (hp.obj g _ hg)
  ·rcases hk with h | h | h <;> omega
 ·rcases eJ hid hlv with ⟨rfl, rfl⟩ | ⟨rfl, rfl⟩ | ⟨h3, h4, h5, _⟩
  ·rw [hlt hid] at hbb
   exact .inl ⟨_, _, .inr (.inr rfl), hl, hbb⟩
  ·rw [hN, hb] at hbb
   exact .inl ⟨g, _, .inl rfl, hg, hbb⟩
  ·rcases hk with h | h | h <;> omega
 ·have key : ∀ {k : Nat} {p : AO}, (k = g \/ k = H.length \/ k = id) -> live (gY H id j g o' cs) k p -> Abs.blk (upd m H.length (m g) k) p = some b2 -> (k = id /\ Abs.blk (m id) (.cells cs) = some b2) \/ (k = H.length /\ Abs.blk (m g) o = some b2) := fun {k p} hk hlv hbb => by
   rcases eJ hid hlv with ⟨rfl, rfl⟩ | ⟨rfl, rfl⟩ | ⟨h3, h4, h5, _⟩
   ·rw [hlt hid] at hbb
    exact .inl ⟨rfl, hbb⟩
   ·rw [hN, hb] at hbb
    exact .inr ⟨rfl, hbb⟩
   ·rcases hk with h | h | h <;> omega
  rcases key hk1 hl1 hb1 with ⟨rfl, h3⟩ | ⟨rfl, h3⟩ <;> rcases key hk2 hl2 hb2 with ⟨rfl, h4⟩ | ⟨rfl, h4⟩
  ·rfl
  ·exact absurd (hp.inj _ _ _ _ b2 hl hg h3 h4) hne
  ·exact absurd (hp.inj _ _ _ _ b2 hl hg h4 h3) hne
  ·rfl
theorem OK.nM {H' : AH} {m' : Nat -> Value} {mv : Value} {e : TypeId} {nl : Bool} {xs : List PV} {y : PV} (h : OK P H m S w mv (.buf e nl (xs ++ [y]))) : OK P H' m' S w mv (.bn e xs (y.cells.map .p)) := by
 obtain ⟨i, us, h1, h2, h3, h4, h5, h6⟩ := h
 have hz : ∀ x ∈ xs, x.cells.length = i.size := fun x hx => h4 x (by simp [hx])
 have hy : y.cells.length = i.size := h4 y (by simp)
 rw [List.length_append, List.length_singleton] at h3
 refine ⟨i, us, h1, h2, h3, hz, by rw [List.length_map]; exact hy, fun k c hk => h5 k c ?_, fun k c hk => ?_⟩
 ·rw [bI, List.getElem?_append_left (List.getElem?_eq_some_iff.1 hk).1]
  exact hk
 ·rw [List.getElem?_map, Option.map_eq_some_iff] at hk
  obtain ⟨d, hd, rfl⟩ := hk
  obtain ⟨u, hu, hr, h1⟩ := h5 (xs.length * i.size + k) d (by
   rw [bI, List.getElem?_append_right (by rw [aJ hz]; omega), aJ hz, Nat.add_sub_cancel_left]
   simpa [flat] using hd)
  exact ⟨u, hu, .p _ _ hr, h1⟩
theorem OK.ly {H' : AH} {m' : Nat -> Value} {mv : Value} {e : TypeId} {xs ps : List PV} {l : List AV} {y : PV} (hl : ∀ (k : Nat) (c : PV), ps[k]? = some c -> ∃ a, l[k]? = some a /\ ∀ v, Rd P H m S w a v -> RdP S w c v) (hps : ps.length = l.length) (hy : y.cells = ps)
  (h : OK P H m S w mv (.bn e xs l)) : OK P H' m' S w mv (.buf e false (xs ++ [y])) := by
 obtain ⟨i, us, h1, h2, h3, h4, h5, h6, h7⟩ := h
 refine ⟨i, us, h1, h2, by rw [List.length_append, List.length_singleton]; exact h3, fun x hx => ?_, fun k c hk => ?_, ?_⟩
 ·rcases List.mem_append.1 hx with hx | hx
  ·exact h4 x hx
  ·rw [List.mem_singleton] at hx
   subst hx
   rw [hy, hps, h5]
 ·rw [bI] at hk
  by_cases hkl : k < (flat xs).length
  ·rw [List.getElem?_append_left hkl] at hk
   exact h6 k c hk
  ·rw [List.getElem?_append_right (by omega)] at hk
   have hk2 : ps[k - (flat xs).length]? = some c := by rw [<- hy]; simpa [flat] using hk
   obtain ⟨a, ha, hr⟩ := hl _ c hk2
   obtain ⟨u, hu, hru, hu1⟩ := h7 _ a ha
   rw [aJ h4] at hu hkl
   rw [show xs.length * i.size + (k - xs.length * i.size) = k by omega] at hu
   exact ⟨u, hu, hr u hru, hu1⟩
 ·constructor
  ·intro h; cases h
  ·intro h
   rcases h3.2 with ⟨_, h8⟩ | ⟨g, cap, cur, hm, _⟩
   ·omega
   ·rw [h] at hm; cases hm
end
end Go.Abs
namespace Go.Abs
open Go.RowKit
def cN (i : TI) (len : Nat) : List AV := (List.range (len * i.size)).map fun k => AV.p (cX (i.zero.cells.getD (k % i.zero.cells.size) undef))
def chunk (ag : Bool) (sz : Nat) : Nat -> List PV -> List PV
 | 0, _ => []
 | n + 1, ps => (match ag with
  | true => .agg (ps.take sz)
  | false => match ps with
   | c :: _ => c
   | [] => .agg []) :: chunk ag sz n (ps.drop sz)
def lJ (H : AH) (e : TypeId) (sz : Nat) (x : AV) (k : List PV -> Prop) : Prop := match x with
 | .p (.list _ ys) => SzA ys sz (k ys)
 | .buf id2 => match H[id2]? with
  | some (some (.buf e2 _ ys)) => match Nat.beq e e2 with
   | true => k ys
   | false => False
  | some (some (.frz _ ys)) => SzA ys sz (k ys)
  | _ => False
 | _ => False
def kX (H : AH) (e : TypeId) (sz by_ : Nat) (ob : Option Nat) (nl : Bool) (xs : List PV) (x : AV) (k : AV -> AH -> Prop) : Prop :=
 lJ H e sz x fun ys => bx xs ys by_ fun zs => k (.buf H.length) (kill H ob ++ [some (.buf e (ys.isEmpty && nl) zs)])
def y0 (H : AH) (id : Nat) (sz by_ : Nat) (nl : Bool) (xs : List PV) (e : TypeId) (x : AV) (k : AV -> AH -> Prop) : Prop :=
 lJ H e sz x fun ys => bx xs ys by_ fun zs => k (.buf H.length) (H.set id (some (.frz nl xs)) ++ [some (.frz (ys.isEmpty && nl) zs)])
def gL (ti : TypeId -> Option TI) (H : AH) (t : TypeId) (s x : AV) (k : AV -> AH -> Prop) : Prop := match ti t with
 | some ⟨.sl e, _, _, _⟩ => match ti e with
  | some ⟨_, sz + 1, by_, _⟩ => match s with
   | .p (.list true []) => kX H e (sz + 1) by_ none true [] x k
   | .buf id => match H[id]? with
    | some (some (.buf e' nl xs)) => match Nat.beq e e' with
     | true => BD (kX H e (sz + 1) by_ (some id) nl xs x k) (y0 H id (sz + 1) by_ nl xs e x k)
     | false => False
    | _ => False
   | .cap _ xs => lJ H e (sz + 1) x fun ys => SzA xs (sz + 1) ((0 < ys.length /\ 0 < ys.length) /\ bx xs ys by_ fun zs => k (.buf H.length) (H ++ [some (.buf e false zs)]))
   | .sub id lo hi => match H[id]? with
    | some (some (.buf e' _ xs)) => match Nat.beq e e' with
     | true => lJ H e (sz + 1) x fun ys => BV xs ys lo hi by_ fun lo' zs => k (.sub H.length lo' zs.length) (kill H (some id) ++ [some (.buf e false zs)])
     | false => False
    | _ => False
   | _ => False
  | _ => False
 | _ => False
def wpE (ti : TypeId -> Option TI) (σ : AS) (H : AH) (op : Op) (k : AV -> AH -> Prop) : Prop := match op with
 | .alloc t => match ti t with
  | some i => match BS i with
   | true => k (.ptr H.length 0) (H ++ [some (.arr (gH i))])
   | false => k (.ptr H.length 0) (H ++ [some (.cells (zeroCells i))])
  | none => False
 | .box _ x => match (σ.ev x).cells.all AV.one with
  | true => k (.ptr H.length 0) (H ++ [some (.cells (σ.ev x).cells)])
  | false => False
 | .makeSlice t l c => match ti t with
  | some ⟨.sl e, _, _, _⟩ => match ti e, asI (σ.ev l), asI (σ.ev c) with
   | some ⟨_, _ + 1, by_, z⟩, some l, some c => (0 <= l /\ l <= c /\ (by_ : Int) * c <= 281474976710656 /\ c <= 9223372036854775807) /\ IsL (List.replicate l.toNat (pz z)) fun ys => k (.buf H.length) (H ++ [some (.buf e false ys)])
   | _, _, _ => False
  | _ => False
 | .buildSlice t len parts => match ti t with
  | some ⟨.sl e, _, _, _⟩ => match ti e with
   | some ie =>
    let H1 := aP H (parts.toList.flatMap fun p => da H (σ.ev p.2))
    match dJ (fun j => some (j * ie.size, ie.size)) (cN ie len) (parts.toList.map fun p => (p.1, jV H1 (σ.ev p.2))) with
    | some cs => match lG cs with
     | some ps => match ps.all PV.one && Nat.ble (len * ie.size) 16777216 && Nat.blt 0 ie.size && (ie.k.isAgg || Nat.beq ie.size 1) with
      | true => IsL (chunk ie.k.isAgg ie.size len ps) fun ys => k (.buf H1.length) (H1 ++ [some (.buf e false ys)])
      | false => False
     | none => False
    | none => False
   | none => False
  | _ => False
 | .store t a x => match ti t with
  | some i => match σ.ev a with
   | .ptr id off => match H[id]? with
    | some (some (.cells cs)) => match (σ.ev x).cells.all AV.one && Nat.beq (σ.ev x).cells.length i.size && Nat.ble (off + i.size) cs.length with
     | true => k .dead (H.set id (some (.cells (setAt cs off (σ.ev x).cells))))
     | false => False
    | some (some (.arr xs)) => fQ i H id off xs (σ.ev x) k
    | _ => False
   | .bp id ix off =>
    let H1 := aP H (da H (σ.ev x))
    match zx H1 (σ.ev x), H1[id]? with
    | some px, some (some (.buf e nl xs)) => match px.cells.all PV.one && Nat.beq px.cells.length i.size && Nat.blt 0 i.size with
     | true => bO xs ix fun y => match Nat.ble (off + i.size) y.cells.length with
      | true => IsL (xs.set ix (y.setAt off px.cells)) fun ys => k .dead (H1.set id (some (.buf e nl ys)))
      | false => False
     | false => False
    | _, _ => False
   | .bN id off => match H[id]? with
    | some (some (.bn e xs l)) => match (σ.ev x).cells.all AV.one && Nat.beq (σ.ev x).cells.length i.size && Nat.ble (off + i.size) l.length with
     | true => k .dead (H.set id (some (.bn e xs (setAt l off (σ.ev x).cells))))
     | false => False
    | _ => False
   | _ => False
  | none => False
 | .call c => match c.callee with
  | .builtin .append => match c.args.toList, c.argTypes.toList with
   | [s, x], [t, t'] => match Nat.beq t t' with
    | true => gL ti H t (σ.ev s) (σ.ev x) k
    | false => mV ti H t t' (σ.ev s) (σ.ev x) k
   | _, _ => False
  | .builtin .copy => match c.args.toList, c.argTypes.toList with
   | [x, y], [t, _] => mT ti H t (σ.ev x) (σ.ev y) k
   | _, _ => False
  | .builtin .clear => match c.args.toList, c.argTypes.toList with
   | [x], [t] => jT ti H t (σ.ev x) k
   | _, _ => False
  | _ => False
 | .lookup t x ix ok => gJ ti H t ok (σ.ev x) (σ.ev ix) fun v => k v H
 | .makeMap _ r => match r with
  | none => k (.mp H.length) (H ++ [some (.map [])])
  | some _ => False
 | .mapUpdate t x ix v => cF ti H t (σ.ev x) (σ.ev ix) (σ.ev v) k
 | .insert t x ix v => cF ti H t (σ.ev x) (σ.ev ix) (σ.ev v) k
 | .convert s d x => iy ti H s d (σ.ev x) fun v => k v H
 | .slice t x lo hi mx => ew ti H t (σ.ev x) (lo.map σ.ev) (hi.map σ.ev) (mx.map σ.ev) k
 | _ => False
section
variable {P : Program} {ti : TypeId -> Option TI} {H : AH} {m : Nat -> Value} {S : Nat -> Prop} {w : World} {σ : AS} {a : Act}
theorem wG {cs : List AV} {ps : List PV} (h : lG cs = some ps) {vs : Array Value} (hr : RdL P H m S w cs vs) : vs.size = ps.length /\ ∀ (k : Nat) (c : PV), ps[k]? = some c -> ∃ u : Value, vs[k]? = some u /\ RdP S w c u /\ u.oneCell' = true := by
 have he := ep h
 subst he
 refine ⟨by rw [hr.1, List.length_map], fun k c hk => ?_⟩
 have h1 := hr.2 k (.p c) (by simp [hk])
 have hlt : k < vs.size := by rw [hr.1, List.length_map]; exact (List.getElem?_eq_some_iff.1 hk).1
 refine ⟨vs.getD k undef, by simp [Array.getD, hlt], ?_, h1.2⟩
 cases h1.1 with | p _ _ h => exact h
theorem jG (ag : Bool) (sz : Nat) (h0 : 0 < sz) (hag : ag = true \/ sz = 1) : ∀ (n : Nat) (ps : List PV), ps.length = n * sz -> ps.all PV.one = true ->
  (chunk ag sz n ps).length = n /\ flat (chunk ag sz n ps) = ps /\ ∀ x ∈ chunk ag sz n ps, x.cells.length = sz
 | 0, ps, hl, _ => by
  have : ps = [] := List.eq_nil_of_length_eq_zero (by simpa using hl)
  subst this
  simp [chunk, flat]
 | n + 1, ps, hl, h1 => by
  rw [Nat.succ_mul] at hl
  have hd : (ps.drop sz).all PV.one = true := by
   rw [List.all_eq_true] at h1 ⊢
   exact fun x hx => h1 x (List.mem_of_mem_drop hx)
  obtain ⟨h2, h3, h4⟩ := jG ag sz h0 hag n (ps.drop sz) (by rw [List.length_drop]; omega) hd
  have hfirst : ∃ y : PV, chunk ag sz (n + 1) ps = y :: chunk ag sz n (ps.drop sz) /\ y.cells = ps.take sz := by
   cases ag with
   | true => exact ⟨_, rfl, rfl⟩
   | false =>
    have hs1 : sz = 1 := by rcases hag with h | h; cases h; exact h
    subst hs1
    match ps, hl with
    | c :: r, _ =>
     refine ⟨c, rfl, ?_⟩
     have : c.one = true := by simp at h1; exact h1.1
     rw [lz this]
     rfl
  obtain ⟨y, hy, hyc⟩ := hfirst
  rw [hy]
  refine ⟨by simp [h2], ?_, fun x hx => ?_⟩
  ·simp only [flat, List.flatMap_cons] at h3 ⊢
   rw [h3, hyc, List.take_append_drop]
  ·rcases List.mem_cons.1 hx with rfl | hx
   ·rw [hyc, List.length_take]; omega
   ·exact h4 x hx
theorem tN {e : TypeId} {ie : TI} (hie : cA P e = some ie) (len : Nat) (h0 : 0 < ie.size) : RdL P H m S w (cN ie len) ((Array.range (len * ie.size)).map (ie.zero.cells[· % ie.zero.cells.size]!)) := by
 obtain ⟨inf, d, _, _, _, _, _, _, hzs, h1⟩ := aE hie
 refine ⟨by simp [cN], fun k c hk => ?_⟩
 simp only [cN, List.getElem?_map, Option.map_eq_some_iff] at hk
 obtain ⟨k', hk', rfl⟩ := hk
 have hlt : k < len * ie.size := by have := (List.getElem?_eq_some_iff.1 hk').1; simpa using this
 have : k' = k := by simpa [hlt] using hk'.symm
 subst this
 have hml : k' % ie.zero.cells.size < ie.zero.cells.size := Nat.mod_lt _ (by omega)
 have e1 : ((Array.range (len * ie.size)).map (ie.zero.cells[· % ie.zero.cells.size]!)).getD k' undef = ie.zero.cells[k' % ie.zero.cells.size] := by
  simp [Array.getD, hlt, hml]
 have e2 : ie.zero.cells.getD (k' % ie.zero.cells.size) undef = ie.zero.cells[k' % ie.zero.cells.size] := by simp [Array.getD, hml]
 rw [e1, e2]
 have ho := h1 _ (Array.getElem_mem hml)
 exact ⟨.p _ _ (dZ ho), ho⟩
theorem eW (hp : Hp P H m S w) {e : TypeId} {x : AV} {vx : Value} {k : List PV -> Prop} {i : TypeInfo} (hi : P.info? e = some i) (h : lJ H e i.size x k) (hx : Rd P H m S w x vx) : ∃ ys, k ys /\ Src S w i.size ys vx := by
 unfold lJ at h
 split at h
 ·cases hx with | p _ _ hr => exact ⟨_, h.2, cJ hr h.1⟩
 ·rename_i id2
  split at h
  ·rename_i e2 nl2 ys hH
   split at h
   ·rename_i hbe
    obtain rfl := Nat.eq_of_beq_eq_true hbe
    have hv := hx.bX hH
    subst hv
    exact ⟨_, h, nh hp hH hi⟩
   ·cases h
  ·rename_i nl2 ys hH
   have hv := hx.bX hH
   subst hv
   exact ⟨_, h.2, cJ (hp.obj _ _ hH) h.1⟩
  ·cases h
 ·cases h
theorem mU (hT : aK P ti) (hp : Hp P H m S w) {t ty : TypeId} {s x : AV} {vs vx : Value} {k : AV -> AH -> Prop} (h : gL ti H t s x k) (hs : Rd P H m S w s vs) (hx : Rd P H m S w x vx) :
  ∃ av H' m' S' v w', k av H' /\ (Builtin.append_ #[t, t] ty #[vs, vx]).run P w = .ok v w' /\ Stp P H m S w H' m' S' w' /\ Rd P H' m' S' w' av v := by
 unfold gL at h
 split at h
 ·rename_i e s1 b1 z1 hti
  have hu := bF (hT.ok _ _ hti) rfl
  split at h
  ·rename_i ke sz by_ z hte
   obtain ⟨inf, d, hinf, hd, hz, hsz, hby, _, hzs, _⟩ := aE (hT.ok _ _ hte)
   simp only at hsz hby hz hzs
   have fin : ∀ {ob : Option Nat} {nl : Bool} {xs : List PV}, BC H m e ob vs nl xs -> kX H e (sz + 1) by_ ob nl xs x k ->
     ∃ av H' m' S' v w', k av H' /\ (Builtin.append_ #[t, t] ty #[vs, vx]).run P w = .ok v w' /\ Stp P H m S w H' m' S' w' /\ Rd P H' m' S' w' av v := by
    intro ob nl xs hb h
    unfold kX at h
    rw [show sz + 1 = inf.size from hsz.symm] at h
    obtain ⟨ys, ⟨_, rfl, ⟨h1, h2⟩, hk⟩, hsrc⟩ := eW hp hinf h hx
    rw [List.length_append] at h1 h2
    obtain ⟨v', w', h3, h4, h5⟩ := Stp.append (ty := ty) hp hu hinf hz (by rw [hsz]; exact hzs) (by omega) hb hsrc h1 (by rw [hby]; exact h2)
    exact ⟨_, _, _, _, v', w', hk, h3, h4, h5⟩
   split at h
   ·exact fin (.inl ⟨rfl, hs.ff, rfl, rfl⟩) h
   ·rename_i id
    split at h
    ·rename_i e' nl xs hH
     split at h
     ·rename_i hbe
      obtain rfl := Nat.eq_of_beq_eq_true hbe
      rcases h with h | h
      ·exact fin (.inr ⟨id, rfl, hH, hs.bX hH⟩) h
      ·unfold y0 at h
       rw [show sz + 1 = inf.size from hsz.symm] at h
       obtain ⟨ys, ⟨_, rfl, ⟨h1, h2⟩, hk⟩, hsrc⟩ := eW hp hinf h hx
       rw [List.length_append] at h1 h2
       have hv := hs.bX hH
       subst hv
       obtain ⟨v', w', S', h3, h4, h5⟩ := Stp.vz (ty := ty) hp hu hinf hz (by rw [hsz]; exact hzs) (by omega) hH hsrc h1 (by rw [hby]; exact h2)
       exact ⟨_, _, _, S', v', w', hk, h3, h4, h5⟩
     ·cases h
    ·cases h
   ·rename_i nl xs
    rw [show sz + 1 = inf.size from hsz.symm] at h
    obtain ⟨ys, ⟨hzx, ⟨hy, _⟩, _, rfl, ⟨h1, h2⟩, hk⟩, hsrc⟩ := eW hp hinf h hx
    rw [List.length_append] at h1 h2
    obtain ⟨v', w', h3, h4, h5⟩ := Stp.appendCap (ty := ty) hp hu hinf hz (by rw [hsz]; exact hzs) (by omega) hs hzx hsrc hy h1 (by rw [hby]; exact h2)
    exact ⟨_, _, _, _, v', w', hk, h3, h4, h5⟩
   ·rename_i id lo hi
    split at h
    ·rename_i e' nl xs hH
     split at h
     ·rename_i hbe
      obtain rfl := Nat.eq_of_beq_eq_true hbe
      rw [show sz + 1 = inf.size from hsz.symm] at h
      obtain ⟨ys, ⟨hh, hy, ⟨h1, h2⟩, hk⟩, hsrc⟩ := eW hp hinf h hx
      obtain ⟨lo', zs, v', w', m', h3, h4, h8, h5, h6, h7⟩ := Stp.yK (ty := ty) hp hu hinf hz (by rw [hsz]; exact hzs) (by omega) hH hs hh hsrc hy h1 (by rw [hby]; exact h2)
      exact ⟨_, _, _, _, v', w', hk lo' zs h3 h4 h8, h5, h6, h7⟩
     ·cases h
    ·cases h
   ·cases h
  ·cases h
 ·cases h
theorem pV (hT : aK P ti) (hp : Hp P σ.h m S w) (hf : ∀ t, Rd P σ.h m S w (σ.fr t) (a.tmps.getD t undef)) {o : Oper} {k : AV -> AH -> Prop} (h : wpE ti σ σ.h o.op k) :
  ∃ av H' m' S' v w', k av H' /\ ((execOp a.eval o).run P w = .ok (.value v) w' \/ (execOp a.eval o).run P w = .ok .skip w' /\ v = undef) /\ Stp P σ.h m S w H' m' S' w' /\ Rd P H' m' S' w' av v := by
 have E := fun x => bZ (P := P) hp.glb hf x
 generalize ho : o.op = op at h
 unfold wpE at h
 split at h
 ·rename_i t
  split at h
  ·rename_i i hti
   have hi := hT.ok _ _ hti
   split at h
   ·obtain ⟨h1, h2⟩ := Stp.Ch hp hi
    exact ⟨_, _, _, _, _, _, h, .inl (by simp only [execOp, ho]; rw [Sem.run_bind, j3 hi]; rfl), h1, h2⟩
   ·obtain ⟨h1, h2⟩ := Stp.nS hp (jL hi) t
    exact ⟨_, _, _, _, _, _, h, .inl (by simp only [execOp, ho]; rw [Sem.run_bind, j3 hi]; rfl), h1, h2⟩
  ·cases h
 ·rename_i t x
  split at h
  ·rename_i h1
   obtain ⟨h2, h3⟩ := Stp.nS hp ((E x).cells (qY h1)) t
   exact ⟨_, _, _, _, _, _, h, .inl (by simp only [execOp, ho]; rw [Sem.run_bind, ux]; rfl), h2, h3⟩
  ·cases h
 ·rename_i t l c
  split at h
  ·rename_i e s1 b1 z1 hti
   have hu := bF (hT.ok _ _ hti) rfl
   split at h
   ·rename_i ke sz by_ z l' c' hte hl hc
    obtain ⟨inf, d, hinf, hd, hz, hsz, hby, _, hzs, hz1⟩ := aE (hT.ok _ _ hte)
    simp only at hsz hby hz hzs hz1
    obtain ⟨⟨h0, hlc, hb, hm⟩, ⟨_, rfl, hk⟩⟩ := h
    have hm : c' <= (maxLen : Nat) := by simp only [maxLen]; omega
    obtain ⟨kl, hvl⟩ := eS hl (E l)
    obtain ⟨kc, hvc⟩ := eS hc (E c)
    have hrun := run_make (P := P) w t e inf z hu hinf hz kl kc l' c' h0 hlc (by rw [hby]; exact hb) (by omega)
    have hpc : (pz z).cells.length = inf.size := by rw [fF]; simp [hzs, hsz]
    have hnb := Stp.uK (P := P) (w := w) (e := e) (i := inf) (xs := List.replicate l'.toNat (pz z)) (cur := madeCells z.cells (c'.toNat * inf.size)) (n := l'.toNat) (cap := c'.toNat) hp hinf (by omega) (by simp) (by omega) (by omega) (size_madeCells _ _)
     (fun x hx => by rw [List.eq_of_mem_replicate hx]; exact hpc) (fun k c hk' => by
      obtain ⟨h1, h2⟩ := eN _ _ _ _ hk'
      rw [hpc] at h1 h2
      have h3 : k < c'.toNat * inf.size := Nat.lt_of_lt_of_le h2 (Nat.mul_le_mul_right _ (by omega))
      refine ⟨_, ra z.cells _ k h3 (by omega), ?_⟩
      rw [fF, List.getElem?_map, Option.map_eq_some_iff] at h1
      obtain ⟨u, hu', rfl⟩ := h1
      have he : z.cells.getD (k % z.cells.size) undef = u := by
       rw [hzs, <- hsz]
       have hu2 : z.cells[k % inf.size]? = some u := by simpa using hu'
       simp [Array.getD_eq_getD_getElem?, hu2]
      rw [he]
      have hu1 : u.oneCell' = true := hz1 u (by
       have hu2 : z.cells[k % inf.size]? = some u := by simpa using hu'
       exact Array.mem_of_getElem? hu2)
      exact ⟨dZ hu1, hu1⟩)
    exact ⟨_, _, _, _, _, _, hk, .inl (by simp only [execOp, ho, hvl, hvc]; rw [Sem.run_bind, hrun]; rfl), hnb.1, hnb.2⟩
   ·cases h
  ·cases h
 ·rename_i t len parts
  split at h
  ·rename_i e s1 b1 z1 hti
   have hu := bF (hT.ok _ _ hti) rfl
   split at h
   ·rename_i ie hte
    have hie := hT.ok _ _ hte
    obtain ⟨inf, d, hinf, hd, hz, hsz, hby, _, hzs, hz1⟩ := aE hie
    obtain ⟨S1, hst⟩ := Stp.aP (P := P) (m := m) (w := w) (parts.toList.flatMap fun p => da σ.h (σ.ev p.2)) σ.h S hp
    simp only at h
    generalize hH1 : aP σ.h (parts.toList.flatMap fun p => da σ.h (σ.ev p.2)) = H1 at h hst
    split at h
    ·rename_i cs hcs
     split at h
     ·rename_i ps hps
      split at h
      ·rename_i hc
       simp only [Bool.and_eq_true, Bool.or_eq_true] at hc
       obtain ⟨⟨⟨hc1, hc2⟩, hc3⟩, hc4⟩ := hc
       have hc2 := Nat.le_of_ble_eq_true hc2
       have hc3 : 0 < ie.size := Nat.le_of_ble_eq_true hc3
       have hc4 : ie.k.isAgg = true \/ ie.size = 1 := hc4.imp id Nat.eq_of_beq_eq_true
       obtain ⟨vs', h1, h2⟩ := eO (P := P) (H := H1) (m := m) (S := S1) (w := w) (fun j => some (j * ie.size, ie.size)) _ ((parts.map fun (i, x) => (i, a.eval x)).toList) _ cs _ hcs (tN hie len hc3) (by simp [List.map_map, Function.comp_def]) (fun k p hk => by
        simp only [List.getElem?_map, Option.map_eq_some_iff] at hk
        obtain ⟨q, hq, rfl⟩ := hk
        exact ⟨a.eval q.2, by simpa using ⟨q.1, q.2, by simpa using hq, rfl, rfl⟩, aG hst.hp ((E q.2).mono hst.keeps hst.sub hst.old)⟩)
       obtain ⟨h3, h4⟩ := wG hps h2
       have hpl : ps.length = len * ie.size := by
        have h5 : ∀ (parts : List (Nat × AV)) (cells cs : List AV), dJ (fun j => some (j * ie.size, ie.size)) cells parts = some cs -> cs.length = cells.length := by
         intro parts
         induction parts with
         | nil => intro cells cs h; simp [dJ] at h; rw [h]
         | cons p parts ih =>
          intro cells cs h
          simp only [dJ] at h
          split at h
          ·have := ih _ _ h
           rw [this]
           have := cW (p.1 * ie.size) p.2.cells 0 cells
           rwa [Nat.add_zero] at this
          ·cases h
        have h6 := h5 _ _ _ hcs
        have h7 := ep hps
        rw [h7] at h6
        simpa [cN] using h6
       obtain ⟨h5, h6, h7⟩ := jG ie.k.isAgg ie.size hc3 hc4 len ps hpl hc1
       have hrun : (Instr.buildSlice t len (parts.map fun (i, x) => (i, a.eval x))).run P w = .ok (.slice (some ⟨w.heap.size, 0, none⟩) len len) (w.alloc (.cells vs' e)) := by
        by_cases h0 : len * ie.size = 0
        ·have hlen0 : len = 0 := by rcases Nat.mul_eq_zero.1 h0 with h | h; exact h; omega
         subst hlen0
         simp only [Nat.zero_mul] at h1
         have h1' : Instr.fill (fun i => some (i * inf.size, inf.size)) #[] (parts.map fun (i, x) => (i, a.eval x)).toList = some vs' := by
          rw [hsz]
          have r0 : Array.range 0 = #[] := rfl
          rw [r0] at h1
          simpa using h1
         have r0 : Array.range 0 = #[] := rfl
         simp only [Instr.buildSlice, Sem.run_bind, run_underlying hu, Result.andThen_ok]
         simp only [Array.toList_map] at h1'
         simp [sizeOf, typeInfo, hinf, r0, h1', newRow]
        ·exact run_buildSlice w t e len _ vs' inf ie.zero hu hinf hz (by rw [hsz]; omega) (by rw [hsz]; exact h0) (by rw [hsz]; exact h1)
       have hvs : vs'.size = len * inf.size := by rw [h3, hpl, hsz]
       have hlm : len <= maxLen := by
        have : len * 1 <= len * ie.size := Nat.mul_le_mul_left _ hc3
        simp only [maxLen]
        omega
       have hnb := Stp.uK (P := P) (w := w) (e := e) (i := inf) (xs := chunk ie.k.isAgg ie.size len ps) (cur := vs') (n := len) (cap := len) hst.hp hinf (by omega) h5.symm (Nat.le_refl _) hlm hvs (by rw [hsz]; exact h7) (by rw [h6]; exact h4)
       obtain ⟨_, rfl, h⟩ := h
       exact ⟨_, _, _, _, _, _, h, .inl (by simp only [execOp, ho]; rw [Sem.run_bind, hrun]; rfl), hst.trans hnb.1, hnb.2⟩
      ·cases h
     ·cases h
    ·cases h
   ·cases h
  ·cases h
 ·rename_i t ad x
  split at h
  ·rename_i i hti
   have hi := hT.ok _ _ hti
   split at h
   ·rename_i id off hea
    split at h
    ·rename_i cs hH
     split at h
     ·rename_i hc
      simp only [Bool.and_eq_true] at hc
      obtain ⟨⟨hc1, hc2⟩, hc3⟩ := hc
      have ha := E ad
      rw [hea] at ha
      obtain ⟨w', h1, h2⟩ := Stp.storeCells hp hi hH (E x) hc1 (Nat.eq_of_beq_eq_true hc2) (Nat.le_of_ble_eq_true hc3) ha
      exact ⟨_, _, _, _, undef, w', h, .inr ⟨by simp only [execOp, ho]; rw [Sem.run_bind, h1]; rfl, rfl⟩, h2, .dead _⟩
     ·cases h
    ·rename_i xs hH
     have ha := E ad
     rw [hea] at ha
     obtain ⟨H', w', hk, h1, h2⟩ := kU hp hi hH h (E x) ha
     exact ⟨_, _, _, _, undef, w', hk, .inr ⟨by simp only [execOp, ho]; rw [Sem.run_bind, h1]; rfl, rfl⟩, h2, .dead _⟩
    ·cases h
   ·rename_i id ix off hea
    simp only at h
    split at h
    ·rename_i px e nl xs hpx hH
     split at h
     ·rename_i hc
      simp only [Bool.and_eq_true] at hc
      obtain ⟨⟨hc1, hc2⟩, hc3⟩ := hc
      obtain ⟨y, _, hy, hk⟩ := h
      split at hk
      ·rename_i hc4
       obtain ⟨_, rfl, hk⟩ := hk
       obtain ⟨S1, hst⟩ := Stp.aP (P := P) (m := m) (w := w) (da σ.h (σ.ev x)) σ.h S hp
       have ha := E ad
       rw [hea] at ha
       simp only [Int.toNat_natCast] at hy
       obtain ⟨w', h1, h2⟩ := Stp.zh hst.hp hi hH hy (nK hst.hp hpx ((E x).mono hst.keeps hst.sub hst.old)) hc1 (Nat.eq_of_beq_eq_true hc2) (Nat.le_of_ble_eq_true hc3) (Nat.le_of_ble_eq_true hc4) (ha.mono hst.keeps hst.sub hst.old)
       exact ⟨_, _, _, _, undef, w', hk, .inr ⟨by simp only [execOp, ho]; rw [Sem.run_bind, h1]; rfl, rfl⟩, hst.trans h2, .dead _⟩
      ·cases hk
     ·cases h
    ·cases h
   ·rename_i id off hea
    split at h
    ·rename_i e xs l hH
     split at h
     ·rename_i hc
      simp only [Bool.and_eq_true] at hc
      obtain ⟨⟨hc1, hc2⟩, hc3⟩ := hc
      have ha := E ad
      rw [hea] at ha
      obtain ⟨w', h1, h2⟩ := Stp.B0 hp hi hH (E x) hc1 (Nat.eq_of_beq_eq_true hc2) (Nat.le_of_ble_eq_true hc3) ha
      exact ⟨_, _, _, _, undef, w', h, .inr ⟨by simp only [execOp, ho]; rw [Sem.run_bind, h1]; rfl, rfl⟩, h2, .dead _⟩
     ·cases h
    ·cases h
   ·cases h
  ·cases h
 ·rename_i c
  obtain ⟨callee, args, ats⟩ := c
  obtain ⟨args⟩ := args
  obtain ⟨ats⟩ := ats
  simp only at h
  split at h
  ·split at h
   ·rename_i s x t t'
    split at h
    ·rename_i hbe
     obtain rfl := Nat.eq_of_beq_eq_true hbe
     obtain ⟨av, H', m', S', v, w', hk, h1, h2, h3⟩ := mU (ty := o.type) hT hp h (E _) (E _)
     exact ⟨_, _, _, _, _, _, hk, .inl (by simp [execOp, ho, resolve, invoke, builtin, h1]), h2, h3⟩
    ·obtain ⟨av, H', m', S', v, w', hk, h1, h2, h3⟩ := qG (ty := o.type) hT hp h (E _) (E _)
     exact ⟨_, _, _, _, _, _, hk, .inl (by simp [execOp, ho, resolve, invoke, builtin, h1]), h2, h3⟩
   ·cases h
  ·split at h
   ·rename_i x y t t'
    obtain ⟨av, H', v, w', hk, h1, h2, h3⟩ := qE (ty := o.type) (t' := t') hT hp h (E _) (E _)
    exact ⟨_, _, _, _, _, _, hk, .inl (by simp [execOp, ho, resolve, invoke, builtin, h1]), h2, h3⟩
   ·cases h
  ·split at h
   ·rename_i x t
    obtain ⟨av, H', v, w', hk, h1, h2, h3⟩ := o_ (ty := o.type) hT hp h (E _)
    exact ⟨_, _, _, _, _, _, hk, .inl (by simp [execOp, ho, resolve, invoke, builtin, h1]), h2, h3⟩
   ·cases h
  ·cases h
 ·obtain ⟨av, v, h1, h2, h3⟩ := mQ hT hp h (E _) (E _)
  exact ⟨_, _, m, S, v, w, h1, .inl (by simp only [execOp, ho]; rw [Sem.run_bind, h3]; rfl), Stp.refl hp, h2⟩
 ·rename_i t r
  split at h
  ·obtain ⟨h1, h2, h3⟩ := Stp.Cg hp t
   exact ⟨_, _, _, _, _, _, h, .inl (by simp only [execOp, ho]; rw [Sem.run_bind]; simp only [Option.map_none]; rw [h3]; rfl), h1, h2⟩
  ·cases h
 ·obtain ⟨H', w', h1, h2, h3⟩ := eY hT hp h (E _) (E _) (E _)
  exact ⟨_, _, _, _, undef, w', h1, .inr ⟨by simp only [execOp, ho]; rw [Sem.run_bind, h3]; rfl, rfl⟩, h2, .dead _⟩
 ·obtain ⟨H', w', h1, h2, h3⟩ := eY hT hp h (E _) (E _) (E _)
  exact ⟨_, _, _, _, undef, w', h1, .inr ⟨by simp only [execOp, ho]; rw [Sem.run_bind, h3]; rfl, rfl⟩, h2, .dead _⟩
 ·obtain ⟨av, v, h1, h2, h3⟩ := o9 hT hp h (E _)
  exact ⟨_, _, m, S, v, w, h1, .inl (by simp only [execOp, ho]; rw [Sem.run_bind, h3]; rfl), Stp.refl hp, h2⟩
 ·rename_i t x lo hi mx
  obtain ⟨av, H', m', S', v, h1, h2, h3, h4⟩ := mS hT hp h (E x) (jv hp.glb hf lo) (jv hp.glb hf hi) (jv hp.glb hf mx) (fun hs => by
   obtain ⟨av, v, h1, h2, h3⟩ := iQ hT hp hs (E x) (jv hp.glb hf lo) (jv hp.glb hf hi) (vmx := mx.map a.eval) (by cases mx <;> simp)
   exact ⟨av, v, h1, h2, h3 w⟩)
  exact ⟨_, _, m', S', v, w, h1, .inl (by simp only [execOp, ho]; rw [Sem.run_bind, h2]; rfl), h3, h4⟩
 ·cases h
end
end Go.Abs
namespace Go.Abs
open Go.RowKit
mutual
def AV.ren (ρ : Nat -> Nat) : AV -> AV
 | .p x => .p x
 | .ptr id off => .ptr (ρ id) off
 | .buf id => .buf (ρ id)
 | .sub id lo hi => .sub (ρ id) lo hi
 | .bp id ix off => .bp (ρ id) ix off
 | .aN cs => .aN cs
 | .agg cs => .agg (dP ρ cs)
 | .tup cs => .tup (dP ρ cs)
 | .clo fn caps => .clo fn (dP ρ caps)
 | .mp id => .mp (ρ id)
 | .cap nl xs => .cap nl xs
 | .bN id off => .bN (ρ id) off
 | .dead => .dead
def dP (ρ : Nat -> Nat) : List AV -> List AV
 | [] => []
 | c :: r => c.ren ρ :: dP ρ r
end
mutual
def AV.wf (n : Nat) : AV -> Bool
 | .p _ => true
 | .ptr id _ => Nat.blt id n
 | .buf id => Nat.blt id n
 | .sub id _ _ => Nat.blt id n
 | .bp id _ _ => Nat.blt id n
 | .aN _ => true
 | .agg cs => wfL n cs
 | .tup cs => wfL n cs
 | .clo _ caps => wfL n caps
 | .mp id => Nat.blt id n
 | .cap _ _ => true
 | .bN id _ => Nat.blt id n
 | .dead => true
def wfL (n : Nat) : List AV -> Bool
 | [] => true
 | c :: r => c.wf n && wfL n r
end
def AO.ren (ρ : Nat -> Nat) : AO -> AO
 | .cells cs => .cells (dP ρ cs)
 | .buf e nl xs => .buf e nl xs
 | .frz nl xs => .frz nl xs
 | .map ks => .map ks
 | .arr xs => .arr xs
 | .bn e xs l => .bn e xs (dP ρ l)
def AO.wf (n : Nat) : AO -> Bool
 | .cells cs => wfL n cs
 | .bn _ _ l => wfL n l
 | _ => true
theorem fb (ρ : Nat -> Nat) : ∀ (cs : List AV) (k : Nat), (dP ρ cs)[k]? = (cs[k]?).map (AV.ren ρ)
 | [], k => by simp [dP]
 | c :: r, 0 => by simp [dP]
 | c :: r, k + 1 => by simp [dP, fb ρ r k]
theorem bV (ρ : Nat -> Nat) : ∀ (cs : List AV), (dP ρ cs).length = cs.length
 | [] => rfl
 | c :: r => by simp [dP, bV ρ r]
theorem qJ {n : Nat} : ∀ {cs : List AV}, wfL n cs = true -> ∀ {k : Nat} {c : AV}, cs[k]? = some c -> c.wf n = true
 | [], _, k, c, hk => by simp at hk
 | c :: r, h, 0, d, hk => by simp at hk; subst hk; simp [wfL] at h; exact h.1
 | c :: r, h, k + 1, d, hk => by simp [wfL] at h; exact qJ h.2 (by simpa using hk)
theorem bU {a b : Nat} (h : Nat.blt a b = true) : a < b := Nat.le_of_ble_eq_true h
section
variable {P : Program} {H H' : AH} {m m' : Nat -> Value} {S S' : Nat -> Prop} {w w' : World} {ρ : Nat -> Nat}
theorem Rd.vI (hlive : ∀ i o, live H' i o -> live H (ρ i) (o.ren ρ)) {y : AV} {v : Value} (h : Rd P H m S w y v) : ∀ {x : AV}, x.ren ρ = y -> x.wf H'.length = true -> Rd P H' (fun i => m (ρ i)) S w x v := by
 have lists : ∀ {cs cs' : List AV} {vs : Array Value}, dP ρ cs' = cs -> wfL H'.length cs' = true -> vs.size = cs.length ->
   (∀ (k : Nat) (c : AV), cs[k]? = some c -> ∀ {x : AV}, x.ren ρ = c -> x.wf H'.length = true -> Rd P H' (fun i => m (ρ i)) S w x (vs.getD k undef)) ->
   vs.size = cs'.length /\ ∀ (k : Nat) (c : AV), cs'[k]? = some c -> (cs[k]? = some (c.ren ρ)) /\ Rd P H' (fun i => m (ρ i)) S w c (vs.getD k undef) := by
  intro cs cs' vs he hw hl ih
  subst he
  refine ⟨by rw [hl, bV], fun k c hk => ?_⟩
  have h1 : (dP ρ cs')[k]? = some (c.ren ρ) := by rw [fb, hk]; rfl
  exact ⟨h1, ih k _ h1 rfl (qJ hw hk)⟩
 induction h with
 | p y v h => intro x hx _; cases x <;> simp [AV.ren] at hx; subst hx; exact .p _ _ h
 | ptr id off a hid h =>
  intro x hx hw
  cases x <;> simp [AV.ren] at hx
  obtain ⟨rfl, rfl⟩ := hx
  exact .ptr _ _ _ (bU (by simpa [AV.wf] using hw)) fun o hl => h _ (hlive _ _ hl)
 | buf id a l c hid h =>
  intro x hx hw
  cases x <;> simp [AV.ren] at hx
  subst hx
  exact .buf _ _ _ _ (bU (by simpa [AV.wf] using hw)) fun o hl => h _ (hlive _ _ hl)
 | sub id lo hi a l c hid h hq =>
  intro x hx hw
  cases x <;> simp [AV.ren] at hx
  obtain ⟨rfl, rfl, rfl⟩ := hx
  exact .sub _ _ _ _ _ _ (bU (by simpa [AV.wf] using hw)) (fun e nl xs hl => h e nl xs (hlive _ _ hl)) (fun o p hl he => hq _ p (hlive _ _ hl) he)
 | bp id ix off a hid h =>
  intro x hx hw
  cases x <;> simp [AV.ren] at hx
  obtain ⟨rfl, rfl, rfl⟩ := hx
  exact .bp _ _ _ _ (bU (by simpa [AV.wf] using hw)) fun e nl xs hl => h e nl xs (hlive _ _ hl)
 | aN cs a us hS hu hr =>
  intro x hx _
  cases x <;> simp [AV.ren] at hx
  subst hx
  exact .aN _ _ us hS hu hr
 | agg cs vs hl ho hr ih =>
  intro x hx hw
  cases x <;> simp [AV.ren] at hx
  obtain ⟨h1, h2⟩ := lists hx (by simpa [AV.wf] using hw) hl (fun k c hk {x} => ih k c hk)
  exact .agg _ _ h1 (fun k c hk => ho k _ (h2 k c hk).1) fun k c hk => (h2 k c hk).2
 | tup cs vs hl hr ih =>
  intro x hx hw
  cases x <;> simp [AV.ren] at hx
  obtain ⟨h1, h2⟩ := lists hx (by simpa [AV.wf] using hw) hl (fun k c hk {x} => ih k c hk)
  exact .tup _ _ h1 fun k c hk => (h2 k c hk).2
 | clo fn caps vs hl hr ih =>
  intro x hx hw
  cases x <;> simp [AV.ren] at hx
  obtain ⟨rfl, hx⟩ := hx
  obtain ⟨h1, h2⟩ := lists hx (by simpa [AV.wf] using hw) hl (fun k c hk {x} => ih k c hk)
  exact .clo _ _ _ h1 fun k c hk => (h2 k c hk).2
 | mp id b hid h =>
  intro x hx hw
  cases x <;> simp [AV.ren] at hx
  subst hx
  exact .mp _ _ (bU (by simpa [AV.wf] using hw)) fun o hl => h _ (hlive _ _ hl)
 | cap nl xs a l h =>
  intro x hx _
  cases x <;> simp [AV.ren] at hx
  obtain ⟨rfl, rfl⟩ := hx
  exact .cap _ _ _ _ h
 | bN id off a hid h =>
  intro x hx hw
  cases x <;> simp [AV.ren] at hx
  obtain ⟨rfl, rfl⟩ := hx
  exact .bN _ _ _ (bU (by simpa [AV.wf] using hw)) fun e xs l hl => h e xs (dP ρ l) (hlive _ _ hl)
 | dead v =>
  intro x hx _
  cases x <;> simp [AV.ren] at hx
  exact .dead _
theorem Rd.ren (hlen : ∀ i, i < H.length -> ρ i < H'.length) (hlive : ∀ i o', i < H.length -> live H' (ρ i) o' -> ∃ o, live H i o /\ m' (ρ i) = m i /\ (∀ e nl xs, o' = .buf e nl xs -> o = .buf e nl xs) /\ ∀ e xs l, o' = .bn e xs l -> ∃ l0, o = .bn e xs l0)
  {x : AV} {v : Value} (h : Rd P H m S w x v) : Rd P H' m' S w (x.ren ρ) v := by
 have lists : ∀ {cs : List AV} {vs : Array Value}, vs.size = cs.length -> (∀ (k : Nat) (c : AV), cs[k]? = some c -> Rd P H' m' S w (c.ren ρ) (vs.getD k undef)) ->
   vs.size = (dP ρ cs).length /\ ∀ (k : Nat) (c : AV), (dP ρ cs)[k]? = some c -> (∃ d, cs[k]? = some d) /\ Rd P H' m' S w c (vs.getD k undef) := by
  intro cs vs hl ih
  refine ⟨by rw [hl, bV], fun k c hk => ?_⟩
  rw [fb, Option.map_eq_some_iff] at hk
  obtain ⟨d, hd, rfl⟩ := hk
  exact ⟨⟨d, hd⟩, ih k d hd⟩
 induction h with
 | p y v h => exact .p _ _ h
 | ptr id off a hid h =>
  refine .ptr _ _ _ (hlen _ hid) fun o' hl => ?_
  obtain ⟨o, h1, h2, _⟩ := hlive _ _ hid hl
  rw [h2]
  exact h o h1
 | buf id a l c hid h =>
  refine .buf _ _ _ _ (hlen _ hid) fun o' hl => ?_
  obtain ⟨o, h1, h2, _⟩ := hlive _ _ hid hl
  rw [h2]
  exact h o h1
 | sub id lo hi a l c hid h hq =>
  refine .sub _ _ _ _ _ _ (hlen _ hid) (fun e nl xs hl => ?_) fun o p hl he => ?_
  ·obtain ⟨o, h1, h2, h3, _⟩ := hlive _ _ hid hl
   rw [h2]
   have := h3 e nl xs rfl
   subst this
   exact h e nl xs h1
  ·obtain ⟨o1, h1, h2, h3⟩ := hlive _ _ hid hl
   rw [h2] at he
   exact hq o1 p h1 he
 | bp id ix off a hid h =>
  refine .bp _ _ _ _ (hlen _ hid) fun e nl xs hl => ?_
  obtain ⟨o, h1, h2, h3, _⟩ := hlive _ _ hid hl
  rw [h2]
  have := h3 e nl xs rfl
  subst this
  exact h e nl xs h1
 | aN cs a us hS hu hr => exact .aN _ _ us hS hu hr
 | agg cs vs hl ho hr ih =>
  obtain ⟨h1, h2⟩ := lists hl ih
  exact .agg _ _ h1 (fun k c hk => by obtain ⟨d, hd⟩ := (h2 k c hk).1; exact ho k d hd) fun k c hk => (h2 k c hk).2
 | tup cs vs hl hr ih =>
  obtain ⟨h1, h2⟩ := lists hl ih
  exact .tup _ _ h1 fun k c hk => (h2 k c hk).2
 | clo fn caps vs hl hr ih =>
  obtain ⟨h1, h2⟩ := lists hl ih
  exact .clo _ _ _ h1 fun k c hk => (h2 k c hk).2
 | mp id b hid h =>
  refine .mp _ _ (hlen _ hid) fun o' hl => ?_
  obtain ⟨o, h1, h2, _⟩ := hlive _ _ hid hl
  rw [h2]
  exact h o h1
 | cap nl xs a l h => exact .cap _ _ _ _ h
 | bN id off a hid h =>
  refine .bN _ _ _ (hlen _ hid) fun e xs l hl => ?_
  obtain ⟨o, h1, h2, _, h3⟩ := hlive _ _ hid hl
  obtain ⟨l0, rfl⟩ := h3 e xs l rfl
  rw [h2]
  exact h e xs l0 h1
 | dead v => exact .dead _
structure Ec (k0 : Nat) (ρ : Nat -> Nat) (H' H : AH) : Prop where
 uV : ∀ i, i < k0 -> ρ i = i
 len : k0 <= H'.length
 live : ∀ i o, live H' i o -> live H (ρ i) (o.ren ρ)
 inj : ∀ i j, (∃ o, Abs.live H' i o) -> (∃ o, Abs.live H' j o) -> ρ i = ρ j -> i = j
 wf : ∀ i o, Abs.live H' i o -> o.wf H'.length = true
theorem Stp.BZ {H0 : AH} {m0 : Nat -> Value} {S0 : Nat -> Prop} {w0 : World} (h : Stp P H0 m0 S0 w0 H m S w) (hs : Ec H0.length ρ H' H) : Stp P H0 m0 S0 w0 H' (fun i => m (ρ i)) S w := by
 have hold : aW H0 H' m0 (fun i => m (ρ i)) := by
  refine ⟨hs.len, fun id hid o' hl => ?_⟩
  have h1 := hs.live id o' hl
  rw [hs.uV id hid] at h1
  obtain ⟨h2, o, h3, h4, h5⟩ := h.old.at_ id hid _ h1
  refine ⟨by show m (ρ id) = _; rw [hs.uV id hid]; exact h2, o, h3, fun e nl xs he => ?_, fun e xs l he => ?_⟩
  ·subst he
   exact h4 e nl xs rfl
  ·subst he
   exact h5 e xs _ rfl
 have hblk : ∀ i o b, Abs.live H' i o -> Abs.blk (m (ρ i)) o = some b -> Abs.live H (ρ i) (o.ren ρ) /\ Abs.blk (m (ρ i)) (o.ren ρ) = some b := by
  intro i o b hl hb
  refine ⟨hs.live i o hl, ?_⟩
  cases o <;> exact hb
 refine ⟨hold, ⟨fun i o hl => ?_, fun i j oi oj b hi hj hbi hbj => ?_, h.hp.sub, fun i o b hl hb => ?_, h.hp.glb⟩, h.keeps, h.sub, h.os, h.tape, h.output, h.size, h.blk, h.wX, fun b hb => ?_, h.sM⟩
 ·have h1 := h.hp.obj _ _ (hs.live i o hl)
  cases o with
  | cells cs =>
   obtain ⟨b, T, vs, hm, hh, hl', hr⟩ := h1
   refine ⟨b, T, vs, hm, hh, by rw [bV] at hl'; exact hl', fun k c hk => ?_⟩
   have hk' : (dP ρ cs)[k]? = some (c.ren ρ) := by rw [fb, hk]; rfl
   obtain ⟨h2, h3⟩ := hr k _ hk'
   exact ⟨h2.vI hs.live rfl (qJ (hs.wf i _ hl) hk), h3⟩
  | buf e nl xs => exact h1
  | frz nl xs => exact h1
  | map ks => exact h1
  | arr xs => exact h1
  | bn e xs l =>
   obtain ⟨i', us, g1, g2, g3, g4, g5, g6, g7⟩ := h1
   rw [bV] at g5
   refine ⟨i', us, g1, g2, g3, g4, g5, g6, fun k c hk => ?_⟩
   have hk' : (dP ρ l)[k]? = some (c.ren ρ) := by rw [fb, hk]; rfl
   obtain ⟨u, hu, h2, h3⟩ := g7 k _ hk'
   exact ⟨u, hu, h2.vI hs.live rfl (qJ (hs.wf i _ hl) hk), h3⟩
 ·obtain ⟨h1, h2⟩ := hblk i oi b hi hbi
  obtain ⟨h3, h4⟩ := hblk j oj b hj hbj
  exact hs.inj i j ⟨_, hi⟩ ⟨_, hj⟩ (h.hp.inj _ _ _ _ b h1 h3 h2 h4)
 ·obtain ⟨h1, h2⟩ := hblk i o b hl hb
  exact h.hp.out _ _ b h1 h2
 ·obtain ⟨i, o, hl, hb⟩ := hb
  obtain ⟨h1, h2⟩ := hblk i o b hl hb
  exact h.own b ⟨_, _, h1, h2⟩
end
structure ao (P : Program) (f : FuncId) (args : List AV) (H : AH) (K : AV -> AH -> Prop) : Prop where
 enter : ∃ fn, P.funcs[f]? = some fn /\ fn.body.isSome = true /\ (fn.name == "runtime.NumGoroutine") = false
 calls : ∀ (m : Nat -> Value) (S : Nat -> Prop) (w : World) (vals : Array Value), Hp P H m S w -> vals.size = args.length -> (∀ (j : Nat) (x : AV), args[j]? = some x -> Rd P H m S w x (vals.getD j undef)) ->
  Calls P f vals w fun e w' => ∃ v r H' m' S', e = .returned v /\ K r H' /\ Stp P H m S w H' m' S' w' /\ Rd P H' m' S' w' r v
theorem ao.mono {P : Program} {f : FuncId} {args : List AV} {H : AH} {K K' : AV -> AH -> Prop} (h : ao P f args H K) (hk : ∀ r H', K r H' -> K' r H') : ao P f args H K' :=
 ⟨h.enter, fun m S w vals hp hl hr => (h.calls m S w vals hp hl hr).mono fun _ _ ⟨v, r, H', m', S', h1, h2, h3, h4⟩ => ⟨v, r, H', m', S', h1, hk _ _ h2, h3, h4⟩⟩
end Go.Abs
namespace Go.Abs
open Go.RowKit
def idx (id : Nat) : List Nat -> Option Nat
 | [] => none
 | i :: r => match Nat.beq i id with
  | true => some 0
  | false => match idx id r with
   | some j => some (j + 1)
   | none => none
theorem n_ {id : Nat} : ∀ {l : List Nat} {j : Nat}, idx id l = some j -> l[j]? = some id
 | [], j, h => by cases h
 | i :: r, j, h => by
  unfold idx at h
  split at h
  ·rename_i hb
   injection h with h
   subst h
   rw [Nat.eq_of_beq_eq_true hb]
   rfl
  ·split at h
   ·rename_i j' hj
    injection h with h
    subst h
    simpa using n_ hj
   ·cases h
theorem ku {id : Nat} : ∀ {l : List Nat}, idx id l = none -> ∀ (j : Nat), l[j]? ≠ some id
 | [], _, j => by simp
 | i :: r, h, j => by
  unfold idx at h
  split at h
  ·cases h
  ·rename_i hb
   split at h
   ·cases h
   ·rename_i hj
    cases j with
    | zero => simp; intro he; subst he; simp at hb
    | succ j => simpa using ku hj j
mutual
def fE (H : AH) (ids : List Nat) (fl : Bool) : AV -> AV
 | .p x => .p x
 | .ptr id off => match idx id ids with
  | some j => .ptr j off
  | none => .dead
 | .buf id => match idx id ids with
  | some j => .buf j
  | none => match H[id]? with
   | some (some (.buf _ nl xs)) => match fl with
    | true => .p (.list nl xs)
    | false => .dead
   | some (some (.frz nl xs)) => .p (.list nl xs)
   | _ => .dead
 | .sub id lo hi => match idx id ids with
  | some j => .sub j lo hi
  | none => match H[id]?, fl with
   | some (some (.buf _ nl xs)), true => .p (.list nl ((xs.take hi).drop lo))
   | _, _ => .dead
 | .bp id ix off => match idx id ids with
  | some j => .bp j ix off
  | none => .dead
 | .aN cs => .aN cs
 | .agg cs => eK (bo H ids fl cs)
 | .tup cs => .tup (bo H ids fl cs)
 | .clo fn caps => .clo fn (bo H ids fl caps)
 | .mp id => match idx id ids with
  | some j => .mp j
  | none => .dead
 | .cap nl xs => .cap nl xs
 | .bN id off => match idx id ids with
  | some j => .bN j off
  | none => .dead
 | .dead => .dead
def bo (H : AH) (ids : List Nat) (fl : Bool) : List AV -> List AV
 | [] => []
 | c :: r => fE H ids fl c :: bo H ids fl r
end
def gN (H : AH) (ids : List Nat) : AO -> AO
 | .cells cs => .cells (bo H ids false cs)
 | .buf e nl xs => .buf e nl xs
 | .frz nl xs => .frz nl xs
 | .map ks => .map ks
 | .arr xs => .arr xs
 | .bn e xs l => .bn e xs (bo H ids false l)
def gZ (H : AH) (ids : List Nat) : AH := ids.map fun i => match H[i]? with
 | some (some o) => some (gN H ids o)
 | _ => none
theorem cI (H : AH) (ids : List Nat) (fl : Bool) : ∀ (cs : List AV) (k : Nat), (bo H ids fl cs)[k]? = (cs[k]?).map (fE H ids fl)
 | [], k => by simp [bo]
 | c :: r, 0 => by simp [bo]
 | c :: r, k + 1 => by simp [bo, cI H ids fl r k]
theorem bH (H : AH) (ids : List Nat) (fl : Bool) : ∀ (cs : List AV), (bo H ids fl cs).length = cs.length
 | [] => rfl
 | c :: r => by simp [bo, bH H ids fl r]
theorem ei {H : AH} {ids : List Nat} {j : Nat} {o : AO} (h : live (gZ H ids) j o) : ∃ id o0, ids[j]? = some id /\ live H id o0 /\ o = gN H ids o0 := by
 unfold live gZ at h
 rw [List.getElem?_map, Option.map_eq_some_iff] at h
 obtain ⟨id, hid, he⟩ := h
 split at he
 ·rename_i o0 ho
  injection he with he
  exact ⟨id, o0, hid, ho, he.symm⟩
 ·cases he
section
variable {P : Program} {H H' : AH} {m m' : Nat -> Value} {S S' : Nat -> Prop} {w w' : World} {ids : List Nat} {fl : Bool}
theorem cG (hp : Hp P H m S w) (hs : ∀ b, S b -> S' b) (hlend : fl = true -> ∀ id o b, live H id o -> Abs.blk (m id) o = some b -> S' b) {y : AV} {v : Value} (h : Rd P H m S w y v) :
  Rd P (gZ H ids) (fun j => m (ids.getD j 0)) S' w (fE H ids fl y) v := by
 have hlen : (gZ H ids).length = ids.length := by simp [gZ]
 have at_ : ∀ {id j : Nat}, idx id ids = some j -> j < (gZ H ids).length /\ ids.getD j 0 = id := by
  intro id j hj
  have h1 := n_ hj
  rw [hlen]
  exact ⟨(List.getElem?_eq_some_iff.1 h1).1, by rw [List.getD, h1]; rfl⟩
 have lv : ∀ {id j : Nat} {o : AO}, idx id ids = some j -> live (gZ H ids) j o -> ∃ o0, live H id o0 /\ o = gN H ids o0 := by
  intro id j o hj hl
  obtain ⟨id', o0, h1, h2, h3⟩ := ei hl
  rw [n_ hj] at h1
  injection h1 with h1
  subst h1
  exact ⟨o0, h2, h3⟩
 have wC : ∀ {o0 : AO} {e : TypeId} {nl : Bool} {xs : List PV}, AO.buf e nl xs = gN H ids o0 -> o0 = .buf e nl xs := by
  intro o0 e nl xs h
  cases o0 <;> simp [gN] at h
  obtain ⟨rfl, rfl, rfl⟩ := h
  rfl
 have uV : b8 S w w := fun _ _ => rfl
 have lists : ∀ {cs : List AV} {vs : Array Value}, vs.size = cs.length -> (∀ (k : Nat) (c : AV), cs[k]? = some c -> Rd P (gZ H ids) (fun j => m (ids.getD j 0)) S' w (fE H ids fl c) (vs.getD k undef)) ->
   vs.size = (bo H ids fl cs).length /\ ∀ (k : Nat) (c : AV), (bo H ids fl cs)[k]? = some c -> (∃ d, cs[k]? = some d) /\ Rd P (gZ H ids) (fun j => m (ids.getD j 0)) S' w c (vs.getD k undef) := by
  intro cs vs hl ih
  refine ⟨by rw [hl, bH], fun k c hk => ?_⟩
  rw [cI, Option.map_eq_some_iff] at hk
  obtain ⟨d, hd, rfl⟩ := hk
  exact ⟨⟨d, hd⟩, ih k d hd⟩
 have ownCut : ∀ {id : Nat} {e : TypeId} {nl : Bool} {xs : List PV}, fl = true -> live H id (.buf e nl xs) -> RdP S' w (.list nl xs) (m id) := by
  intro id e nl xs hf hl
  exact RdP.nR (hp.obj id _ hl) hs fun b hb => hlend hf id _ b hl hb
 induction h with
 | p x v h => exact .p _ _ (h.mono uV hs)
 | ptr id off a hid h =>
  unfold fE
  split
  ·rename_i j hj
   obtain ⟨h1, h2⟩ := at_ hj
   refine .ptr _ _ _ h1 fun o hl => ?_
   obtain ⟨o0, h3, _⟩ := lv hj hl
   simp only [h2]
   exact h o0 h3
  ·exact .dead _
 | buf id a l c hid h =>
  unfold fE
  split
  ·rename_i j hj
   obtain ⟨h1, h2⟩ := at_ hj
   refine .buf _ _ _ _ h1 fun o hl => ?_
   obtain ⟨o0, h3, _⟩ := lv hj hl
   simp only [h2]
   exact h o0 h3
  ·split
   ·rename_i e nl xs hH
    split
    ·have h1 := ownCut rfl hH
     rw [h _ hH] at h1
     exact .p _ _ h1
    ·exact .dead _
   ·rename_i nl xs hH
    have h1 := hp.obj id _ hH
    rw [h _ hH] at h1
    exact .p _ _ (RdP.mono uV hs h1)
   ·exact .dead _
 | sub id lo hi a l c hid h hq =>
  unfold fE
  split
  ·rename_i j hj
   obtain ⟨h1, h2⟩ := at_ hj
   refine .sub _ _ _ _ _ _ h1 (fun e nl xs hl => ?_) fun o p hl he => ?_
   ·obtain ⟨o0, h3, h4⟩ := lv hj hl
    have := wC h4
    subst this
    simp only [h2]
    exact h e nl xs h3
   ·obtain ⟨o0, h3, h4⟩ := lv hj hl
    simp only [h2] at he
    exact hq o0 p h3 he
  ·split
   ·rename_i e nl xs hH
    obtain ⟨i, a0, l0, c0, h1, h2, h3, h4, rfl, rfl, hgn, hga⟩ := h e nl xs hH
    obtain ⟨i', us, h5, _, _, h6, _⟩ := hp.obj id _ hH
    rw [h1] at h5
    injection h5 with h5
    subst h5
    obtain ⟨a1, c1, h7, _⟩ := cv hp hH
    rw [h2] at h7
    injection h7 with e1 e2 e3
    subst e1; subst e2; subst e3
    have h8 := ownCut rfl hH
    rw [h2] at h8
    exact .p _ _ (h8.D9 h3 h4 h6 h1 hgn hga)
   ·exact .dead _
 | bp id ix off a hid h =>
  unfold fE
  split
  ·rename_i j hj
   obtain ⟨h1, h2⟩ := at_ hj
   refine .bp _ _ _ _ h1 fun e nl xs hl => ?_
   obtain ⟨o0, h3, h4⟩ := lv hj hl
   have := wC h4
   subst this
   simp only [h2]
   exact h e nl xs h3
  ·exact .dead _
 | aN cs a us hS hu hr => exact .aN _ _ us (hs _ hS) hu fun k c hk => (hr k c hk).mono uV hs
 | agg cs vs hl ho hr ih =>
  obtain ⟨h1, h2⟩ := lists hl ih
  unfold fE
  exact Rd.eK h1 fun k c hk => ⟨(h2 k c hk).2, by obtain ⟨d, hd⟩ := (h2 k c hk).1; exact ho k d hd⟩
 | tup cs vs hl hr ih =>
  obtain ⟨h1, h2⟩ := lists hl ih
  unfold fE
  exact .tup _ _ h1 fun k c hk => (h2 k c hk).2
 | clo fn caps vs hl hr ih =>
  obtain ⟨h1, h2⟩ := lists hl ih
  unfold fE
  exact .clo _ _ _ h1 fun k c hk => (h2 k c hk).2
 | mp id b hid h =>
  unfold fE
  split
  ·rename_i j hj
   obtain ⟨h1, h2⟩ := at_ hj
   refine .mp _ _ h1 fun o hl => ?_
   obtain ⟨o0, h3, _⟩ := lv hj hl
   simp only [h2]
   exact h o0 h3
  ·exact .dead _
 | cap nl xs a l h => exact .cap _ _ _ _ (h.mono uV hs)
 | bN id off a hid h =>
  unfold fE
  split
  ·rename_i j hj
   obtain ⟨h1, h2⟩ := at_ hj
   refine .bN _ _ _ h1 fun e xs l hl => ?_
   obtain ⟨o0, h3, h4⟩ := lv hj hl
   simp only [h2]
   cases o0 <;> simp [gN] at h4
   obtain ⟨rfl, rfl, _⟩ := h4
   exact h _ _ _ h3
  ·exact .dead _
 | dead v => exact .dead _
end
def PV.tw : PV -> Prop
 | .v _ => True
 | .list nl _ => nl = true
 | .agg _ => False
def PV.flat : PV -> Prop
 | .agg cs => ∀ c ∈ cs, c.tw
 | .v _ => True
 | .list nl _ => nl = true
mutual
def AV.flat : AV -> Prop
 | .p x => x.flat
 | .ptr _ _ => True
 | .buf _ => True
 | .agg cs => qn cs
 | .tup cs => qn cs
 | .dead => True
 | _ => False
def qn : List AV -> Prop
 | [] => True
 | c :: r => c.flat /\ qn r
end
def AO.flat : AO -> Prop
 | .cells cs => qn cs
 | .buf _ _ xs => ∀ x ∈ xs, x.flat
 | .frz nl _ => nl = true
 | .map _ => False
 | .arr _ => False
 | .bn _ _ _ => False
def oe : AH -> Prop
 | [] => True
 | none :: r => oe r
 | some o :: r => o.flat /\ oe r
theorem ic : ∀ {cs : List AV}, qn cs -> ∀ {k : Nat} {c : AV}, cs[k]? = some c -> c.flat
 | [], _, k, c, hk => by simp at hk
 | d :: r, h, 0, c, hk => by simp at hk; subst hk; exact h.1
 | d :: r, h, k + 1, c, hk => ic h.2 (by simpa using hk)
theorem jy : ∀ {H : AH}, oe H -> ∀ {k : Nat} {o : AO}, live H k o -> o.flat
 | [], _, k, c, hk => by simp [live] at hk
 | none :: r, h, 0, c, hk => by simp [live] at hk
 | some o :: r, h, 0, c, hk => by simp [live] at hk; subst hk; exact h.1
 | none :: r, h, k + 1, c, hk => jy (H := r) h (by simpa [live] using hk)
 | some o :: r, h, k + 1, c, hk => jy (H := r) h.2 (by simpa [live] using hk)
section
variable {P : Program} {H H' : AH} {m m' : Nat -> Value} {S S' : Nat -> Prop} {w w' : World} {ids : List Nat} {fl : Bool}
theorem RdP.tw {x : PV} {v : Value} (hx : x.tw) (h : RdP S w x v) : RdP S' w x v := by
 cases h with
 | v _ ho => exact .v _ ho
 | nil => exact .nil
 | list => cases hx
 | agg => cases hx
theorem RdP.flat {x : PV} {v : Value} (hx : x.flat) (h : RdP S w x v) : RdP S' w x v := by
 cases h with
 | v _ ho => exact .v _ ho
 | nil => exact .nil
 | list => cases hx
 | agg cs vs hl ho hr => exact .agg _ _ hl ho fun k c hk => RdP.tw (hx c (List.mem_of_getElem? hk)) (hr k c hk)
theorem Rd.flat {x : AV} {v : Value} (h : Rd P H m S w x v) (hx : x.flat) : Rd P H m S' w x v := by
 induction h with
 | p x v h => exact .p _ _ (h.flat (by simpa [AV.flat] using hx))
 | ptr id off a hid h => exact .ptr _ _ _ hid h
 | buf id a l c hid h => exact .buf _ _ _ _ hid h
 | sub id lo hi a l c hid h => simp [AV.flat] at hx
 | bp id ix off a hid h => simp [AV.flat] at hx
 | aN cs a us hS hu hr => simp [AV.flat] at hx
 | agg cs vs hl ho hr ih => exact .agg _ _ hl ho fun k c hk => ih k c hk (ic (by simpa [AV.flat] using hx) hk)
 | tup cs vs hl hr ih => exact .tup _ _ hl fun k c hk => ih k c hk (ic (by simpa [AV.flat] using hx) hk)
 | clo fn caps vs hl hr ih => simp [AV.flat] at hx
 | mp id b hid h => simp [AV.flat] at hx
 | cap nl xs a l h => simp [AV.flat] at hx
 | bN id off a hid h => simp [AV.flat] at hx
 | dead v => exact .dead _
theorem OK.flat {mv : Value} {o : AO} (h : OK P H m S w mv o) (ho : o.flat) : OK P H m S' w mv o := by
 cases o with
 | cells cs =>
  obtain ⟨b, T, vs, h1, h2, h3, h4⟩ := h
  exact ⟨b, T, vs, h1, h2, h3, fun k c hk => ⟨(h4 k c hk).1.flat (ic ho hk), (h4 k c hk).2⟩⟩
 | buf e nl xs =>
  obtain ⟨i, us, h1, h2, h3, h4, h5, h6⟩ := h
  refine ⟨i, us, h1, h2, h3, h4, fun k c hk => ?_, h6⟩
  obtain ⟨u, hu, hr, h7⟩ := h5 k c hk
  obtain ⟨i', j, x, _, _, hx, hc⟩ := ib h4 hk
  have hxf := ho x (List.mem_of_getElem? hx)
  refine ⟨u, hu, ?_, h7⟩
  cases x with
  | agg cs => exact RdP.tw (hxf c (List.mem_of_getElem? hc)) hr
  | v x =>
   cases j with
   | zero => simp [PV.cells] at hc; subst hc; exact RdP.flat (x := .v x) hxf hr
   | succ j => simp [PV.cells] at hc
  | list nl xs =>
   cases j with
   | zero => simp [PV.cells] at hc; subst hc; exact RdP.flat (x := .list nl xs) hxf hr
   | succ j => simp [PV.cells] at hc
 | frz nl xs => exact RdP.flat (x := .list nl xs) ho h
 | map ks => exact ho.elim
 | arr xs => exact ho.elim
 | bn e xs l => exact ho.elim
end
end Go.Abs
namespace Go.Abs
open Go.RowKit
def backρ (ids : List Nat) (n : Nat) (j : Nat) : Nat := match Nat.blt j ids.length with
 | true => ids.getD j 0
 | false => n + (j - ids.length)
def cC (ρ : Nat -> Nat) : AH -> List Nat -> AH -> AH
 | H, id :: ids, some o :: os => cC ρ (H.set id (some (o.ren ρ))) ids os
 | H, id :: ids, none :: os => cC ρ (H.set id none) ids os
 | H, _, _ => H
def db (ρ : Nat -> Nat) : AH -> AH
 | [] => []
 | some o :: r => some (o.ren ρ) :: db ρ r
 | none :: r => none :: db ρ r
def fM (H : AH) (ids : List Nat) (H' : AH) : AH := cC (backρ ids H.length) H ids (H'.take ids.length) ++ db (backρ ids H.length) (H'.drop ids.length)
def nodupB : List Nat -> Bool
 | [] => true
 | i :: r => (match idx i r with
  | none => true
  | some _ => false) && nodupB r
def oR (n : Nat) : List Nat -> Bool
 | [] => true
 | i :: r => Nat.blt i n && oR n r
inductive Fr1 (H : AH) : AV -> PV -> Prop
 | p (x : PV) (h : x.flat) : Fr1 H (.p x) x
 | buf (j : Nat) (e : TypeId) (nl : Bool) (xs : List PV) (hl : live H j (.buf e nl xs)) (h : ∀ y ∈ xs, y.flat) : Fr1 H (.buf j) (.list nl xs)
inductive FrL (H : AH) : List AV -> List PV -> Prop
 | nil : FrL H [] []
 | cons {r : AV} {x : PV} {l : List AV} {xs : List PV} (h : Fr1 H r x) (hs : FrL H l xs) : FrL H (r :: l) (x :: xs)
inductive FrV (H : AH) : AV -> AV -> Prop
 | one {r : AV} {x : PV} (h : Fr1 H r x) : FrV H r (.p x)
 | tup {l : List AV} {xs : List PV} (h : FrL H l xs) : FrV H (.tup l) (.tup (xs.map .p))
def Ee (R : AV -> Prop) (r : AV) (H : AH) : Prop := ∃ x, FrV H r x /\ R x
structure kS (P : Program) (f : FuncId) (args : List AV) (v : AV) : Prop where
 run : ∀ (H : AH) (m : Nat -> Value) (S : Nat -> Prop) (w : World) (vals : Array Value), Hp P H m S w -> vals.size = args.length -> (∀ (j : Nat) (x : AV), args[j]? = some x -> Rd P H m S w x (vals.getD j undef)) ->
  ∃ u, (callFunc f vals).run P w = .ok (.value u) w /\ Rd P H m S w v u
inductive ab (P : Program) (f : FuncId) (args : List AV) (H : AH) (K : AV -> AH -> Prop) : Prop
 | all (h : ao P f args H K) : ab P f args H K
 | loc (ids fz : List Nat) (h1 : nodupB ids = true) (h2 : oR (aP H fz).length ids = true)
   (h : ao P f (bo (aP H fz) ids false args) (gZ (aP H fz) ids) fun r H' => K (r.ren (backρ ids (aP H fz).length)) (fM (aP H fz) ids H')) : ab P f args H K
 | fresh (R : AV -> Prop) (h : ao P f (bo H [] true args) [] (Ee R)) (hk : ∀ x, R x -> K x H) : ab P f args H K
 | ext (v : AV) (h : kS P f args v) (hk : K v H) : ab P f args H K
 | s9 (h : ao P f (bo H [] true args) [] fun r H' => r.flat /\ oe H' /\ K (r.ren (backρ [] H.length)) (H ++ db (backρ [] H.length) H')) : ab P f args H K
theorem qV (ρ : Nat -> Nat) : ∀ (H : AH) (k : Nat), (db ρ H)[k]? = (H[k]?).map (Option.map (AO.ren ρ))
 | [], k => by simp [db]
 | some o :: r, 0 => by simp [db]
 | none :: r, 0 => by simp [db]
 | some o :: r, k + 1 => by simp [db, qV ρ r k]
 | none :: r, k + 1 => by simp [db, qV ρ r k]
theorem fc (ρ : Nat -> Nat) : ∀ (H : AH), (db ρ H).length = H.length
 | [] => rfl
 | some o :: r => by simp [db, fc ρ r]
 | none :: r => by simp [db, fc ρ r]
theorem p8 {ρ : Nat -> Nat} {H : AH} {k : Nat} {o : AO} (h : live (db ρ H) k o) : ∃ o0, live H k o0 /\ o = o0.ren ρ := by
 unfold live at h ⊢
 rw [qV, Option.map_eq_some_iff] at h
 obtain ⟨x, hx, he⟩ := h
 cases x with
 | none => cases he
 | some o0 => simp at he; exact ⟨o0, hx, he.symm⟩
theorem fw (ρ : Nat -> Nat) : ∀ (ids : List Nat) (H os : AH), (cC ρ H ids os).length = H.length
 | [], H, os => by cases os <;> simp [cC]
 | id :: ids, H, [] => by simp [cC]
 | id :: ids, H, some o :: os => by simp [cC, fw ρ ids]
 | id :: ids, H, none :: os => by simp [cC, fw ρ ids]
theorem gW : ∀ {ids : List Nat}, nodupB ids = true -> ∀ {i j : Nat} {x : Nat}, ids[i]? = some x -> ids[j]? = some x -> i = j
 | [], _, i, j, x, h1, _ => by simp at h1
 | a :: r, h, i, j, x, h1, h2 => by
  simp only [nodupB, Bool.and_eq_true] at h
  obtain ⟨h3, h4⟩ := h
  have h5 : idx a r = none := by
   split at h3
   ·assumption
   ·cases h3
  cases i with
  | zero =>
   cases j with
   | zero => rfl
   | succ j => simp at h1 h2; subst h1; exact absurd h2 (ku h5 j)
  | succ i =>
   cases j with
   | zero => simp at h1 h2; subst h2; exact absurd h1 (ku h5 i)
   | succ j => simp at h1 h2; rw [gW h4 h1 h2]
theorem dM {n : Nat} : ∀ {ids : List Nat}, oR n ids = true -> ∀ {j : Nat} {x : Nat}, ids[j]? = some x -> x < n
 | [], _, j, x, h1 => by simp at h1
 | a :: r, h, j, x, h1 => by
  simp only [oR, Bool.and_eq_true] at h
  cases j with
  | zero => simp at h1; subst h1; exact bU h.1
  | succ j => exact dM h.2 (by simpa using h1)
theorem lR (ρ : Nat -> Nat) : ∀ (ids : List Nat) (H os : AH) (i : Nat) (o : AO), ids.length = os.length -> (∀ (a b x : Nat), ids[a]? = some x -> ids[b]? = some x -> a = b) -> live (cC ρ H ids os) i o ->
  (∃ j o0, ids[j]? = some i /\ live os j o0 /\ o = o0.ren ρ) \/ ((∀ (j : Nat), ids[j]? ≠ some i) /\ live H i o)
 | [], H, os, i, o, _, _, h => .inr ⟨by simp, by cases os <;> simpa [cC] using h⟩
 | id :: ids, H, [], i, o, hl, _, h => by simp at hl
 | id :: ids, H, x :: os, i, o, hl, hn, h => by
  have hn' : ∀ (a b x : Nat), ids[a]? = some x -> ids[b]? = some x -> a = b := fun a b x h1 h2 => by
   have := hn (a + 1) (b + 1) x (by simpa using h1) (by simpa using h2)
   omega
  have step : ∀ (z : Option AO), (∀ o0, z = some o0 -> ∃ o1, x = some o1 /\ o0 = o1.ren ρ) -> live (cC ρ (H.set id z) ids os) i o ->
    (∃ j o0, (id :: ids)[j]? = some i /\ live (x :: os) j o0 /\ o = o0.ren ρ) \/ ((∀ (j : Nat), (id :: ids)[j]? ≠ some i) /\ live H i o) := by
   intro z hz h
   rcases lR ρ ids _ os i o (by simpa using hl) hn' h with ⟨j, o0, h1, h2, h3⟩ | ⟨h1, h2⟩
   ·exact .inl ⟨j + 1, o0, by simpa using h1, by simpa [live] using h2, h3⟩
   ·rcases aH h2 with ⟨rfl, he⟩ | ⟨hne, hl'⟩
    ·obtain ⟨o1, h3, h4⟩ := hz o he
     exact .inl ⟨0, o1, rfl, by rw [h3]; rfl, h4⟩
    ·refine .inr ⟨fun j => ?_, hl'⟩
     cases j with
     | zero => simp; exact fun e => hne e.symm
     | succ j => simpa using h1 j
  cases x with
  | some o1 => exact step (some (o1.ren ρ)) (fun o0 he => ⟨o1, rfl, by injection he with he; exact he.symm⟩) (by simpa [cC] using h)
  | none => exact step none (fun o0 he => by cases he) (by simpa [cC] using h)
section
variable {P : Program} {H : AH} {m : Nat -> Value} {S : Nat -> Prop} {w : World}
theorem Stp.back (hp : Hp P H m S w) {ids : List Nat} (hn : nodupB ids = true) (hb : oR H.length ids = true) {H' : AH} {m' : Nat -> Value} {S' : Nat -> Prop} {w' : World}
  (h : Stp P (gZ H ids) (fun j => m (ids.getD j 0)) S w H' m' S' w') :
  ∃ m'', Stp P H m S w (fM H ids H') m'' S' w' /\ ∀ {x : AV} {v : Value}, Rd P H' m' S' w' x v -> Rd P (fM H ids H') m'' S' w' (x.ren (backρ ids H.length)) v := by
 have hll : (gZ H ids).length = ids.length := by simp [gZ]
 have hle : ids.length <= H'.length := by have := h.old.len; rwa [hll] at this
 have hnd : ∀ (a b x : Nat), ids[a]? = some x -> ids[b]? = some x -> a = b := fun a b x h1 h2 => gW hn h1 h2
 have hsl : (cC (backρ ids H.length) H ids (H'.take ids.length)).length = H.length := fw _ _ _ _
 have htl : ids.length = (H'.take ids.length).length := by rw [List.length_take]; omega
 have hlen : (fM H ids H').length = H.length + (H'.length - ids.length) := by simp [fM, hsl, fc]
 -- the places
 let m'' : Nat -> Value := fun i => if i < H.length then m i else m' (ids.length + (i - H.length))
 have hρ1 : ∀ {j x : Nat}, ids[j]? = some x -> backρ ids H.length j = x := by
  intro j x hj
  have hlt := (List.getElem?_eq_some_iff.1 hj).1
  unfold backρ
  have : Nat.blt j ids.length = true := Nat.ble_eq_true_of_le hlt
  rw [this]
  simp [List.getD, hj]
 have hρ2 : ∀ {j : Nat}, ids.length <= j -> backρ ids H.length j = H.length + (j - ids.length) := by
  intro j hj
  unfold backρ
  have : Nat.blt j ids.length = false := by
   cases hb : Nat.blt j ids.length with
   | false => rfl
   | true => have := bU hb; omega
  rw [this]
 -- who lives behind the call
 have lv : ∀ {i : Nat} {o : AO}, live (fM H ids H') i o -> (∃ j o0, ids[j]? = some i /\ live H' j o0 /\ o = o0.ren (backρ ids H.length)) \/ (i < H.length /\ (∀ (j : Nat), ids[j]? ≠ some i) /\ live H i o) \/
   (∃ j o0, ids.length <= j /\ i = H.length + (j - ids.length) /\ live H' j o0 /\ o = o0.ren (backρ ids H.length)) := by
  intro i o hl
  unfold live fM at hl
  by_cases hi : i < H.length
  ·rw [List.getElem?_append_left (by rw [hsl]; exact hi)] at hl
   rcases lR _ ids H _ i o htl hnd hl with ⟨j, o0, h1, h2, h3⟩ | ⟨h1, h2⟩
   ·have hjl := (List.getElem?_eq_some_iff.1 h1).1
    unfold live at h2
    rw [List.getElem?_take, if_pos hjl] at h2
    exact .inl ⟨j, o0, h1, h2, h3⟩
   ·exact .inr (.inl ⟨hi, h1, h2⟩)
  ·rw [List.getElem?_append_right (by rw [hsl]; omega), hsl] at hl
   obtain ⟨o0, h1, h2⟩ := p8 hl
   unfold live at h1
   rw [List.getElem?_drop] at h1
   exact .inr (.inr ⟨ids.length + (i - H.length), o0, by omega, by omega, h1, h2⟩)
 have mOld : ∀ {i : Nat}, i < H.length -> m'' i = m i := fun hi => if_pos hi
 have mNew : ∀ {j : Nat}, ids.length <= j -> m'' (H.length + (j - ids.length)) = m' j := by
  intro j hj
  show (if _ then _ else _) = _
  rw [if_neg (by omega)]
  congr 1
  omega
 -- an object that was handed over and lives still
 have handed : ∀ {j i : Nat} {o0 : AO}, ids[j]? = some i -> live H' j o0 -> i < H.length /\ m' j = m i /\ ∃ o1, live H i o1 /\ (∀ e nl xs, o0 = .buf e nl xs -> ∃ nl0 xs0, o1 = .buf e nl0 xs0 /\ xs0.length <= xs.length) /\ ∀ e xs l, o0 = .bn e xs l -> ∃ l0, o1 = .bn e xs l0 := by
  intro j i o0 hj hl
  have hjl := (List.getElem?_eq_some_iff.1 hj).1
  obtain ⟨h1, o, h2, h3, h3L⟩ := h.old.at_ j (by rw [hll]; exact hjl) o0 hl
  have hg : ids.getD j 0 = i := by simp [List.getD, hj]
  simp only [hg] at h1
  obtain ⟨i', o1, h4, h5, h6⟩ := ei h2
  rw [hj] at h4
  injection h4 with h4
  subst h4
  refine ⟨dM hb hj, h1, o1, h5, fun e nl xs he => ?_, fun e xs l he => ?_⟩
  ·obtain ⟨nl0, xs0, h7, h8⟩ := h3 e nl xs he
   subst h7
   cases o1 <;> simp [gN] at h6
   obtain ⟨rfl, rfl, rfl⟩ := h6
   exact ⟨_, _, rfl, h8⟩
  ·obtain ⟨l0, h7⟩ := h3L e xs l he
   subst h7
   cases o1 <;> simp [gN] at h6
   obtain ⟨rfl, rfl, _⟩ := h6
   exact ⟨_, rfl⟩
 have hold : aW H (fM H ids H') m m'' := by
  refine ⟨by rw [hlen]; omega, fun i hi o' hl => ⟨mOld hi, ?_⟩⟩
  rcases lv hl with ⟨j, o0, h1, h2, h3⟩ | ⟨_, _, h2⟩ | ⟨j, o0, h1, h2, _⟩
  ·obtain ⟨_, _, o1, h4, h5, h5L⟩ := handed h1 h2
   refine ⟨o1, h4, fun e nl xs he => ?_, fun e xs l he => ?_⟩
   ·subst he
    cases o0 <;> simp [AO.ren] at h3
    obtain ⟨rfl, rfl, rfl⟩ := h3
    exact h5 _ _ _ rfl
   ·subst he
    cases o0 <;> simp [AO.ren] at h3
    obtain ⟨rfl, rfl, _⟩ := h3
    exact h5L _ _ _ rfl
  ·exact ⟨o', h2, fun e nl xs he => ⟨nl, xs, he, Nat.le_refl _⟩, fun e xs l he => ⟨l, he⟩⟩
  ·omega
 have rdB : ∀ {x : AV} {v : Value}, Rd P H' m' S' w' x v -> Rd P (fM H ids H') m'' S' w' (x.ren (backρ ids H.length)) v := by
  intro x v hx
  refine Rd.ren (fun j hj => ?_) (fun j o' hj hl => ?_) hx
  ·rw [hlen]
   by_cases hjl : j < ids.length
   ·have h1 : ids[j]? = some ids[j] := List.getElem?_eq_getElem hjl
    rw [hρ1 h1]
    have := dM hb h1
    omega
   ·rw [hρ2 (by omega)]
    omega
  ·by_cases hjl : j < ids.length
   ·have h1 : ids[j]? = some ids[j] := List.getElem?_eq_getElem hjl
    have hi := dM hb h1
    rw [hρ1 h1] at hl ⊢
    rcases lv hl with ⟨j', o0, h2, h3, h4⟩ | ⟨_, h2, _⟩ | ⟨j', o0, h2, h3, _⟩
    ·have := hnd _ _ _ h1 h2
     subst this
     obtain ⟨_, h5, _⟩ := handed h1 h3
     refine ⟨o0, h3, by rw [mOld hi, h5], fun e nl xs he => ?_, fun e xs l he => ?_⟩
     ·subst he
      cases o0 <;> simp [AO.ren] at h4
      obtain ⟨rfl, rfl, rfl⟩ := h4
      rfl
     ·subst he
      cases o0 <;> simp [AO.ren] at h4
      obtain ⟨rfl, rfl, _⟩ := h4
      exact ⟨_, rfl⟩
    ·exact absurd h1 (h2 j)
    ·omega
   ·rw [hρ2 (by omega)] at hl ⊢
    rcases lv hl with ⟨j', o0, h2, _⟩ | ⟨h2, _⟩ | ⟨j', o0, h2, h3, h4, h5⟩
    ·have := dM hb h2; omega
    ·omega
    ·have hjj : j' = j := by omega
     subst hjj
     refine ⟨o0, h4, mNew h2, fun e nl xs he => ?_, fun e xs l he => ?_⟩
     ·subst he
      cases o0 <;> simp [AO.ren] at h5
      obtain ⟨rfl, rfl, rfl⟩ := h5
      rfl
     ·subst he
      cases o0 <;> simp [AO.ren] at h5
      obtain ⟨rfl, rfl, _⟩ := h5
      exact ⟨_, rfl⟩
 have hownL : ∀ b, Abs.own (gZ H ids) (fun j => m (ids.getD j 0)) b -> Abs.own H m b := by
  rintro b ⟨j, o, h1, h2⟩
  obtain ⟨i, o0, h3, h4, h5⟩ := ei h1
  have hg : ids.getD j 0 = i := by simp [List.getD, h3]
  simp only [hg] at h2
  subst h5
  exact ⟨i, o0, h4, by cases o0 <;> exact h2⟩
 -- an object that was not handed over keeps its block
 have other : ∀ {i : Nat} {o : AO} {b : Nat}, (∀ (j : Nat), ids[j]? ≠ some i) -> live H i o -> Abs.blk (m i) o = some b -> w'.heap[b]? = w.heap[b]? /\ ¬ S' b /\ ¬ Abs.own H' m' b := by
  intro i o b hno hl hbb
  have hlt := (hp.obj i o hl).bE hbb
  have hno' : ¬ Abs.own (gZ H ids) (fun j => m (ids.getD j 0)) b := by
   rintro ⟨j, o1, h1, h2⟩
   obtain ⟨i', o0, h3, h4, h5⟩ := ei h1
   have hg : ids.getD j 0 = i' := by simp [List.getD, h3]
   simp only [hg] at h2
   subst h5
   have h6 : Abs.blk (m i') o0 = some b := by cases o0 <;> exact h2
   have := hp.inj i i' o o0 b hl h4 hbb h6
   subst this
   exact hno j h3
  refine ⟨h.blk b hlt hno', fun hS => ?_, fun ho => ?_⟩
  ·rcases h.wX b hS with h1 | h1 | h1
   ·exact hp.out i o b hl hbb h1
   ·exact hno' h1
   ·omega
  ·rcases h.own b ho with h1 | h1
   ·exact hno' h1
   ·omega
 have okB : ∀ {j : Nat} {o0 : AO}, live H' j o0 -> OK P (fM H ids H') m'' S' w' (m' j) (o0.ren (backρ ids H.length)) := by
  intro j o0 hl
  have h1 := h.hp.obj j o0 hl
  cases o0 with
  | cells cs =>
   obtain ⟨b, T, vs, h2, h3, h4, h5⟩ := h1
   refine ⟨b, T, vs, h2, h3, by rw [bV]; exact h4, fun k c hk => ?_⟩
   rw [fb, Option.map_eq_some_iff] at hk
   obtain ⟨d, hd, rfl⟩ := hk
   exact ⟨rdB (h5 k d hd).1, (h5 k d hd).2⟩
  | buf e nl xs => exact h1
  | frz nl xs => exact h1
  | map ks => exact h1
  | arr xs => exact h1
  | bn e xs l =>
   obtain ⟨i', us, g1, g2, g3, g4, g5, g6, g7⟩ := h1
   refine ⟨i', us, g1, g2, g3, g4, by rw [bV]; exact g5, g6, fun k c hk => ?_⟩
   rw [fb, Option.map_eq_some_iff] at hk
   obtain ⟨d, hd, rfl⟩ := hk
   obtain ⟨u, hu, h2, h3⟩ := g7 k d hd
   exact ⟨u, hu, rdB h2, h3⟩
 -- each live object is an object of the callee's, or one that was not handed over
 have kinds : ∀ {i : Nat} {o : AO}, live (fM H ids H') i o -> (∃ j o0, live H' j o0 /\ m'' i = m' j /\ o = o0.ren (backρ ids H.length) /\ i = backρ ids H.length j) \/ ((∀ (j : Nat), ids[j]? ≠ some i) /\ i < H.length /\ live H i o /\ m'' i = m i) := by
  intro i o hl
  rcases lv hl with ⟨j, o0, h1, h2, h3⟩ | ⟨h1, h2, h3⟩ | ⟨j, o0, h1, h2, h3, h4⟩
  ·obtain ⟨h4, h5, _⟩ := handed h1 h2
   exact .inl ⟨j, o0, h2, by rw [mOld h4, h5], h3, (hρ1 h1).symm⟩
  ·exact .inr ⟨h2, h1, h3, mOld h1⟩
  ·exact .inl ⟨j, o0, h3, by rw [h2]; exact mNew h1, h4, by rw [hρ2 h1]; exact h2⟩
 have blkR : ∀ {v : Value} {o0 : AO} {b : Nat}, Abs.blk v (o0.ren (backρ ids H.length)) = some b -> Abs.blk v o0 = some b := by
  intro v o0 b hbb
  cases o0 <;> exact hbb
 refine ⟨m'', ⟨hold, ⟨fun i o hl => ?_, fun i j oi oj b hi hj hbi hbj => ?_, h.hp.sub, fun i o b hl hbb => ?_, h.hp.glb⟩, h.keeps, h.sub, h.os, h.tape, h.output, h.size, fun b hlt hno => h.blk b hlt fun ho => hno (hownL b ho), fun b hS => ?_, fun b ho => ?_, h.sM⟩, rdB⟩
 ·rcases kinds hl with ⟨j, o0, h1, h2, h3, _⟩ | ⟨h1, _, h2, h3⟩
  ·rw [h2, h3]; exact okB h1
  ·rw [h3]
   exact OK.mono h.keeps h.sub hold (hp.obj i o h2) fun b hbb => (other h1 h2 hbb).1
 ·rcases kinds hi with ⟨j1, o1, h1, h2, h3, h4⟩ | ⟨h1, _, h2, h3⟩ <;> rcases kinds hj with ⟨j2, o2, g1, g2, g3, g4⟩ | ⟨g1, _, g2, g3⟩
  ·rw [h2, h3] at hbi
   rw [g2, g3] at hbj
   have := h.hp.inj j1 j2 o1 o2 b h1 g1 (blkR hbi) (blkR hbj)
   rw [h4, g4, this]
  ·rw [h2, h3] at hbi
   rw [g3] at hbj
   exact absurd ⟨j1, o1, h1, blkR hbi⟩ (other g1 g2 hbj).2.2
  ·rw [h3] at hbi
   rw [g2, g3] at hbj
   exact absurd ⟨j2, o2, g1, blkR hbj⟩ (other h1 h2 hbi).2.2
  ·rw [h3] at hbi
   rw [g3] at hbj
   exact hp.inj i j oi oj b h2 g2 hbi hbj
 ·rcases kinds hl with ⟨j, o0, h1, h2, h3, _⟩ | ⟨h1, _, h2, h3⟩
  ·rw [h2, h3] at hbb
   exact h.hp.out j o0 b h1 (blkR hbb)
  ·rw [h3] at hbb
   exact (other h1 h2 hbb).2.1
 ·rcases h.wX b hS with h1 | h1 | h1
  ·exact .inl h1
  ·exact .inr (.inl (hownL b h1))
  ·exact .inr (.inr h1)
 ·obtain ⟨i, o, hl, hbb⟩ := ho
  rcases kinds hl with ⟨j, o0, h1, h2, h3, _⟩ | ⟨h1, _, h2, h3⟩
  ·rw [h2, h3] at hbb
   rcases h.own b ⟨j, o0, h1, blkR hbb⟩ with h4 | h4
   ·exact .inl (hownL b h4)
   ·exact .inr h4
  ·rw [h3] at hbb
   exact .inl ⟨i, o, h2, hbb⟩
end
end Go.Abs
namespace Go.Abs
open Go.RowKit
section
variable {P : Program} {H : AH} {m : Nat -> Value} {S : Nat -> Prop} {w : World}
theorem Stp.Ev (hp : Hp P H m S w) {Sc : Nat -> Prop} {H' : AH} {m' : Nat -> Value} {S' : Nat -> Prop} {w' : World} {mc : Nat -> Value}
  (h : Stp P [] mc Sc w H' m' S' w') (hf : oe H') :
  ∃ m'', Stp P H m S w (H ++ db (backρ [] H.length) H') m'' S w' /\ ∀ {x : AV} {v : Value}, x.flat -> Rd P H' m' S' w' x v -> Rd P (H ++ db (backρ [] H.length) H') m'' S w' (x.ren (backρ [] H.length)) v := by
 have hno : ∀ b, ¬ Abs.own ([] : AH) mc b := by rintro b ⟨i, o, hl, _⟩; simp [Abs.live] at hl
 have hblk : ∀ b, b < w.heap.size -> w'.heap[b]? = w.heap[b]? := fun b hb => h.blk b hb (hno b)
 have hk : b8 S w w' := fun b hb => hblk b (hp.sub b hb)
 have hρ : ∀ j, backρ [] H.length j = H.length + j := fun j => rfl
 let m'' : Nat -> Value := fun i => if i < H.length then m i else m' (i - H.length)
 have mOld : ∀ {i : Nat}, i < H.length -> m'' i = m i := fun hi => if_pos hi
 have mNew : ∀ (j : Nat), m'' (H.length + j) = m' j := by
  intro j
  show (if _ then _ else _) = _
  rw [if_neg (by omega)]
  congr 1
  omega
 have hlen : (H ++ db (backρ [] H.length) H').length = H.length + H'.length := by simp [fc]
 have lv : ∀ {i : Nat} {o : AO}, live (H ++ db (backρ [] H.length) H') i o -> (i < H.length /\ live H i o) \/ ∃ j o0, i = H.length + j /\ live H' j o0 /\ o = o0.ren (backρ [] H.length) := by
  intro i o hl
  unfold live at hl
  by_cases hi : i < H.length
  ·rw [List.getElem?_append_left hi] at hl
   exact .inl ⟨hi, hl⟩
  ·rw [List.getElem?_append_right (by omega)] at hl
   obtain ⟨o0, h1, h2⟩ := p8 hl
   exact .inr ⟨i - H.length, o0, by omega, h1, h2⟩
 have hold : aW H (H ++ db (backρ [] H.length) H') m m'' := by
  refine ⟨by rw [hlen]; omega, fun i hi o' hl => ⟨mOld hi, ?_⟩⟩
  rcases lv hl with ⟨_, h1⟩ | ⟨j, o0, h1, _⟩
  ·exact ⟨o', h1, fun e nl xs he => ⟨nl, xs, he, Nat.le_refl _⟩, fun e xs l he => ⟨l, he⟩⟩
  ·omega
 have rdB : ∀ {x : AV} {v : Value}, x.flat -> Rd P H' m' S' w' x v -> Rd P (H ++ db (backρ [] H.length) H') m'' S w' (x.ren (backρ [] H.length)) v := by
  intro x v hx hr
  have h1 : Rd P H' m' S w' x v := hr.flat hx
  refine Rd.ren (fun j hj => by rw [hlen, hρ]; omega) (fun j o' hj hl => ?_) h1
  rw [hρ] at hl ⊢
  rcases lv hl with ⟨h2, _⟩ | ⟨j', o0, h2, h3, h4⟩
  ·omega
  ·obtain rfl : j = j' := by omega
   refine ⟨o0, h3, mNew j, fun e nl xs he => ?_, fun e xs l he => ?_⟩
   ·subst he
    cases o0 <;> simp [AO.ren] at h4
    obtain ⟨rfl, rfl, rfl⟩ := h4
    rfl
   ·subst he
    cases o0 <;> simp [AO.ren] at h4
    obtain ⟨rfl, rfl, _⟩ := h4
    exact ⟨_, rfl⟩
 have newB : ∀ {j : Nat} {o0 : AO} {b : Nat}, live H' j o0 -> Abs.blk (m' j) o0 = some b -> w.heap.size <= b := by
  intro j o0 b hl hb
  rcases h.own b ⟨j, o0, hl, hb⟩ with h1 | h1
  ·exact absurd h1 (hno b)
  ·exact h1
 have blkR : ∀ {v : Value} {o0 : AO} {b : Nat}, Abs.blk v (o0.ren (backρ [] H.length)) = some b -> Abs.blk v o0 = some b := by
  intro v o0 b hbb
  cases o0 <;> exact hbb
 refine ⟨m'', ⟨hold, ⟨fun i o hl => ?_, fun i j oi oj b hi hj hbi hbj => ?_, fun b hb => Nat.lt_of_lt_of_le (hp.sub b hb) h.size, fun i o b hl hbb hS => ?_, hp.glb.mono hk fun _ h => h⟩, hk, fun _ h => h, h.os, h.tape, h.output, h.size, fun b hlt _ => hblk b hlt, fun b hS => .inl hS, fun b ho => ?_, fun b hS => .inl hS⟩, rdB⟩
 ·rcases lv hl with ⟨h1, h2⟩ | ⟨j, o0, rfl, h2, rfl⟩
  ·rw [mOld h1]
   exact OK.mono hk (fun _ h => h) hold (hp.obj i o h2) fun b hbb => hblk b ((hp.obj i o h2).bE hbb)
  ·rw [mNew]
   have hfl := jy hf h2
   have h3 := (h.hp.obj j o0 h2).flat (S' := S) hfl
   cases o0 with
   | cells cs =>
    obtain ⟨b, T, vs, h4, h5, h6, _⟩ := h3
    obtain ⟨b2, T2, vs2, g4, g5, _, g7⟩ := h.hp.obj j _ h2
    rw [h4] at g4
    injection g4 with g4; injection g4 with g4; injection g4 with g4
    subst g4
    rw [h5] at g5
    injection g5 with g5; injection g5 with g5
    subst g5
    refine ⟨b, T, vs, h4, h5, by rw [bV]; exact h6, fun k c hk' => ?_⟩
    rw [fb, Option.map_eq_some_iff] at hk'
    obtain ⟨d, hd, rfl⟩ := hk'
    exact ⟨rdB (ic hfl hd) (g7 k d hd).1, (g7 k d hd).2⟩
   | buf e nl xs => exact h3
   | frz nl xs => exact h3
   | map ks => exact h3
   | arr xs => exact h3
   | bn e xs l => exact hfl.elim
 ·rcases lv hi with ⟨h1, h2⟩ | ⟨j1, o1, rfl, h2, rfl⟩ <;> rcases lv hj with ⟨g1, g2⟩ | ⟨j2, o2, rfl, g2, rfl⟩
  ·rw [mOld h1] at hbi
   rw [mOld g1] at hbj
   exact hp.inj i j oi oj b h2 g2 hbi hbj
  ·rw [mOld h1] at hbi
   rw [mNew] at hbj
   have := (hp.obj i oi h2).bE hbi
   have := newB g2 (blkR hbj)
   omega
  ·rw [mNew] at hbi
   rw [mOld g1] at hbj
   have := (hp.obj j oj g2).bE hbj
   have := newB h2 (blkR hbi)
   omega
  ·rw [mNew] at hbi hbj
   have := h.hp.inj j1 j2 o1 o2 b h2 g2 (blkR hbi) (blkR hbj)
   rw [this]
 ·rcases lv hl with ⟨h1, h2⟩ | ⟨j, o0, rfl, h2, rfl⟩
  ·rw [mOld h1] at hbb
   exact hp.out i o b h2 hbb hS
  ·rw [mNew] at hbb
   have := newB h2 (blkR hbb)
   have := hp.sub b hS
   omega
 ·obtain ⟨i, o, hl, hbb⟩ := ho
  rcases lv hl with ⟨h1, h2⟩ | ⟨j, o0, rfl, h2, rfl⟩
  ·rw [mOld h1] at hbb
   exact .inl ⟨i, o, h2, hbb⟩
  ·rw [mNew] at hbb
   exact .inr (newB h2 (blkR hbb))
def AD (S : Nat -> Prop) (w w' : World) (b : Nat) : Prop := S b \/ (w.heap.size <= b /\ b < w'.heap.size /\ isC w' b)
theorem Fr1.rd {mc : Nat -> Value} {Sc : Nat -> Prop} {H' : AH} {m' : Nat -> Value} {S' : Nat -> Prop} {w' : World} (h : Stp P [] mc Sc w H' m' S' w') {r : AV} {x : PV} {v : Value} (hf : Fr1 H' r x) (hr : Rd P H' m' S' w' r v) : RdP (AD S w w') w' x v := by
 have hno : ∀ b, ¬ Abs.own ([] : AH) mc b := by rintro b ⟨i, o, hl, _⟩; simp [Abs.live] at hl
 cases hf with
 | p _ hx => cases hr with | p _ _ hr => exact hr.flat hx
 | buf j e nl xs hl hx =>
  have hv := hr.bX hl
  subst hv
  have hok := h.hp.obj j _ hl
  have h2 : OK P H' m' S w' (m' j) (.buf e nl xs) := hok.flat hx
  refine RdP.nR h2 (fun b hb => .inl hb) fun b hb => .inr ⟨?_, hok.bE hb, hok.isC hb rfl⟩
  rcases h.own b ⟨j, _, hl, hb⟩ with h3 | h3
  ·exact absurd h3 (hno b)
  ·exact h3
theorem FrL.rd {mc : Nat -> Value} {Sc : Nat -> Prop} {H' : AH} {m' : Nat -> Value} {S' : Nat -> Prop} {w' : World} (h : Stp P [] mc Sc w H' m' S' w') : ∀ {l : List AV} {xs : List PV}, FrL H' l xs ->
  l.length = xs.length /\ ∀ (k : Nat) (x : PV), xs[k]? = some x -> ∃ r, l[k]? = some r /\ Fr1 H' r x
 | _, _, .nil => ⟨rfl, by simp⟩
 | _, _, .cons h1 hs => by
  obtain ⟨h2, h3⟩ := FrL.rd h hs
  refine ⟨by simp [h2], fun k x hk => ?_⟩
  cases k with
  | zero => simp at hk; subst hk; exact ⟨_, rfl, h1⟩
  | succ k => simpa using h3 k x (by simpa using hk)
theorem FrV.rd {mc : Nat -> Value} {Sc : Nat -> Prop} {H' : AH} {m' : Nat -> Value} {S' : Nat -> Prop} {w' : World} (h : Stp P [] mc Sc w H' m' S' w') {r x : AV} {v : Value} (hf : FrV H' r x) (hr : Rd P H' m' S' w' r v) : Rd P H m (AD S w w') w' x v := by
 cases hf with
 | one h1 => exact .p _ _ (h1.rd h hr)
 | tup h1 =>
  obtain ⟨h2, h3⟩ := FrL.rd h h1
  cases hr with
  | tup _ vs hl hrr =>
   refine .tup _ vs (by rw [hl, List.length_map, h2]) fun k c hk => ?_
   rw [List.getElem?_map, Option.map_eq_some_iff] at hk
   obtain ⟨y, hy, rfl⟩ := hk
   obtain ⟨r, h4, h5⟩ := h3 k y hy
   exact .p _ _ (h5.rd h (hrr k r h4))
theorem Stp.fresh (hp : Hp P H m S w) {mc : Nat -> Value} {Sc : Nat -> Prop} {H' : AH} {m' : Nat -> Value} {S' : Nat -> Prop} {w' : World} (h : Stp P [] mc Sc w H' m' S' w') : Stp P H m S w H m (AD S w w') w' := by
 have hno : ∀ b, ¬ Abs.own ([] : AH) mc b := by rintro b ⟨i, o, hl, _⟩; simp [Abs.live] at hl
 have hblk : ∀ b, b < w.heap.size -> w'.heap[b]? = w.heap[b]? := fun b hb => h.blk b hb (hno b)
 have hk : b8 S w w' := fun b hb => hblk b (hp.sub b hb)
 refine ⟨aW.refl _ _, ⟨fun j o hl => OK.mono hk (fun _ h => .inl h) (aW.refl _ _) (hp.obj j o hl) fun b hb => hblk b ((hp.obj j o hl).bE hb), hp.inj, fun b hb => ?_, fun j o b hl hb hS => ?_, hp.glb.mono hk fun _ h => .inl h⟩,
  hk, fun _ h => .inl h, h.os, h.tape, h.output, h.size, fun b hb _ => hblk b hb, fun b hb => ?_, fun _ h => .inl h, fun b hb => hb.imp id fun h => h.2.2⟩
 ·rcases hb with hb | hb
  ·exact Nat.lt_of_lt_of_le (hp.sub b hb) h.size
  ·exact hb.2.1
 ·rcases hS with hS | hS
  ·exact hp.out j o b hl hb hS
  ·have := (hp.obj j o hl).bE hb
   omega
 ·rcases hb with hb | hb
  ·exact .inl hb
  ·exact .inr (.inr hb.1)
theorem ab.BU {f : FuncId} {args : List AV} {K : AV -> AH -> Prop} (h : ab P f args H K) : (∃ v, kS P f args v /\ K v H) \/ ao P f args H K := by
 by_cases hx : ∃ v, kS P f args v /\ K v H
 ·exact .inl hx
 have hen : ∃ fn, P.funcs[f]? = some fn /\ fn.body.isSome = true /\ (fn.name == "runtime.NumGoroutine") = false := by
  cases h with
  | all h => exact h.enter
  | loc _ _ _ _ h => exact h.enter
  | fresh _ h => exact h.enter
  | s9 h => exact h.enter
  | ext v h hk => exact (hx ⟨v, h, hk⟩).elim
 refine .inr ⟨hen, fun m S w vals hp hl hr => ?_⟩
 cases h with
 | ext v h hk => exact (hx ⟨v, h, hk⟩).elim
 | all h => exact h.calls m S w vals hp hl hr
 | loc ids fz h1 h2 h =>
  obtain ⟨S1, hst⟩ := Stp.aP (P := P) (m := m) (w := w) fz H S hp
  have hlp : Hp P (gZ (aP H fz) ids) (fun j => m (ids.getD j 0)) S1 w := by
   have hg : ∀ {j i : Nat}, ids[j]? = some i -> ids.getD j 0 = i := fun h => by simp [List.getD, h]
   have hblk : ∀ {j : Nat} {o : AO} {b : Nat}, live (gZ (aP H fz) ids) j o -> Abs.blk (m (ids.getD j 0)) o = some b -> ∃ i o0, ids[j]? = some i /\ live (aP H fz) i o0 /\ Abs.blk (m i) o0 = some b := by
    intro j o b hlv hb
    obtain ⟨i, o0, h3, h4, rfl⟩ := ei hlv
    rw [hg h3] at hb
    exact ⟨i, o0, h3, h4, by cases o0 <;> exact hb⟩
   refine ⟨fun j o hlv => ?_, fun i j oi oj b hi hj hbi hbj => ?_, hst.hp.sub, fun j o b hlv hb => ?_, hst.hp.glb⟩
   ·obtain ⟨i, o0, h3, h4, rfl⟩ := ei hlv
    rw [hg h3]
    have h5 := hst.hp.obj i o0 h4
    cases o0 with
    | cells cs =>
     obtain ⟨b, T, vs, g1, g2, g3, g4⟩ := h5
     refine ⟨b, T, vs, g1, g2, by rw [bH]; exact g3, fun k c hk => ?_⟩
     rw [cI, Option.map_eq_some_iff] at hk
     obtain ⟨d, hd, rfl⟩ := hk
     exact ⟨cG hst.hp (fun _ h => h) (fun h => by cases h) (g4 k d hd).1, (g4 k d hd).2⟩
    | buf e nl xs => exact h5
    | frz nl xs => exact h5
    | map ks => exact h5
    | arr xs => exact h5
    | bn e xs l =>
     obtain ⟨i', us, g1, g2, g3, g4, g5, g6, g7⟩ := h5
     refine ⟨i', us, g1, g2, g3, g4, by rw [bH]; exact g5, g6, fun k c hk => ?_⟩
     rw [cI, Option.map_eq_some_iff] at hk
     obtain ⟨d, hd, rfl⟩ := hk
     obtain ⟨u, hu, h2, h3⟩ := g7 k d hd
     exact ⟨u, hu, cG hst.hp (fun _ h => h) (fun h => by cases h) h2, h3⟩
   ·obtain ⟨i1, o1, g1, g2, g3⟩ := hblk hi hbi
    obtain ⟨i2, o2, k1, k2, k3⟩ := hblk hj hbj
    have := hst.hp.inj i1 i2 o1 o2 b g2 k2 g3 k3
    subst this
    exact gW h1 g1 k1
   ·obtain ⟨i1, o1, g1, g2, g3⟩ := hblk hlv hb
    exact hst.hp.out i1 o1 b g2 g3
  refine (h.calls _ S1 w vals hlp (by rw [hl, bH]) fun j x hj => ?_).mono fun e w' ⟨v, r, H', m', S', he, hK, hs', hrd⟩ => ?_
  ·rw [cI, Option.map_eq_some_iff] at hj
   obtain ⟨y, hy, rfl⟩ := hj
   exact cG hst.hp (fun _ h => h) (fun h => by cases h) ((hr j y hy).mono hst.keeps hst.sub hst.old)
  ·obtain ⟨m'', g1, g2⟩ := Stp.back hst.hp h1 h2 hs'
   exact ⟨v, _, _, m'', S', he, hK, hst.trans g1, g2 hrd⟩
 | fresh R h hk =>
  have hlp : Hp P [] (fun j => m (([] : List Nat).getD j 0)) (fun b => b < w.heap.size) w := by
   refine ⟨fun j o hlv => ?_, fun i j oi oj b hi => ?_, fun b hb => hb, fun j o b hlv => ?_, hp.glb.mono (fun _ _ => rfl) hp.sub⟩
   ·simp [live] at hlv
   ·simp [live] at hi
   ·simp [live] at hlv
  refine (h.calls _ _ w vals hlp (by rw [hl, bH]) fun j x hj => ?_).mono fun e w' ⟨v, r, H', m', S', he, ⟨x, hx, hR⟩, hs', hrd⟩ => ?_
  ·rw [cI, Option.map_eq_some_iff] at hj
   obtain ⟨y, hy, rfl⟩ := hj
   exact cG (ids := []) hp (fun b hb => hp.sub b hb) (fun _ id o b hlv hb => (hp.obj id o hlv).bE hb) (hr j y hy)
  ·exact ⟨v, x, H, m, _, he, hk x hR, Stp.fresh hp hs', hx.rd hs' hrd⟩
 | s9 h =>
  have hlp : Hp P [] (fun j => m (([] : List Nat).getD j 0)) (fun b => b < w.heap.size) w := by
   refine ⟨fun j o hlv => ?_, fun i j oi oj b hi => ?_, fun b hb => hb, fun j o b hlv => ?_, hp.glb.mono (fun _ _ => rfl) hp.sub⟩
   ·simp [live] at hlv
   ·simp [live] at hi
   ·simp [live] at hlv
  refine (h.calls _ _ w vals hlp (by rw [hl, bH]) fun j x hj => ?_).mono fun e w' ⟨v, r, H', m', S', he, ⟨hrf, hHf, hK⟩, hs', hrd⟩ => ?_
  ·rw [cI, Option.map_eq_some_iff] at hj
   obtain ⟨y, hy, rfl⟩ := hj
   exact cG (ids := []) hp (fun b hb => hp.sub b hb) (fun _ id o b hlv hb => (hp.obj id o hlv).bE hb) (hr j y hy)
  ·obtain ⟨m'', g1, g2⟩ := Stp.Ev hp hs' hHf
   exact ⟨v, _, _, m'', S, he, hK, g1, g2 hrf hrd⟩
end
end Go.Abs
