/- Whatever the list of numbers, TopRefusals returns true, and its argument reads as it did; its package variables are tied to the program's text. Part 1 of 15. -/
import Derived.WalkKit
import Derived.Maps.AppendAt
import Derived.Deep.Quiet
import Derived.StillTail
import Derived.Laws.StructEq
import Derived.Laws.MakeOwn
import Derived.Great.BuildSlice
import Derived.MapFrom
import Derived.Laws.CopyRow
import Derived.ArgAppend
import Derived.Laws.BytesString
import Derived.Lib.AppendZeros
import Derived.Lib.AppendStr
set_option linter.unusedSimpArgs false
set_option linter.unusedVariables false
set_option linter.unnecessarySimpa false
namespace Go.Abs
open Go.RowKit
inductive PV where
 | v (x : Value)
 | list (nl : Bool) (xs : List PV)
 | agg (cs : List PV)
def PV.cells : PV -> List PV
 | .agg cs => cs
 | .v x => [.v x]
 | .list nl xs => [.list nl xs]
def flat (xs : List PV) : List PV := xs.flatMap PV.cells
inductive RdP (S : Nat -> Prop) (w : World) : PV -> Value -> Prop
 | v (x : Value) (h : x.oneCell' = true) : RdP S w (.v x) x
 | nil : RdP S w (.list true []) (.slice none 0 0)
 | list (xs : List PV) (a : Addr) (cap sz : Nat) (us : Nat -> Value) (hS : xs ≠ [] -> S a.block) (hc : xs.length <= cap) (hm : cap <= maxLen)
   (hz : ∀ x ∈ xs, x.cells.length = sz)
   (hu : ∀ k c, (flat xs)[k]? = some c -> w.cell? (a.add k) = some (us k) /\ (us k).oneCell' = true)
   (hr : ∀ k c, (flat xs)[k]? = some c -> RdP S w c (us k)) :
   RdP S w (.list false xs) (.slice (some a) xs.length cap)
 | agg (cs : List PV) (vs : Array Value) (hl : vs.size = cs.length) (ho : ∀ k c, cs[k]? = some c -> (vs.getD k undef).oneCell' = true)
   (hr : ∀ k c, cs[k]? = some c -> RdP S w c (vs.getD k undef)) :
   RdP S w (.agg cs) (.agg vs)
theorem add_block (a : Addr) (n : Nat) : (a.add n).block = a.block := by unfold Addr.add; split <;> rfl
theorem add_add (a : Addr) (i j : Nat) : (a.add i).add j = a.add (i + j) := by
 unfold Addr.add
 by_cases hi : i = 0 <;> by_cases hj : j = 0 <;> simp [hi, hj, Nat.add_assoc]
theorem add_lit (b o n : Nat) : (⟨b, o, none⟩ : Addr).add n = ⟨b, o + n, none⟩ := by
 unfold Addr.add
 by_cases h : n = 0 <;> simp [h]
def Keeps (S : Nat -> Prop) (w w' : World) : Prop := ∀ b, S b -> w'.heap[b]? = w.heap[b]?
theorem Keeps.cell {S : Nat -> Prop} {w w' : World} (h : Keeps S w w') {p : Addr} (hp : S p.block) : w'.cell? p = w.cell? p := World.cell?_of_block (h p.block hp)
theorem RdP.mono {S S' : Nat -> Prop} {w w' : World} (hk : Keeps S w w') (hs : ∀ b, S b -> S' b) {x : PV} {v : Value} (h : RdP S w x v) : RdP S' w' x v := by
 induction h with
 | v x h => exact .v x h
 | nil => exact .nil
 | list xs a cap sz us hS hc hm hz hu hr ih =>
  refine .list xs a cap sz us (fun h => hs _ (hS h)) hc hm hz (fun k c h => ⟨?_, (hu k c h).2⟩) ih
  rw [hk.cell (by rw [add_block]; exact hS (by rintro rfl; simp [flat] at h))]
  exact (hu k c h).1
 | agg cs vs hl ho hr ih => exact .agg cs vs hl ho ih
def gl (_ : Nat) : Option (List PV) := none
def Glb (S : Nat -> Prop) (w : World) : Prop := ∀ g cs, gl g = some cs -> S g /\ ∃ us : Nat -> Value, (∀ k c, cs[k]? = some c -> w.cell? ((⟨g, 0, none⟩ : Addr).add k) = some (us k) /\ (us k).oneCell' = true) /\ ∀ k c, cs[k]? = some c -> RdP S w c (us k)
theorem Glb.mono {S S' : Nat -> Prop} {w w' : World} (h : Glb S w) (hk : Keeps S w w') (hs : ∀ b, S b -> S' b) : Glb S' w' := by
 intro g cs hg
 obtain ⟨h1, us, h2, h3⟩ := h g cs hg
 refine ⟨hs _ h1, us, fun k c hc => ⟨?_, (h2 k c hc).2⟩, fun k c hc => (h3 k c hc).mono hk hs⟩
 rw [hk.cell (by rw [add_block]; exact h1)]
 exact (h2 k c hc).1
inductive AV where
 | p (x : PV)
 | ptr (id off : Nat)
 | buf (id : Nat)
 | sub (id lo hi : Nat)
 | bptr (id ix off : Nat)
 | rptr (cs : List PV)
 | agg (cs : List AV)
 | tup (xs : List AV)
 | clo (fn : Fn) (caps : List AV)
 | mp (id : Nat)
 | cap (nl : Bool) (xs : List PV)
 | lptr (id off : Nat)
 | wptr (id ix off : Nat)
 | opq
 | dead
inductive AO where
 | cells (cs : List AV)
 | buf (e : TypeId) (nl : Bool) (xs : List PV)
 | frz (nl : Bool) (xs : List PV)
 | map (es : List (Value × Value))
 | arr (xs : List PV)
 | bufL (e : TypeId) (xs : List PV) (l : List AV)
 | rws (e : TypeId) (nl : Bool) (sz q : Nat) (e2 : TypeId) (xs : List PV) (h : Option Nat) (l : List AV) (g : Option (Nat -> Bool))
abbrev AH := List (Option AO)
def live (H : AH) (id : Nat) (o : AO) : Prop := H[id]? = some (some o)
def AO.row : AO -> Option TypeId
 | .buf e _ _ => some e
 | .rws e _ _ _ _ _ _ _ _ => some e
 | _ => none
inductive Rd (P : Program) (H : AH) (m : Nat -> Value) (S : Nat -> Prop) (w : World) : AV -> Value -> Prop
 | p (x : PV) (v : Value) (h : RdP S w x v) : Rd P H m S w (.p x) v
 | ptr (id off : Nat) (a : Addr) (hid : id < H.length) (h : ∀ o, live H id o -> ∃ b, m id = .pointer (some ⟨b, 0, none⟩) /\ a = ⟨b, off, none⟩) : Rd P H m S w (.ptr id off) (.pointer (some a))
 | buf (id : Nat) (a : Option Addr) (l c : Nat) (hid : id < H.length) (h : ∀ o, live H id o -> m id = .slice a l c) : Rd P H m S w (.buf id) (.slice a l c)
 | sub (id lo hi : Nat) (a : Option Addr) (l c : Nat) (hid : id < H.length)
   (h : ∀ e nl xs, live H id (.buf e nl xs) -> ∃ i a0 l0 c0, P.info? e = some i /\ m id = .slice a0 l0 c0 /\ lo <= hi /\ hi <= xs.length /\ l = hi - lo /\ c = c0 - lo /\ (a = none ↔ a0 = none) /\ (c0 ≠ lo -> a = a0.map (·.add (lo * i.size))))
   (h2 : ∀ o p, live H id o -> m id = .pointer (some p) -> lo = 0 /\ a = some p /\ l = hi /\ hi <= c /\ c <= maxLen) :
   Rd P H m S w (.sub id lo hi) (.slice a l c)
 | bptr (id ix off : Nat) (a : Addr) (hid : id < H.length)
   (h : ∀ e nl xs, live H id (.buf e nl xs) -> ∃ i g l c, P.info? e = some i /\ m id = .slice (some ⟨g, 0, none⟩) l c /\ a = ⟨g, ix * i.size + off, none⟩) : Rd P H m S w (.bptr id ix off) (.pointer (some a))
 | rptr (cs : List PV) (a : Addr) (us : Nat -> Value) (hS : S a.block) (hu : ∀ k c, cs[k]? = some c -> w.cell? (a.add k) = some (us k) /\ (us k).oneCell' = true)
   (hr : ∀ k c, cs[k]? = some c -> RdP S w c (us k)) : Rd P H m S w (.rptr cs) (.pointer (some a))
 | agg (cs : List AV) (vs : Array Value) (hl : vs.size = cs.length) (ho : ∀ k c, cs[k]? = some c -> (vs.getD k undef).oneCell' = true)
   (hr : ∀ k c, cs[k]? = some c -> Rd P H m S w c (vs.getD k undef)) : Rd P H m S w (.agg cs) (.agg vs)
 | tup (cs : List AV) (vs : Array Value) (hl : vs.size = cs.length) (hr : ∀ k c, cs[k]? = some c -> Rd P H m S w c (vs.getD k undef)) : Rd P H m S w (.tup cs) (.tuple vs)
 | clo (fn : Fn) (caps : List AV) (vs : Array Value) (hl : vs.size = caps.length) (hr : ∀ k c, caps[k]? = some c -> Rd P H m S w c (vs.getD k undef)) :
   Rd P H m S w (.clo fn caps) (.func fn #[] vs)
 | mp (id b : Nat) (hid : id < H.length) (h : ∀ o, live H id o -> m id = .map (some b)) : Rd P H m S w (.mp id) (.map (some b))
 | cap (nl : Bool) (xs : List PV) (a : Option Addr) (l : Nat) (h : RdP S w (.list nl xs) (.slice a l l)) : Rd P H m S w (.cap nl xs) (.slice a l l)
 | lptr (id off : Nat) (a : Addr) (hid : id < H.length)
   (h : ∀ e xs l, live H id (.bufL e xs l) -> ∃ i g l0 c, P.info? e = some i /\ m id = .slice (some ⟨g, 0, none⟩) l0 c /\ a = ⟨g, xs.length * i.size + off, none⟩) : Rd P H m S w (.lptr id off) (.pointer (some a))
 | wptr (id ix off : Nat) (a : Addr) (hid : id < H.length)
   (h : ∀ o e, live H id o -> o.row = some e -> ∃ i g l c, P.info? e = some i /\ m id = .slice (some ⟨g, 0, none⟩) l c /\ a = ⟨g, ix * i.size + off, none⟩) : Rd P H m S w (.wptr id ix off) (.pointer (some a))
 | opq (v : Value) (h : v.oneCell' = true) : Rd P H m S w .opq v
 | dead (v : Value) : Rd P H m S w .dead v
structure Older (H H' : AH) (m m' : Nat -> Value) : Prop where
 len : H.length <= H'.length
 at_ : ∀ id, id < H.length -> ∀ o', live H' id o' -> m' id = m id /\ ∃ o, live H id o /\ (∀ e nl xs, o' = .buf e nl xs -> ∃ nl0 xs0, o = .buf e nl0 xs0 /\ xs0.length <= xs.length) /\ (∀ e xs l, o' = .bufL e xs l -> ∃ l0, o = .bufL e xs l0) /\ ∀ e, o'.row = some e -> o.row = some e
theorem Older.refl (H : AH) (m : Nat -> Value) : Older H H m m := ⟨Nat.le_refl _, fun _ _ o' h => ⟨rfl, o', h, fun _ _ _ e => ⟨_, _, e, Nat.le_refl _⟩, fun _ _ l e => ⟨l, e⟩, fun _ h => h⟩⟩
theorem Older.trans {H H' H'' : AH} {m m' m'' : Nat -> Value} (h : Older H H' m m') (k : Older H' H'' m' m'') : Older H H'' m m'' := by
 refine ⟨Nat.le_trans h.len k.len, fun id hid o'' hl => ?_⟩
 obtain ⟨hm, o', ho', hb, hL, hR⟩ := k.at_ id (Nat.lt_of_lt_of_le hid h.len) o'' hl
 obtain ⟨hm', o, ho, hb', hL', hR'⟩ := h.at_ id hid o' ho'
 refine ⟨hm.trans hm', o, ho, fun e nl xs he => ?_, fun e xs l he => ?_, fun e he => hR' e (hR e he)⟩
 ·obtain ⟨nl1, xs1, he1, hle1⟩ := hb e nl xs he
  obtain ⟨nl0, xs0, he0, hle0⟩ := hb' e nl1 xs1 he1
  exact ⟨nl0, xs0, he0, Nat.le_trans hle0 hle1⟩
 ·obtain ⟨l1, he1⟩ := hL e xs l he
  exact hL' e xs l1 he1
section
variable {P : Program} {H H' : AH} {m m' : Nat -> Value} {S S' : Nat -> Prop} {w w' : World}
theorem Rd.mono (hk : Keeps S w w') (hs : ∀ b, S b -> S' b) (ho : Older H H' m m') {x : AV} {v : Value} (h : Rd P H m S w x v) : Rd P H' m' S' w' x v := by
 induction h with
 | p x v h => exact .p x v (h.mono hk hs)
 | ptr id off a hid h =>
  refine .ptr id off a (Nat.lt_of_lt_of_le hid ho.len) fun o' hl => ?_
  obtain ⟨hm, o, hlo, _⟩ := ho.at_ id hid o' hl
  rw [hm]
  exact h o hlo
 | buf id a l c hid h =>
  refine .buf id a l c (Nat.lt_of_lt_of_le hid ho.len) fun o' hl => ?_
  obtain ⟨hm, o, hlo, _⟩ := ho.at_ id hid o' hl
  rw [hm]
  exact h o hlo
 | sub id lo hi a l c hid h hp =>
  refine .sub id lo hi a l c (Nat.lt_of_lt_of_le hid ho.len) (fun e nl xs hl => ?_) fun o' p hl he => ?_
  ·obtain ⟨hm, o, hlo, hb, _⟩ := ho.at_ id hid _ hl
   obtain ⟨nl0, xs0, rfl, hle⟩ := hb e nl xs rfl
   obtain ⟨i, a0, l0, c0, h1, h2, h3, h4, h5⟩ := h e nl0 xs0 hlo
   exact ⟨i, a0, l0, c0, h1, hm.trans h2, h3, Nat.le_trans h4 hle, h5⟩
  ·obtain ⟨hm, o, hlo, _⟩ := ho.at_ id hid _ hl
   exact hp o p hlo (hm.symm.trans he)
 | bptr id ix off a hid h =>
  refine .bptr id ix off a (Nat.lt_of_lt_of_le hid ho.len) fun e nl xs hl => ?_
  obtain ⟨hm, o, hlo, hb, _⟩ := ho.at_ id hid _ hl
  obtain ⟨nl0, xs0, rfl, hle⟩ := hb e nl xs rfl
  obtain ⟨i, g, l, c, h1, h2, h3⟩ := h e nl0 xs0 hlo
  exact ⟨i, g, l, c, h1, hm.trans h2, h3⟩
 | rptr cs a us hS hu hr =>
  refine .rptr cs a us (hs _ hS) (fun k c h => ⟨?_, (hu k c h).2⟩) fun k c h => (hr k c h).mono hk hs
  rw [hk.cell (by rw [add_block]; exact hS)]
  exact (hu k c h).1
 | agg cs vs hl ho' hr ih => exact .agg cs vs hl ho' ih
 | tup cs vs hl hr ih => exact .tup cs vs hl ih
 | clo fn caps vs hl hr ih => exact .clo fn caps vs hl ih
 | mp id b hid h =>
  refine .mp id b (Nat.lt_of_lt_of_le hid ho.len) fun o' hl => ?_
  obtain ⟨hm, o, hlo, _⟩ := ho.at_ id hid o' hl
  rw [hm]
  exact h o hlo
 | cap nl xs a l h => exact .cap nl xs a l (h.mono hk hs)
 | lptr id off a hid h =>
  refine .lptr id off a (Nat.lt_of_lt_of_le hid ho.len) fun e xs l hl => ?_
  obtain ⟨hm, o, hlo, _, hL, _⟩ := ho.at_ id hid _ hl
  obtain ⟨l0, rfl⟩ := hL e xs l rfl
  obtain ⟨i, g, l1, c, h1, h2, h3⟩ := h e xs l0 hlo
  exact ⟨i, g, l1, c, h1, hm.trans h2, h3⟩
 | wptr id ix off a hid h =>
  refine .wptr id ix off a (Nat.lt_of_lt_of_le hid ho.len) fun o' e hl he => ?_
  obtain ⟨hm, o, hlo, _, _, hR⟩ := ho.at_ id hid _ hl
  obtain ⟨i, g, l, c, h1, h2, h3⟩ := h o e hlo (hR e he)
  exact ⟨i, g, l, c, h1, hm.trans h2, h3⟩
 | opq v h => exact .opq v h
 | dead v => exact .dead v
end
def OKb (P : Program) (S : Nat -> Prop) (w : World) (mv : Value) (e : TypeId) (nl : Bool) (xs : List PV) : Prop :=
 ∃ (i : TypeInfo) (us : List Value), P.info? e = some i /\ 0 < i.size /\ w.ownsRow 0 e i.size mv xs.length us /\ (∀ x ∈ xs, x.cells.length = i.size) /\
   (∀ (k : Nat) (c : PV), (flat xs)[k]? = some c -> ∃ u : Value, us[k]? = some u /\ RdP S w c u /\ u.oneCell' = true) /\ (nl = true ↔ mv = .slice none 0 0)
def notAt (h : Option Nat) (j : Nat) : Prop := h ≠ some j
def gone (g : Option (Nat -> Bool)) (j : Nat) : Bool := match g with
 | none => false
 | some f => f j
def RowsIn (P : Program) (S : Nat -> Prop) (w : World) (sz q : Nat) (e2 : TypeId) (xs : List PV) (h : Option Nat) (g : Option (Nat -> Bool)) (us : List Value) : Prop :=
 ∀ j x, xs[j]? = some x -> notAt h j -> ∀ k c, x.cells[k]? = some c -> ∃ u : Value, us[j * sz + k]? = some u /\ u.oneCell' = true /\ (k ≠ q -> RdP S w c u) /\ (k = q -> gone g j = false -> ∃ nl2 ys, c = .list nl2 ys /\ OKb P S w u e2 nl2 ys)
def RowsApart (sz q n : Nat) (h : Option Nat) (g : Option (Nat -> Bool)) (us : List Value) (mv : Value) : Prop :=
 (∀ j b u, j < n -> notAt h j -> gone g j = false -> us[j * sz + q]? = some u -> u.ownBlock = some b -> mv.ownBlock ≠ some b) /\
 ∀ j j' b u u', j < n -> j' < n -> notAt h j -> notAt h j' -> gone g j = false -> gone g j' = false -> us[j * sz + q]? = some u -> us[j' * sz + q]? = some u' -> u.ownBlock = some b -> u'.ownBlock = some b -> j = j'
def OK (P : Program) (H : AH) (m : Nat -> Value) (S : Nat -> Prop) (w : World) (mv : Value) : AO -> Prop
 | .cells cs => ∃ (b : Nat) (T : TypeId) (vs : Array Value), mv = .pointer (some ⟨b, 0, none⟩) /\ w.heap[b]? = some (.cells vs T (0, 0)) /\ cs.length <= vs.size /\
   (∀ k c, cs[k]? = some c -> Rd P H m S w c (vs.getD k undef) /\ (vs.getD k undef).oneCell' = true)
 | .buf e nl xs => OKb P S w mv e nl xs
 | .frz nl xs => RdP S w (.list nl xs) mv
 | .map ks => ∃ (b : Nat) (es : Array MapEntry) (c : Nat), mv = .map (some b) /\ w.heap[b]? = some (.map es c) /\ es.toList.map (fun e => (e.key, e.val)) = ks /\ ∀ e ∈ ks, e.2.oneCell' = true
 | .arr xs => ∃ (b : Nat) (T : TypeId) (vs : Array Value), mv = .pointer (some ⟨b, 0, none⟩) /\ w.heap[b]? = some (.cells vs T (0, 0)) /\ xs.length <= vs.size /\
   (∀ k c, xs[k]? = some c -> RdP S w c (vs.getD k undef) /\ (vs.getD k undef).oneCell' = true)
 | .bufL e xs l => ∃ (i : TypeInfo) (us : List Value), P.info? e = some i /\ 0 < i.size /\ w.ownsRow 0 e i.size mv (xs.length + 1) us /\ (∀ x ∈ xs, x.cells.length = i.size) /\ l.length = i.size /\
   (∀ (k : Nat) (c : PV), (flat xs)[k]? = some c -> ∃ u : Value, us[k]? = some u /\ RdP S w c u /\ u.oneCell' = true) /\
   (∀ (k : Nat) (c : AV), l[k]? = some c -> ∃ u : Value, us[xs.length * i.size + k]? = some u /\ Rd P H m S w c u /\ u.oneCell' = true)
 | .rws e nl sz q e2 xs h l g => ∃ (i i2 : TypeInfo) (us : List Value), P.info? e = some i /\ i.size = sz /\ q < sz /\ P.info? e2 = some i2 /\ 0 < i2.size /\ w.ownsRow 0 e sz mv xs.length us /\ (∀ x ∈ xs, x.cells.length = sz) /\ (nl = true ↔ mv = .slice none 0 0) /\
   RowsIn P S w sz q e2 xs h g us /\
   (∀ p, h = some p -> p < xs.length /\ l.length = sz /\ ∀ (k : Nat) (c : AV), l[k]? = some c -> ∃ u : Value, us[p * sz + k]? = some u /\ Rd P H m S w c u /\ u.oneCell' = true) /\
   RowsApart sz q xs.length h g us mv
def blk (mv : Value) : AO -> Option Nat
 | .cells _ => match mv with | .pointer (some a) => some a.block | _ => none
 | .buf _ _ _ => mv.ownBlock
 | .frz _ _ => none
 | .map _ => match mv with | .map (some b) => some b | _ => none
 | .arr _ => match mv with | .pointer (some a) => some a.block | _ => none
 | .bufL _ _ _ => mv.ownBlock
 | .rws _ _ _ _ _ _ _ _ _ => mv.ownBlock
def rowBlk (w : World) (mv : Value) (b : Nat) : AO -> Prop
 | .rws _ _ sz q _ xs h _ gn => ∃ j g l c u, j < xs.length /\ notAt h j /\ gone gn j = false /\ mv = .slice (some ⟨g, 0, none⟩) l c /\ w.cell? ⟨g, j * sz + q, none⟩ = some u /\ u.ownBlock = some b
 | _ => False
def Own (w : World) (mv : Value) (o : AO) (b : Nat) : Prop := blk mv o = some b \/ rowBlk w mv b o
def AO.isR : AO -> Bool
 | .rws _ _ _ _ _ _ _ _ _ => true
 | _ => false
theorem own_iff {w : World} {mv : Value} {o : AO} {b : Nat} (h : o.isR = false) : Own w mv o b ↔ blk mv o = some b := by
 cases o <;> first | (cases h; done) | exact ⟨fun h => h.elim id False.elim, .inl⟩
theorem own_to {w w' : World} {mv : Value} {o o' : AO} {b : Nat} (ho : Own w' mv o' b) (h : o.isR = false) (h' : o'.isR = false) (hb : blk mv o' = blk mv o) : Own w mv o b := .inl (hb ▸ (own_iff h').1 ho)
structure Hp (P : Program) (H : AH) (m : Nat -> Value) (S : Nat -> Prop) (w : World) : Prop where
 obj : ∀ id o, live H id o -> OK P H m S w (m id) o
 inj : ∀ i j oi oj b, live H i oi -> live H j oj -> Own w (m i) oi b -> Own w (m j) oj b -> i = j
 sub : ∀ b, S b -> b < w.heap.size
 out : ∀ i o b, live H i o -> Own w (m i) o b -> ¬ S b
 glb : Glb S w
theorem flat_length {xs : List PV} {sz : Nat} (h : ∀ x ∈ xs, x.cells.length = sz) : (flat xs).length = xs.length * sz := by
 induction xs with
 | nil => simp [flat]
 | cons x xs ih =>
  have h1 := ih fun y hy => h y (List.mem_cons_of_mem _ hy)
  simp only [flat, List.flatMap_cons, List.length_append, List.length_cons] at *
  rw [h1, h x (List.mem_cons_self ..), Nat.succ_mul]
  omega
theorem flat_at {xs : List PV} {sz : Nat} (h : ∀ x ∈ xs, x.cells.length = sz) : ∀ (i : Nat) (x : PV), xs[i]? = some x -> ∀ (j : Nat) (c : PV), x.cells[j]? = some c -> (flat xs)[i * sz + j]? = some c := by
 induction xs with
 | nil => intro i x hi; simp at hi
 | cons y xs ih =>
  intro i x hi j c hj
  have hy := h y (List.mem_cons_self ..)
  have ih' := ih (fun z hz => h z (List.mem_cons_of_mem _ hz))
  simp only [flat, List.flatMap_cons]
  cases i with
  | zero =>
   simp at hi
   subst hi
   rw [List.getElem?_append_left (by have := (List.getElem?_eq_some_iff.1 hj).1; omega)]
   simpa using hj
  | succ i =>
   simp at hi
   have hle : y.cells.length <= (i + 1) * sz + j := by rw [hy, Nat.succ_mul]; omega
   rw [List.getElem?_append_right hle, hy]
   have he : (i + 1) * sz + j - sz = i * sz + j := by rw [Nat.succ_mul]; omega
   rw [he]
   exact ih' i x hi j c hj
section
variable {P : Program} {H : AH} {m : Nat -> Value} {S : Nat -> Prop} {w : World} {mv : Value}
theorem rows_at {sz q : Nat} {e2 : TypeId} {xs : List PV} {h : Option Nat} {g : Option (Nat -> Bool)} {us : List Value} (hz : ∀ x ∈ xs, x.cells.length = sz) (hq : q < sz) (hR : RowsIn P S w sz q e2 xs h g us) {j : Nat} {x : PV} (hx : xs[j]? = some x) (hne : notAt h j) (hgn : gone g j = false) :
  ∃ u nl2 ys, us[j * sz + q]? = some u /\ u.oneCell' = true /\ x.cells[q]? = some (.list nl2 ys) /\ OKb P S w u e2 nl2 ys := by
 have hl := hz x (List.mem_of_getElem? hx)
 obtain ⟨u, h1, h2, _, h4⟩ := hR j x hx hne q _ (List.getElem?_eq_getElem (by omega))
 obtain ⟨nl2, ys, h5, h6⟩ := h4 rfl hgn
 exact ⟨u, nl2, ys, h1, h2, by rw [List.getElem?_eq_getElem (by omega), h5], h6⟩
theorem row_cell {e : TypeId} {sz n g l c k : Nat} {us : List Value} {u : Value} (ho : w.ownsRow 0 e sz mv n us) (hv : mv = .slice (some ⟨g, 0, none⟩) l c) (hu : us[k]? = some u) : w.cell? ⟨g, k, none⟩ = some u := by
 have h1 := ho.cells (g := g) (by rw [hv]; rfl) k u hu
 rw [add_lit, Nat.zero_add] at h1
 exact h1
theorem OK.blk_lt {o : AO} {b : Nat} (h : OK P H m S w mv o) (hb : Own w mv o b) : b < w.heap.size := by
 cases o with
 | cells cs =>
  obtain ⟨b', T, vs, rfl, hh, _⟩ := h
  have hb := (own_iff rfl).1 hb
  simp [blk] at hb
  subst hb
  exact (Array.getElem?_eq_some_iff.1 hh).1
 | buf e nl xs =>
  obtain ⟨i, us, _, _, ho, _⟩ := h
  exact (ho.lt b ((own_iff rfl).1 hb)).2
 | frz nl xs => have hb := (own_iff rfl).1 hb; simp [blk] at hb
 | map ks =>
  obtain ⟨b', es, c, rfl, hh, _⟩ := h
  have hb := (own_iff rfl).1 hb
  simp [blk] at hb
  subst hb
  exact (Array.getElem?_eq_some_iff.1 hh).1
 | arr xs =>
  obtain ⟨b', T, vs, rfl, hh, _⟩ := h
  have hb := (own_iff rfl).1 hb
  simp [blk] at hb
  subst hb
  exact (Array.getElem?_eq_some_iff.1 hh).1
 | bufL e xs l =>
  obtain ⟨i, us, _, _, ho, _⟩ := h
  exact (ho.lt b ((own_iff rfl).1 hb)).2
 | rws e nl sz q e2 xs h lc gn =>
  obtain ⟨i, i2, us, g1, g2, g3, g4, g5, ho, hz, hn, hR, hH, hA⟩ := h
  rcases hb with hb | ⟨j, g, l, c, u, hj, hne, hgn, hv, hc, hub⟩
  ·exact (ho.lt b hb).2
  ·obtain ⟨u', nl2, ys, hu', _, _, hok⟩ := rows_at hz g3 hR (List.getElem?_eq_getElem hj) hne hgn
   rw [row_cell ho hv hu'] at hc
   injection hc with hc
   subst hc
   obtain ⟨_, _, _, _, ho2, _⟩ := hok
   exact (ho2.lt b hub).2
end
end Go.Abs
namespace Go.Abs
open Go.RowKit
inductive TK where
 | sl (e : TypeId)
 | st (fs : List (TypeId × Nat))
 | ar (n : Nat) (e : TypeId)
 | int (k : IntKind)
 | bool
 | str
 | map (k e : TypeId)
 | other
structure TI where
 k : TK
 size : Nat
 bytes : Nat
 zero : Value
def kindOf : TypeDesc -> TK
 | .slice e => .sl e
 | .struct fs => .st (fs.toList.map fun f => (f.type, f.offset))
 | .array n e => .ar n e
 | .int k => .int k
 | .bool => .bool
 | .string => .str
 | .map k e => .map k e
 | _ => .other
def plainSt (P : Program) (t : TypeId) : TypeDesc -> Bool
 | .struct fs => !P.stoodInHeld t && !P.eqGuardType P.depth t && fs.all (fun f => f.name != "_")
 | _ => true
def tiOf (P : Program) (t : TypeId) : Option TI :=
 match P.info? t, P.underlying t with
 | some i, some d => match i.zero with
  | some z => if (z.cells.size == i.size && z.cells.all (·.oneCell') && plainSt P t d) = true then some { k := kindOf d, size := i.size, bytes := i.bytes, zero := z } else none
  | none => none
 | _, _ => none
theorem tiOf_spec {P : Program} {t : TypeId} {i : TI} (h : tiOf P t = some i) :
  ∃ inf d, P.info? t = some inf /\ P.underlying t = some d /\ inf.zero = some i.zero /\ inf.size = i.size /\ inf.bytes = i.bytes /\ kindOf d = i.k /\ i.zero.cells.size = i.size /\ ∀ c ∈ i.zero.cells, c.oneCell' = true := by
 unfold tiOf at h
 split at h
 ·rename_i inf d h1 h2
  split at h
  ·rename_i z hz
   split at h
   ·rename_i hc
    simp only [Bool.and_eq_true, beq_iff_eq] at hc
    injection h with h
    subst h
    exact ⟨inf, d, h1, h2, hz, rfl, rfl, rfl, hc.1.1, fun c hm => by have := Array.all_eq_true'.1 hc.1.2 c hm; simpa using this⟩
   ·cases h
  ·cases h
 ·cases h
theorem tiOf_plain {P : Program} {t : TypeId} {i : TI} (h : tiOf P t = some i) {fs : Array Field} (hd : P.underlying t = some (.struct fs)) : P.stoodInHeld t = false /\ P.eqGuardType P.depth t = false /\ ∀ f ∈ fs, f.name ≠ "_" := by
 unfold tiOf at h
 rw [hd] at h
 split at h
 ·rename_i inf d h1 h2
  cases h2
  split at h
  ·split at h
   ·rename_i hc
    simp only [Bool.and_eq_true, plainSt, Bool.not_eq_true', Array.all_eq_true', bne_iff_ne] at hc
    exact ⟨hc.2.1.1, hc.2.1.2, hc.2.2⟩
   ·cases h
  ·cases h
 ·cases h
structure TabOK (P : Program) (ti : TypeId -> Option TI) : Prop where
 ok : ∀ t i, ti t = some i -> tiOf P t = some i
def tlook (tab : List (TypeId × TI)) (t : TypeId) : Option TI :=
 match tab with
 | [] => none
 | (u, i) :: r => match Nat.beq u t with
  | true => some i
  | false => tlook r t
theorem tabOK_of (P : Program) (tab : List (TypeId × TI)) (h : tab.map (fun p => tiOf P p.1) = tab.map (fun p => some p.2)) : TabOK P (tlook tab) := by
 refine ⟨fun t i hl => ?_⟩
 induction tab with
 | nil => cases hl
 | cons p r ih =>
  simp only [List.map_cons, List.cons.injEq] at h
  unfold tlook at hl
  split at hl
  ·rename_i hb
   have hu : p.1 = t := Nat.eq_of_beq_eq_true hb
   injection hl with hl
   rw [<- hu, h.1, hl]
  ·exact ih h.2 hl
def TK.isAgg : TK -> Bool
 | .st _ => true
 | .ar _ _ => true
 | _ => false
theorem run_isAgg_of {P : Program} {t : TypeId} {d : TypeDesc} (hd : P.underlying t = some d) (w : World) : (isAgg t).run P w = .ok (kindOf d).isAgg w := by
 simp only [isAgg, Sem.run_bind, run_underlying hd, Result.andThen_ok]
 cases d <;> rfl
def ofCell : Value -> PV
 | .slice none 0 0 => .list true []
 | x => .v x
def pz : Value -> PV
 | .agg cs => .agg (cs.toList.map ofCell)
 | x => ofCell x
def allP : List AV -> Option (List PV)
 | [] => some []
 | .p x :: r => match allP r with
  | some l => some (x :: l)
  | none => none
 | _ :: _ => none
def mkAgg (cs : List AV) : AV := match allP cs with
 | some ps => .p (.agg ps)
 | none => .agg cs
def AV.cells : AV -> List AV
 | .agg cs => cs
 | .p (.agg cs) => cs.map .p
 | x => [x]
def AV.one : AV -> Bool
 | .p (.v _) => true
 | .p (.list _ _) => true
 | .ptr _ _ => true
 | .buf _ => true
 | .sub _ _ _ => true
 | .bptr _ _ _ => true
 | .rptr _ => true
 | .clo _ _ => true
 | .mp _ => true
 | .lptr _ _ => true
 | .wptr _ _ _ => true
 | .opq => true
 | _ => false
end Go.Abs
namespace Go.Abs
open Go.RowKit
inductive IdxA (xs : List PV) (i : Int) (k : PV -> Prop) : Prop
 | mk (x : PV) (h0 : 0 <= i) (hx : xs[i.toNat]? = some x) (hk : k x) : IdxA xs i k
inductive ArrA (cs : List PV) (sz : Nat) (i : Int) (k : List PV -> Prop) : Prop
 | mk (zs : List PV) (h : (cs.drop (i.toNat * sz)).take sz = zs) (hl : Nat.ble (i.toNat * sz + sz) cs.length = true) (hk : k zs) : ArrA cs sz i k
inductive NW (kd : IntKind) (n : Int) (k : Int -> Prop) : Prop
 | mk (n' : Int) (h : kd.wrap n = n') (hk : k n') : NW kd n k
inductive IsL (xs : List PV) (k : List PV -> Prop) : Prop
 | mk (ys : List PV) (h : xs = ys) (hk : k ys) : IsL xs k
inductive LenA (xs : List PV) (k : Nat -> Prop) : Prop
 | mk (n : Nat) (h : xs.length = n) (hk : n <= maxLen -> k n) : LenA xs k
inductive AppA (xs ys : List PV) (by_ : Nat) (k : List PV -> Prop) : Prop
 | mk (zs : List PV) (h : xs ++ ys = zs) (hb : zs.length <= maxLen /\ zs.length * by_ <= 140737488355328) (hk : k zs) : AppA xs ys by_ k
inductive InA (xs : List PV) (i : Int) (k : Nat -> Prop) : Prop
 | mk (n : Nat) (hn : i = n) (h : n < xs.length) (hk : k n) : InA xs i k
inductive NilA (nl : Bool) (xs : List PV) (k : Prop) : Prop
 | mk (h : (nl = true -> xs = []) -> k) : NilA nl xs k
inductive SzA (xs : List PV) (sz : Nat) (k : Prop) : Prop
 | mk (h : ∀ x ∈ xs, x.cells.length = sz) (hk : k) : SzA xs sz k
inductive CutA (xs : List PV) (l : Int) (ho : Option Int) (k : List PV -> Prop) : Prop
 | mk (ys : List PV) (hb : 0 <= l /\ l <= ho.getD xs.length /\ ho.getD xs.length <= xs.length) (h : (xs.take (ho.getD xs.length).toNat).drop l.toNat = ys) (hk : k ys) : CutA xs l ho k
inductive RemA (b v : Int) (k : Int -> Prop) : Prop
 | mk (n : Int) (h : b ≠ 0) (e : v = n) (hk : k n) : RemA b v k
inductive ValA (v : Int) (k : Int -> Prop) : Prop
 | mk (n : Int) (e : v = n) (hk : k n) : ValA v k
def sameK : IntKind -> IntKind -> Bool
 | .i8, .i8 => true
 | .i16, .i16 => true
 | .i32, .i32 => true
 | .i64, .i64 => true
 | .u8, .u8 => true
 | .u16, .u16 => true
 | .u32, .u32 => true
 | .u64, .u64 => true
 | _, _ => false
theorem sameK_eq : ∀ {a b : IntKind}, sameK a b = true -> a = b := by
 intro a b h
 cases a <;> cases b <;> first | rfl | (simp [sameK] at h)
def br (b : Bool) (X Y : Prop) : Prop := match b with
 | true => X
 | false => Y
theorem br_intro {b : Bool} {X Y : Prop} (h1 : b = true -> X) (h2 : b = false -> Y) : br b X Y := by
 cases b
 ·exact h2 rfl
 ·exact h1 rfl
theorem br_T {b : Bool} {X Y : Prop} (h : b = true) (hk : X) : br b X Y := by subst h; exact hk
theorem br_mt {a b : Bool} {X Y : Prop} (h : br a X Y) : (match cond true a b with
 | true => X
 | false => Y) := h
theorem br_mf {a b : Bool} {X Y : Prop} (h : br b X Y) : (match cond false a b with
 | true => X
 | false => Y) := h
def wpInts (op : BinOp) (kd : IntKind) (a b : Int) (k : AV -> Prop) : Prop := match op with
 | .add => NW kd (a + b) fun n => k (.p (.v (.int kd n)))
 | .sub => NW kd (a - b) fun n => k (.p (.v (.int kd n)))
 | .mul => NW kd (a * b) fun n => k (.p (.v (.int kd n)))
 | .quo => RemA b (a.tdiv b) fun n => NW kd n fun n => k (.p (.v (.int kd n)))
 | .rem => RemA b (a.tmod b) fun n => k (.p (.v (.int kd n)))
 | .and => NW kd ((BitVec.ofInt kd.bits a &&& BitVec.ofInt kd.bits b).toNat : Int) fun n => k (.p (.v (.int kd n)))
 | .or => NW kd ((BitVec.ofInt kd.bits a ||| BitVec.ofInt kd.bits b).toNat : Int) fun n => k (.p (.v (.int kd n)))
 | .xor => NW kd ((BitVec.ofInt kd.bits a ^^^ BitVec.ofInt kd.bits b).toNat : Int) fun n => k (.p (.v (.int kd n)))
 | .andNot => NW kd ((BitVec.ofInt kd.bits a &&& ~~~(BitVec.ofInt kd.bits b)).toNat : Int) fun n => k (.p (.v (.int kd n)))
 | .eql => k (.p (.v (.bool (a == b))))
 | .neq => k (.p (.v (.bool (a != b))))
 | .lss => k (.p (.v (.bool (decide (a < b)))))
 | .leq => k (.p (.v (.bool (decide (a <= b)))))
 | .gtr => k (.p (.v (.bool (decide (a > b)))))
 | .geq => k (.p (.v (.bool (decide (a >= b)))))
 | _ => False
def wpShift (op : BinOp) (kd : IntKind) (a b : Int) (k : AV -> Prop) : Prop := match op with
 | .shl => 0 <= b /\ NW kd (a * 2 ^ (min b.toNat kd.bits)) fun n => k (.p (.v (.int kd n)))
 | .shr => 0 <= b /\ ValA (a.fdiv (2 ^ (min b.toNat kd.bits))) fun n => k (.p (.v (.int kd n)))
 | _ => False
def isShift : BinOp -> Bool
 | .shl => true
 | .shr => true
 | _ => false
def eqPs (ti : TypeId -> Option TI) : List (TypeId × Nat) -> List PV -> List PV -> Option Bool
 | [], _, _ => some true
 | (t, off) :: fs, xs, ys =>
  match ti t, xs[off]?, ys[off]?, eqPs ti fs xs ys with
  | some i, some (.v x), some (.v y), some r => match i.k, x, y with
   | .int _, .int ka a, .int kb b => match sameK ka kb with
    | true => some (a == b && r)
    | false => none
   | .bool, .bool a, .bool b => some ((a == b) && r)
   | .str, .string a, .string b => some ((a.toList == b.toList) && r)
   | _, _, _ => none
  | _, _, _, _ => none
inductive StrA (a b : ByteArray) (X : Prop) : Prop
 | mk (h : a.size + b.size <= 9223372036854775807) (hk : X)
def wpBin (ti : TypeId -> Option TI) (H : AH) (op : BinOp) (t : TypeId) (x y : AV) (k : AV -> Prop) : Prop :=
 match x, y with
 | .p (.v (.int ka a)), .p (.v (.int kb b)) => match isShift op with
  | true => wpShift op ka a b k
  | false => match sameK ka kb with
   | true => wpInts op ka a b k
   | false => False
 | .p (.v (.bool a)), .p (.v (.bool b)) => match ti t, op with
  | some ⟨.bool, _, _, _⟩, .eql => k (.p (.v (.bool (a == b))))
  | some ⟨.bool, _, _, _⟩, .neq => k (.p (.v (.bool (!(a == b)))))
  | _, _ => False
 | .p (.v (.string a)), .p (.v (.string b)) => match op with
  | .eql => k (.p (.v (.bool (a.toList == b.toList))))
  | .neq => k (.p (.v (.bool (!(a.toList == b.toList)))))
  | .add => StrA a b (k (.p (.v (.string (a ++ b)))))
  | .lss => k (.p (.v (.bool (Op.bytesLess a.toList b.toList))))
  | .leq => k (.p (.v (.bool (Op.bytesLess a.toList b.toList || a.toList == b.toList))))
  | .gtr => k (.p (.v (.bool (!(Op.bytesLess a.toList b.toList || a.toList == b.toList)))))
  | .geq => k (.p (.v (.bool (!Op.bytesLess a.toList b.toList))))
  | _ => False
 | .p (.list nl xs), .p (.list true []) => match ti t, op with
  | some ⟨.sl _, _, _, _⟩, .eql => NilA nl xs (k (.p (.v (.bool nl))))
  | some ⟨.sl _, _, _, _⟩, .neq => NilA nl xs (k (.p (.v (.bool (!nl)))))
  | _, _ => False
 | .buf id, .p (.list true []) => match ti t, op, H[id]? with
  | some ⟨.sl _, _, _, _⟩, .eql, some (some (.buf _ nl xs)) => NilA nl xs (k (.p (.v (.bool nl))))
  | some ⟨.sl _, _, _, _⟩, .neq, some (some (.buf _ nl xs)) => NilA nl xs (k (.p (.v (.bool (!nl)))))
  | some ⟨.sl _, _, _, _⟩, .eql, some (some (.frz nl xs)) => NilA nl xs (k (.p (.v (.bool nl))))
  | some ⟨.sl _, _, _, _⟩, .neq, some (some (.frz nl xs)) => NilA nl xs (k (.p (.v (.bool (!nl)))))
  | _, _, _ => False
 | .p (.agg xs), .p (.agg ys) => match ti t with
  | some ⟨.st fs, _, _, _⟩ => match eqPs ti fs xs ys, op with
   | some r, .eql => k (.p (.v (.bool r)))
   | some r, .neq => k (.p (.v (.bool (!r))))
   | _, _ => False
  | _ => False
 | _, _ => False
section
variable {P : Program} {ti : TypeId -> Option TI} {H : AH} {m : Nat -> Value} {S : Nat -> Prop} {w : World}
def Ag (w w' : World) : Prop := ∀ b, b < w.heap.size -> w'.heap[b]? = w.heap[b]?
theorem Ag.refl (w : World) : Ag w w := fun _ _ => rfl
theorem Ag.size {w w' : World} (h : Ag w w') : w.heap.size <= w'.heap.size := by
 rcases Nat.eq_zero_or_pos w.heap.size with h0 | h0
 ·omega
 ·have h1 := h (w.heap.size - 1) (by omega)
  have hlt : w.heap.size - 1 < w.heap.size := by omega
  have := (Array.getElem?_eq_some_iff.1 (h1.trans (Array.getElem?_eq_getElem hlt))).1
  omega
theorem Ag.keeps {w w' : World} (h : Ag w w') (hp : Hp P H m S w) : Keeps S w w' := fun b hb => h b (hp.sub b hb)
theorem Ag.cell {w w' : World} (h : Ag w w') {p : Addr} {v : Value} (hc : w.cell? p = some v) : w'.cell? p = some v :=
 (World.cell?_of_block (h p.block (World.block_lt_of_cell? w p hc))).trans hc
theorem run_ints (op : BinOp) (kd : IntKind) (t : TypeId) (a b : Int) {k : AV -> Prop} (hs : isShift op = false) (h : wpInts op kd a b k) :
  ∃ r, k (.p (.v r)) /\ r.oneCell' = true /\ ∀ (w : World), (binOp op t (.int kd a) (.int kd b)).run P w = .ok r w := by
 cases op <;> simp only [wpInts, isShift] at h hs <;> first | (cases h; done) | (cases hs; done) | skip
 case add => obtain ⟨n', hn, hk⟩ := h; exact ⟨_, hk, rfl, fun w => by simp [binOp, Op.intArith, hn]⟩
 case sub => obtain ⟨n', hn, hk⟩ := h; exact ⟨_, hk, rfl, fun w => by simp [binOp, Op.intArith, hn]⟩
 case mul => obtain ⟨n', hn, hk⟩ := h; exact ⟨_, hk, rfl, fun w => by simp [binOp, Op.intArith, hn]⟩
 case quo => obtain ⟨_, hb, rfl, n', hn, hk⟩ := h; exact ⟨_, hk, rfl, fun w => by simp [binOp, Op.intDiv, hb, hn]⟩
 case rem => obtain ⟨_, hb, rfl, hk⟩ := h; exact ⟨_, hk, rfl, fun w => by simp [binOp, Op.intDiv, hb]⟩
 case and => obtain ⟨n', hn, hk⟩ := h; exact ⟨_, hk, rfl, fun w => by simp only [binOp, Op.intBits]; rw [if_neg (by simp)]; show (pure _ : Sem Value).run P w = _; rw [hn]; rfl⟩
 case or => obtain ⟨n', hn, hk⟩ := h; exact ⟨_, hk, rfl, fun w => by simp only [binOp, Op.intBits]; rw [if_neg (by simp)]; show (pure _ : Sem Value).run P w = _; rw [hn]; rfl⟩
 case xor => obtain ⟨n', hn, hk⟩ := h; exact ⟨_, hk, rfl, fun w => by simp only [binOp, Op.intBits]; rw [if_neg (by simp)]; show (pure _ : Sem Value).run P w = _; rw [hn]; rfl⟩
 case andNot => obtain ⟨n', hn, hk⟩ := h; exact ⟨_, hk, rfl, fun w => by simp only [binOp, Op.intBits]; rw [if_neg (by simp)]; show (pure _ : Sem Value).run P w = _; rw [hn]; rfl⟩
 all_goals exact ⟨_, h, rfl, fun w => by simp [binOp, Op.intCmp]⟩
theorem run_shift (op : BinOp) (kd kb : IntKind) (t : TypeId) (a b : Int) {k : AV -> Prop} (h : wpShift op kd a b k) :
  ∃ r, k (.p (.v r)) /\ r.oneCell' = true /\ ∀ (w : World), (binOp op t (.int kd a) (.int kb b)).run P w = .ok r w := by
 cases op <;> simp only [wpShift] at h <;> first | (cases h; done) | skip
 case shl => obtain ⟨hb, n', hn, hk⟩ := h; exact ⟨_, hk, rfl, fun w => by simp only [binOp, Op.shift]; rw [if_neg (by omega)]; show (pure _ : Sem Value).run P w = _; rw [hn]; rfl⟩
 case shr => obtain ⟨hb, _, rfl, hk⟩ := h; exact ⟨_, hk, rfl, fun w => by simp only [binOp, Op.shift]; rw [if_neg (by omega)]; rfl⟩
end
end Go.Abs
namespace Go.Abs
open Go.RowKit
section
variable {P : Program} {ti : TypeId -> Option TI} {H : AH} {m : Nat -> Value} {S : Nat -> Prop} {w : World}
theorem Rd.pv {x : Value} {v : Value} (h : Rd P H m S w (.p (.v x)) v) : v = x /\ x.oneCell' = true := by
 cases h with | p _ _ h => cases h with | v _ h => exact ⟨rfl, h⟩
theorem Rd.nilList {v : Value} (h : Rd P H m S w (.p (.list true [])) v) : v = .slice none 0 0 := by
 cases h with | p _ _ h => cases h; rfl
theorem Rd.mk {x : Value} (h : x.oneCell' = true) : Rd P H m S w (.p (.v x)) x := .p _ _ (.v _ h)
theorem Rd.listNil {nl : Bool} {xs : List PV} {v : Value} (h : Rd P H m S w (.p (.list nl xs)) v) : ∃ a c, v = .slice a xs.length c /\ (nl = true ↔ a = none) /\ xs.length <= c /\ c <= maxLen := by
 cases h with
 | p _ _ h => cases h with
  | nil => exact ⟨none, 0, rfl, by simp, Nat.le_refl _, by simp [maxLen]⟩
  | list xs a cap sz us hS hc hm => exact ⟨some a, cap, rfl, by simp, hc, hm⟩
theorem Rd.nilEmpty {nl : Bool} {xs : List PV} {v : Value} (h : Rd P H m S w (.p (.list nl xs)) v) : nl = true -> xs = [] := by
 intro hn
 cases h with
 | p _ _ h => cases h with
  | nil => rfl
  | list => cases hn
theorem buf_nilEmpty (hp : Hp P H m S w) {id : Nat} {e : TypeId} {nl : Bool} {xs : List PV} (h : live H id (.buf e nl xs)) : nl = true -> xs = [] := by
 obtain ⟨i, us, hi, hsz, ho, _, _, hn⟩ := hp.obj id _ h
 intro hn'
 have hv := hn.1 hn'
 rcases ho.2 with ⟨_, h0⟩ | ⟨g, cap, cur, hv', _⟩
 ·exact List.eq_nil_of_length_eq_zero h0
 ·rw [hv] at hv'; cases hv'
theorem frz_nilEmpty (hp : Hp P H m S w) {id : Nat} {nl : Bool} {xs : List PV} (h : live H id (.frz nl xs)) : nl = true -> xs = [] :=
 Rd.nilEmpty (P := P) (H := H) (m := m) (.p _ _ (hp.obj id _ h))
theorem buf_form (hp : Hp P H m S w) {id : Nat} {e : TypeId} {nl : Bool} {xs : List PV} (h : live H id (.buf e nl xs)) :
  ∃ a c, m id = .slice a xs.length c /\ (nl = true ↔ a = none) /\ xs.length <= c /\ c <= maxLen := by
 obtain ⟨i, us, hi, hsz, ho, _, _, hn⟩ := hp.obj id _ h
 rcases ho.2 with ⟨hv, h0⟩ | ⟨g, cap, cur, hv, _, _, hc, hm, _⟩
 ·exact ⟨none, 0, by rw [hv, h0], by rw [hn, hv]; simp, by omega, by simp [maxLen]⟩
 ·exact ⟨_, cap, hv, by rw [hn, hv]; simp, hc, hm⟩
theorem frz_form (hp : Hp P H m S w) {id : Nat} {nl : Bool} {xs : List PV} (h : live H id (.frz nl xs)) :
  ∃ a c, m id = .slice a xs.length c /\ (nl = true ↔ a = none) /\ xs.length <= c /\ c <= maxLen :=
 Rd.listNil (P := P) (H := H) (m := m) (.p _ _ (hp.obj id _ h))
theorem Rd.bufAt {id : Nat} {v : Value} {o : AO} (h : Rd P H m S w (.buf id) v) (hl : live H id o) : v = m id := by
 cases h with | buf id a l c hid h => exact (h o hl).symm
theorem run_equalIn_nil (d : Nat) (t e : TypeId) (a : Option Addr) (l c : Nat) (ht : P.underlying t = some (.slice e)) (w : World) :
  (Op.equalIn (d + 1) t (.slice a l c) (.slice none 0 0)).run P w = .ok a.isNone w := by
 cases a <;> simp [Op.equalIn, run_underlying ht]
theorem run_eq_nil (t e : TypeId) (a : Option Addr) (l c : Nat) (ht : P.underlying t = some (.slice e)) (w : World) :
  (binOp .eql t (.slice a l c) (.slice none 0 0)).run P w = .ok (.bool a.isNone) w /\ (binOp .neq t (.slice a l c) (.slice none 0 0)).run P w = .ok (.bool (!a.isNone)) w := by
 have h : (Op.equal t (.slice a l c) (.slice none 0 0)).run P w = .ok a.isNone w := run_equalIn_nil 9999 t e a l c ht w
 refine ⟨?_, ?_⟩
 ·simp only [binOp]
  simp [h]
 ·simp only [binOp]
  simp [h]
theorem run_eqFields (hT : TabOK P ti) {xs ys : List PV} {vs us : Array Value} {w : World} (hlx : vs.size = xs.length) (hx : ∀ k c, xs[k]? = some c -> RdP S w c (vs.getD k undef)) (hly : us.size = ys.length)
  (hy : ∀ k c, ys[k]? = some c -> RdP S w c (us.getD k undef)) : ∀ (l : List Field), (∀ f ∈ l, f.name ≠ "_") -> ∀ r, eqPs ti (l.map fun f => (f.type, f.offset)) xs ys = some r -> ∀ w' : World, (Op.eqFields 9999 vs us l).run P w' = .ok r w' := by
 intro l
 induction l with
 | nil => intro _ r hr w'; cases hr; rfl
 | cons f l ih =>
  intro hn r hr w'
  have at_ : ∀ {zs : List PV} {ws : Array Value}, ws.size = zs.length -> (∀ k c, zs[k]? = some c -> RdP S w c (ws.getD k undef)) -> ∀ {x : Value}, zs[f.offset]? = some (.v x) -> ws[f.offset]? = some x := by
   intro zs ws hl hz x h
   have h1 := hz _ _ h
   have h2 : f.offset < ws.size := by have := (List.getElem?_eq_some_iff.1 h).1; omega
   generalize hv : ws.getD f.offset undef = v at h1
   cases h1
   simp [h2] at hv ⊢
   exact hv
  unfold eqPs at hr
  simp only [List.map_cons] at hr
  split at hr
  ·rename_i i x y r' hi hxs hys hr'
   have hvx := at_ hlx hx hxs
   have hvy := at_ hly hy hys
   obtain ⟨inf, d, _, hd, _, _, _, hk, _⟩ := tiOf_spec (hT.ok _ _ hi)
   have rest := ih (fun g hg => hn g (List.mem_cons_of_mem _ hg)) r' hr' w'
   have fin : ∀ e : Bool, (Op.equalIn 9999 f.type x y).run P w' = .ok e w' -> (∀ {ws : Array Value} {z : Value}, ws[f.offset]? = some z -> (part f.type ws f.offset).run P w' = .ok z w') -> (Op.eqFields 9999 vs us (f :: l)).run P w' = .ok (e && r') w' := by
    intro e he hp
    simp only [Op.eqFields, if_pos (hn f (List.mem_cons_self ..)), Sem.run_bind, hp hvx, hp hvy, Result.andThen_ok, he, Sem.run_ite]
    cases e <;> simp [rest]
   split at hr
   ·rename_i ka a kb b hki
    split at hr
    case h_2 => cases hr
    rename_i hkk
    obtain rfl := sameK_eq hkk
    injection hr with hr
    subst hr
    rw [hki] at hk
    cases d <;> simp [kindOf] at hk
    exact fin _ (run_equalIn_int w' 9998 f.type _ _ _ _ hd) fun hz => by simp [part, isAgg, run_underlying hd, hz]
   ·rename_i a b hki
    injection hr with hr
    subst hr
    rw [hki] at hk
    cases d <;> simp [kindOf] at hk
    exact fin _ (run_equalIn_bool' w' 9998 f.type _ _ hd) fun hz => by simp [part, isAgg, run_underlying hd, hz]
   ·rename_i a b hki
    injection hr with hr
    subst hr
    rw [hki] at hk
    cases d <;> simp [kindOf] at hk
    exact fin _ (run_equalIn_string w' 9998 f.type _ _ hd) fun hz => by simp [part, isAgg, run_underlying hd, hz]
   ·cases hr
  ·cases hr
theorem wpBin_sound (hT : TabOK P ti) (hp : Hp P H m S w) {op : BinOp} {t : TypeId} {x y : AV} {vx vy : Value} {k : AV -> Prop} (h : wpBin ti H op t x y k)
  (hx : Rd P H m S w x vx) (hy : Rd P H m S w y vy) :
  ∃ av v, k av /\ Rd P H m S w av v /\ ∀ (w' : World) (ox oy : Operand), (do eqGuard op t ox oy vx vy; binOp op t vx vy : Sem Value).run P w' = .ok v w' := by
 have nilcase : ∀ (nl : Bool) (a : Option Addr) (l c : Nat) (e : TypeId), P.underlying t = some (.slice e) -> (nl = true ↔ a = none) -> vx = .slice a l c -> vy = .slice none 0 0 ->
   (op = .eql -> k (.p (.v (.bool nl)))) -> (op = .neq -> k (.p (.v (.bool (!nl))))) -> (op = .eql \/ op = .neq) ->
   ∃ av v, k av /\ Rd P H m S w av v /\ ∀ (w' : World) (ox oy : Operand), (do eqGuard op t ox oy vx vy; binOp op t vx vy : Sem Value).run P w' = .ok v w' := by
  intro nl a l c e hu hn rfl rfl h1 h2 hop
  have hb : a.isNone = nl := by cases a <;> cases nl <;> simp_all
  rcases hop with rfl | rfl
  ·exact ⟨_, _, h1 rfl, Rd.mk rfl, fun w' ox oy => by simp [eqGuard, (run_eq_nil t e a l c hu w').1, hb]⟩
  ·exact ⟨_, _, h2 rfl, Rd.mk rfl, fun w' ox oy => by simp [eqGuard, (run_eq_nil t e a l c hu w').2, hb]⟩
 have slOf : ∀ {e : TypeId} {s b : Nat} {z : Value}, ti t = some ⟨.sl e, s, b, z⟩ -> P.underlying t = some (.slice e) := by
  intro e s b z hti
  obtain ⟨inf, d, _, hd, _, _, _, hk, _⟩ := tiOf_spec (hT.ok _ _ hti)
  cases d <;> simp [kindOf] at hk
  subst hk
  exact hd
 unfold wpBin at h
 split at h
 ·rename_i ka a kb b
  obtain ⟨rfl, _⟩ := hx.pv
  obtain ⟨rfl, _⟩ := hy.pv
  split at h
  ·obtain ⟨r, hk, ho, hr⟩ := run_shift (P := P) op ka kb t a b h
   exact ⟨_, _, hk, Rd.mk ho, fun w' ox oy => by simp [eqGuard, hr w']⟩
  ·rename_i hs
   split at h
   ·rename_i hkk
    obtain rfl := sameK_eq hkk
    obtain ⟨r, hk, ho, hr⟩ := run_ints (P := P) op ka t a b hs h
    exact ⟨_, _, hk, Rd.mk ho, fun w' ox oy => by simp [eqGuard, hr w']⟩
   ·cases h
 ·rename_i a b
  obtain ⟨rfl, _⟩ := hx.pv
  obtain ⟨rfl, _⟩ := hy.pv
  split at h
  ·rename_i s bb z hti
   obtain ⟨inf, d, _, hd, _, _, _, hk, _⟩ := tiOf_spec (hT.ok _ _ hti)
   cases d <;> simp [kindOf] at hk
   exact ⟨_, _, h, Rd.mk rfl, fun w' ox oy => by simp [eqGuard, run_eql_bool w' t a b hd]⟩
  ·rename_i s bb z hti
   obtain ⟨inf, d, _, hd, _, _, _, hk, _⟩ := tiOf_spec (hT.ok _ _ hti)
   cases d <;> simp [kindOf] at hk
   exact ⟨_, _, h, Rd.mk rfl, fun w' ox oy => by simp [eqGuard, run_neq_bool w' t a b hd]⟩
  ·cases h
 ·rename_i a b
  obtain ⟨rfl, _⟩ := hx.pv
  obtain ⟨rfl, _⟩ := hy.pv
  split at h
  ·exact ⟨_, _, h, Rd.mk rfl, fun w' ox oy => by simp [eqGuard, binOp, Op.stringOp]⟩
  ·exact ⟨_, _, h, Rd.mk rfl, fun w' ox oy => by simp [eqGuard, binOp, Op.stringOp]⟩
  ·obtain ⟨hle, h⟩ := h
   exact ⟨_, _, h, Rd.mk rfl, fun w' ox oy => by
    have hn : ¬ (((a.size + b.size : Nat) : Int) > IntKind.i64.max) := by
     have : IntKind.i64.max = 9223372036854775807 := by decide
     omega
    simp [eqGuard, binOp, Op.stringOp]
    omega⟩
  ·exact ⟨_, _, h, Rd.mk rfl, fun w' ox oy => by simp [eqGuard, binOp, Op.stringOp]⟩
  ·exact ⟨_, _, h, Rd.mk rfl, fun w' ox oy => by simp [eqGuard, binOp, Op.stringOp]⟩
  ·exact ⟨_, _, h, Rd.mk rfl, fun w' ox oy => by simp [eqGuard, binOp, Op.stringOp]⟩
  ·exact ⟨_, _, h, Rd.mk rfl, fun w' ox oy => by simp [eqGuard, binOp, Op.stringOp]⟩
  ·cases h
 ·rename_i nl xs
  have hne := hx.nilEmpty
  obtain ⟨a, c, hv, hn, _⟩ := hx.listNil
  have hv' := hy.nilList
  split at h
  ·rename_i hti; exact nilcase nl a _ c _ (slOf hti) hn hv hv' (fun _ => h.1 hne) (fun e => by cases e) (.inl rfl)
  ·rename_i hti; exact nilcase nl a _ c _ (slOf hti) hn hv hv' (fun e => by cases e) (fun _ => h.1 hne) (.inr rfl)
  ·cases h
 ·rename_i id
  have hv' := hy.nilList
  split at h
  ·rename_i hti hH
   have hne := buf_nilEmpty hp hH
   obtain ⟨a, c, hv, hn, _⟩ := buf_form hp hH
   exact nilcase _ a _ c _ (slOf hti) hn ((hx.bufAt hH).trans hv) hv' (fun _ => h.1 hne) (fun e => by cases e) (.inl rfl)
  ·rename_i hti hH
   have hne := buf_nilEmpty hp hH
   obtain ⟨a, c, hv, hn, _⟩ := buf_form hp hH
   exact nilcase _ a _ c _ (slOf hti) hn ((hx.bufAt hH).trans hv) hv' (fun e => by cases e) (fun _ => h.1 hne) (.inr rfl)
  ·rename_i hti hH
   have hne := frz_nilEmpty hp hH
   obtain ⟨a, c, hv, hn, _⟩ := frz_form hp hH
   exact nilcase _ a _ c _ (slOf hti) hn ((hx.bufAt hH).trans hv) hv' (fun _ => h.1 hne) (fun e => by cases e) (.inl rfl)
  ·rename_i hti hH
   have hne := frz_nilEmpty hp hH
   obtain ⟨a, c, hv, hn, _⟩ := frz_form hp hH
   exact nilcase _ a _ c _ (slOf hti) hn ((hx.bufAt hH).trans hv) hv' (fun e => by cases e) (fun _ => h.1 hne) (.inr rfl)
  ·cases h
 ·rename_i xs ys
  split at h
  ·rename_i fs s b z hti
   have hi := hT.ok _ _ hti
   obtain ⟨inf, d, _, hd, _, _, _, hk, _⟩ := tiOf_spec hi
   cases d <;> simp [kindOf] at hk
   rename_i F
   obtain ⟨hsi, heg, hnm⟩ := tiOf_plain hi hd
   have hF : P.fieldsOf t = F := by simp [Program.fieldsOf, hd]
   cases hx with | p _ _ hx => cases hx with | agg _ vs hlx _ hrx =>
   cases hy with | p _ _ hy => cases hy with | agg _ us hly _ hry =>
   have key : ∀ r, eqPs ti fs xs ys = some r -> ∀ w' : World, (Op.eqFields 9999 vs us (P.fieldsOf t).toList).run P w' = .ok r w' := by
    intro r hr w'
    rw [hF]
    rw [<- hk] at hr
    exact run_eqFields hT hlx hrx hly hry _ (fun f hf => hnm f (by simpa using hf)) r hr w'
   split at h
   ·rename_i _ r hr
    refine ⟨_, _, h, Rd.mk rfl, fun w' ox oy => ?_⟩
    rw [Sem.run_bind, run_eqGuard_agg w' _ _ _ _ _ _ heg, Result.andThen_ok, run_eql_struct, run_equalIn_struct w' 9999 t vs us (by rw [hF]; exact hd) hsi, key r hr w']
    rfl
   ·rename_i _ r hr
    refine ⟨_, _, h, Rd.mk rfl, fun w' ox oy => ?_⟩
    rw [Sem.run_bind, run_eqGuard_agg w' _ _ _ _ _ _ heg, Result.andThen_ok, run_neq_struct, run_equalIn_struct w' 9999 t vs us (by rw [hF]; exact hd) hsi, key r hr w']
    rfl
   ·cases h
  ·cases h
 ·cases h
def rdCells (i : TI) (cs : List PV) (k : AV -> Prop) : Prop := match i.k.isAgg with
 | true => match Nat.ble i.size cs.length with
  | true => k (.p (.agg (cs.take i.size)))
  | false => False
 | false => match cs with
  | c :: _ => k (.p c)
  | [] => False
theorem rdCells_sound {t : TypeId} {i : TI} (hi : tiOf P t = some i) {cs : List PV} {k : AV -> Prop} (h : rdCells i cs k) (a : Addr) (us : Nat -> Value)
  (hc : ∀ j c, cs[j]? = some c -> w.cell? (a.add j) = some (us j) /\ (us j).oneCell' = true) (hr : ∀ j c, cs[j]? = some c -> RdP S w c (us j)) :
  ∃ av v, k av /\ Rd P H m S w av v /\ ∀ w', (∀ j v, w.cell? (a.add j) = some v -> w'.cell? (a.add j) = some v) -> (Instr.loadAt t (.pointer (some a))).run P w' = .ok v w' := by
 obtain ⟨inf, d, hinf, hd, _, hs, _, hk, _⟩ := tiOf_spec hi
 unfold rdCells at h
 split at h
 ·rename_i hag
  split at h
  ·rename_i hle
   have hle := Nat.le_of_ble_eq_true hle
   let vs := (List.range i.size).map us
   have hvl : vs.length = i.size := by simp [vs]
   refine ⟨_, .agg vs.toArray, h, .p _ _ (.agg _ _ (by simp [vs, Nat.min_eq_left hle]) (fun j c hj => ?_) fun j c hj => ?_), fun w' hw => ?_⟩
   ·rw [List.getElem?_take] at hj
    split at hj
    ·rename_i hlt; simp [vs, hlt]; exact (hc j c hj).2
    ·cases hj
   ·rw [List.getElem?_take] at hj
    split at hj
    ·rename_i hlt; simp [vs, hlt]; exact hr j c hj
    ·cases hj
   ·have hl : (loadCells a vs.length).run P w' = .ok vs.toArray w' := by
     refine run_loadCells_list w' a vs fun j v hj => ?_
     have hlt : j < i.size := by have := (List.getElem?_eq_some_iff.1 hj).1; omega
     have hjc : cs[j]? = some (cs[j]'(by omega)) := List.getElem?_eq_getElem (by omega)
     have hv : us j = v := by simpa [vs, hlt] using hj
     rw [<- hv]
     exact hw j _ (hc j _ hjc).1
    rw [hvl] at hl
    simp [Instr.loadAt, Instr.sureAddr, loadVar, run_isAgg_of hd, hk, hag, sizeOf, typeInfo, hinf, hs, hl]
  ·cases h
 ·rename_i hag
  cases cs with
  | nil => cases h
  | cons c r =>
   have h0 := hc 0 c rfl
   refine ⟨_, us 0, h, .p _ _ (hr 0 c rfl), fun w' hw => ?_⟩
   have hcell := hw 0 _ h0.1
   have ha : a.add 0 = a := by simp [Addr.add]
   rw [ha] at hcell
   simp [Instr.loadAt, Instr.sureAddr, loadVar, run_isAgg_of hd, hk, hag, run_load, hcell]
end
end Go.Abs
namespace Go.Abs
open Go.RowKit
def takeV (i : TI) (cs : List AV) (off : Nat) (k : AV -> Prop) : Prop := match i.k.isAgg with
 | true => match Nat.ble (off + i.size) cs.length with
  | true => k (mkAgg ((cs.drop off).take i.size))
  | false => False
 | false => match cs[off]? with
  | some c => k c
  | none => False
inductive CellX (xs : List PV) (off : Nat) (k : PV -> Prop) : Prop
 | mk (n : Nat) (y : PV) (hn : off = n) (hy : xs[n]? = some y) (hk : k y)
inductive WholeA (xs : List PV) (n : Nat) (X : Prop) : Prop
 | mk (h : xs.length = n) (hk : X)
def wpLoad (ti : TypeId -> Option TI) (H : AH) (t : TypeId) (x : AV) (k : AV -> Prop) : Prop := match ti t with
 | none => False
 | some i => match x with
  | .rptr cs => rdCells i cs k
  | .ptr id off => match H[id]? with
   | some (some (.cells cs)) => takeV i cs off k
   | some (some (.arr xs)) => match i.k.isAgg with
    | false => CellX xs off fun y => k (.p y)
    | true => match off with
     | 0 => WholeA xs i.size (k (.p (.agg xs)))
     | _ + 1 => False
   | _ => False
  | .bptr id ix off => match H[id]? with
   | some (some (.buf _ _ xs)) => IdxA xs ix fun y => rdCells i (y.cells.drop off) k
   | _ => False
  | .lptr id off => match H[id]? with
   | some (some (.bufL _ _ l)) => takeV i l off k
   | _ => False
  | .wptr id ix off => match H[id]? with
   | some (some (.rws _ _ _ _ _ _ (some p) l _)) => ix = p /\ takeV i l off k
   | _ => False
  | _ => False
def wpFieldAddr (ti : TypeId -> Option TI) (s : TypeId) (x : AV) (f : Nat) (k : AV -> Prop) : Prop := match ti s with
 | some ⟨.st fs, _, _, _⟩ => match fs[f]? with
  | some (ft, off) => match ti ft with
   | some ⟨_, _ + 1, _, _⟩ => match x with
    | .ptr id o => k (.ptr id (o + off))
    | .bptr id ix o => k (.bptr id ix (o + off))
    | .lptr id o => k (.lptr id (o + off))
    | .wptr id ix o => k (.wptr id ix (o + off))
    | .rptr cs => k (.rptr (cs.drop off))
    | _ => False
   | _ => False
  | none => False
 | _ => False
def wpIndexAddr (ti : TypeId -> Option TI) (H : AH) (t : TypeId) (x y : AV) (k : AV -> Prop) : Prop := match y with
 | .p (.v (.int _ i)) => match ti t with
  | some ⟨.sl e, _, _, _⟩ => match x with
   | .p (.list _ xs) => match ti e with
    | some ie => IdxA xs i fun z => match Nat.beq z.cells.length ie.size with
     | true => k (.rptr z.cells)
     | false => False
    | none => False
   | .buf id => match H[id]? with
    | some (some (.buf e' _ xs)) => match Nat.beq e e' with
     | true => InA xs i fun n => k (.bptr id n 0)
     | false => False
    | some (some (.frz _ xs)) => match ti e with
     | some ie => IdxA xs i fun z => match Nat.beq z.cells.length ie.size with
      | true => k (.rptr z.cells)
      | false => False
     | none => False
    | some (some (.bufL e' xs _)) => match Nat.beq e e' with
     | true => i = (xs.length : Int) /\ k (.lptr id 0)
     | false => False
    | some (some (.rws e' _ _ _ _ xs _ _ _)) => match Nat.beq e e' with
     | true => InA xs i fun n => k (.wptr id n 0)
     | false => False
    | _ => False
   | .sub id lo hi => match H[id]? with
    | some (some (.buf e' _ _)) => match Nat.beq e e' with
     | true => (0 <= i /\ i < ((hi - lo : Nat) : Int)) /\ k (.bptr id (lo + i.toNat) 0)
     | false => False
    | some (some (.cells _)) => match ti e with
     | some ie => (0 <= i /\ i < ((hi - lo : Nat) : Int)) /\ k (.ptr id (i.toNat * ie.size))
     | none => False
    | _ => False
   | _ => False
  | some ⟨.ar n e, _, _, _⟩ => match ti e, x with
   | some ie, .ptr id o => (0 <= i /\ i < n) /\ k (.ptr id (o + i.toNat * ie.size))
   | some ie, .rptr cs => (0 <= i /\ i < n) /\ k (.rptr (cs.drop (i.toNat * ie.size)))
   | _, _ => False
  | _ => False
 | _ => False
def wpLen (ti : TypeId -> Option TI) (H : AH) (t : TypeId) (x : AV) (k : AV -> Prop) : Prop := match ti t with
 | some ⟨.sl _, _, _, _⟩ => match x with
  | .p (.list _ xs) => LenA xs fun n => k (.p (.v (.int .i64 n)))
  | .buf id => match H[id]? with
   | some (some (.buf _ _ xs)) => LenA xs fun n => k (.p (.v (.int .i64 n)))
   | some (some (.frz _ xs)) => LenA xs fun n => k (.p (.v (.int .i64 n)))
   | some (some (.rws _ _ _ _ _ xs _ _ _)) => LenA xs fun n => k (.p (.v (.int .i64 n)))
   | _ => False
  | .sub id lo hi => match H[id]? with
   | some (some (.buf _ _ xs)) => LenA xs fun _ => k (.p (.v (.int .i64 ((hi - lo : Nat) : Int))))
   | some (some (.cells _)) => k (.p (.v (.int .i64 ((hi - lo : Nat) : Int))))
   | _ => False
  | _ => False
 | some ⟨.ar n _, _, _, _⟩ => k (.p (.v (.int .i64 n)))
 | some ⟨.str, _, _, _⟩ => match x with
  | .p (.v (.string s)) => k (.p (.v (.int .i64 s.size)))
  | _ => False
 | _ => False
def wpPart (ti : TypeId -> Option TI) (t : TypeId) (cs : List AV) (off : Nat) (k : AV -> Prop) : Prop := match ti t with
 | some i => takeV i cs off k
 | none => False
def wpField (ti : TypeId -> Option TI) (s : TypeId) (x : AV) (f : Nat) (k : AV -> Prop) : Prop := match ti s with
 | some ⟨.st fs, _, _, _⟩ => match fs[f]? with
  | some (ft, off) => match x with
   | .agg cs => wpPart ti ft cs off k
   | .p (.agg cs) => wpPart ti ft (cs.map .p) off k
   | _ => False
  | none => False
 | _ => False
def arrP (ie : TI) (cs : List PV) (i : Int) (k : AV -> Prop) : Prop := match ie.k.isAgg, Nat.beq ie.size 1 with
 | false, true => IdxA cs i fun y => k (.p y)
 | true, _ => ArrA cs ie.size i fun zs => k (.p (.agg zs))
 | _, _ => takeV ie (cs.map .p) (i.toNat * ie.size) k
def wpIndex (ti : TypeId -> Option TI) (t : TypeId) (x y : AV) (k : AV -> Prop) : Prop := match y with
 | .p (.v (.int _ i)) => match ti t with
  | some ⟨.ar n e, _, _, _⟩ => match ti e with
   | some ie => match x with
    | .agg cs => (0 <= i /\ i < n) /\ takeV ie cs (i.toNat * ie.size) k
    | .p (.agg cs) => (0 <= i /\ i < n) /\ arrP ie cs i k
    | _ => False
   | none => False
  | some ⟨.str, _, _, _⟩ => match x with
   | .p (.v (.string s)) => ∃ b, 0 <= i /\ s[i.toNat]? = some b /\ k (.p (.v (.int .u8 b.toNat)))
   | _ => False
  | _ => False
 | _ => False
def asI : AV -> Option Int
 | .p (.v (.int _ n)) => some n
 | _ => none
def wpCut (ti : TypeId -> Option TI) (H : AH) (t : TypeId) (x : AV) (l : Int) (ho : Option Int) (k : AV -> Prop) : Prop := match ti t with
 | some ⟨.sl e, _, _, _⟩ => match ti e with
  | some ie => match x with
   | .p (.list nl xs) => SzA xs ie.size (CutA xs l ho fun ys => k (.p (.list nl ys)))
   | .buf id => match H[id]? with
    | some (some (.buf e' _ xs)) => match Nat.beq e e' with
     | true => (0 <= l /\ l <= ho.getD xs.length /\ ho.getD xs.length <= xs.length) /\ k (.sub id l.toNat (ho.getD xs.length).toNat)
     | false => False
    | some (some (.frz nl xs)) => SzA xs ie.size (CutA xs l ho fun ys => k (.p (.list nl ys)))
    | _ => False
   | .sub id lo hi => match H[id]? with
    | some (some (.buf e' _ xs)) => match Nat.beq e e' with
     | true => (0 <= l /\ l <= ho.getD ((hi - lo : Nat) : Int) /\ ho.getD ((hi - lo : Nat) : Int) <= ((hi - lo : Nat) : Int)) /\ k (.sub id (lo + l.toNat) (lo + (ho.getD ((hi - lo : Nat) : Int)).toNat))
     | false => False
    | _ => False
   | _ => False
  | none => False
 | some ⟨.str, _, _, _⟩ => match x with
  | .p (.v (.string s)) => (0 <= l /\ l <= ho.getD s.size /\ ho.getD s.size <= s.size) /\ k (.p (.v (.string (s.extract l.toNat (ho.getD s.size).toNat))))
  | _ => False
 | _ => False
def wpSlice (ti : TypeId -> Option TI) (H : AH) (t : TypeId) (x : AV) (lo hi mx : Option AV) (k : AV -> Prop) : Prop := match lo, hi, mx with
 | none, none, none => wpCut ti H t x 0 none k
 | some l, none, none => match asI l with
  | some l => wpCut ti H t x l none k
  | none => False
 | none, some h, none => match asI h with
  | some h => wpCut ti H t x 0 (some h) k
  | none => False
 | some l, some h, none => match asI l, asI h with
  | some l, some h => wpCut ti H t x l (some h) k
  | _, _ => False
 | _, _, _ => False
def wpConv (ti : TypeId -> Option TI) (src dst : TypeId) (x : AV) (k : AV -> Prop) : Prop := match ti src, ti dst, x with
 | some ⟨.int _, _, _, _⟩, some ⟨.int kd, _, _, _⟩, .p (.v (.int _ n)) => NW kd n fun n' => k (.p (.v (.int kd n')))
 | some ⟨.str, _, _, _⟩, some ⟨.str, _, _, _⟩, .p (.v (.string s)) => k (.p (.v (.string s)))
 | _, _, _ => False
def wpUn (op : UnOp) (x : AV) (k : AV -> Prop) : Prop := match op, x with
 | .not, .p (.v (.bool b)) => k (.p (.v (.bool (!b))))
 | .neg, .p (.v (.int kd n)) => NW kd (0 - n) fun n' => k (.p (.v (.int kd n')))
 | _, _ => False
def setAt (cs : List AV) (off : Nat) : List AV -> List AV
 | [] => cs
 | c :: r => setAt (cs.set off c) (off + 1) r
def fillA (place : Nat -> Option (Nat × Nat)) (cells : List AV) : List (Nat × AV) -> Option (List AV)
 | [] => some cells
 | (i, x) :: rest => match place i with
  | none => none
  | some (off, size) => match Nat.beq x.cells.length size && Nat.ble (off + size) cells.length && x.cells.all AV.one with
   | true => fillA place (setAt cells off x.cells) rest
   | false => none
def placesOf (ti : TypeId -> Option TI) : List (TypeId × Nat) -> Option (List (Nat × Nat))
 | [] => some []
 | (t, off) :: r => match ti t, placesOf ti r with
  | some i, some l => some ((off, i.size) :: l)
  | _, _ => none
def zeroCells (i : TI) : List AV := i.zero.cells.toList.map fun c => .p (ofCell c)
def wpBuild (ti : TypeId -> Option TI) (t : TypeId) (parts : List (Nat × AV)) (k : AV -> Prop) : Prop := match ti t with
 | some i => match i.k with
  | .st fs => match placesOf ti fs with
   | some ps => match fillA (ps[·]?) (zeroCells i) parts with
    | some cs => k (mkAgg cs)
    | none => False
   | none => False
  | .ar _ e => match ti e with
   | some ie => match fillA (fun j => some (j * ie.size, ie.size)) (zeroCells i) parts with
    | some cs => k (mkAgg cs)
    | none => False
   | none => False
  | _ => False
 | none => False
def wpMinMax (mx : Bool) : AV -> List AV -> (AV -> Prop) -> Prop
 | x, [], k => k x
 | .p (.v (.int kd a)), .p (.v (.int kd' b)) :: r, k => match sameK kd kd' with
  | true => match mx with
   | true => wpMinMax mx (.p (.v (.int kd (if b > a then b else a)))) r k
   | false => wpMinMax mx (.p (.v (.int kd (if b < a then b else a)))) r k
  | false => False
 | _, _, _ => False
end Go.Abs
namespace Go.Abs
open Go.RowKit
section
variable {P : Program} {ti : TypeId -> Option TI} {H : AH} {m : Nat -> Value} {S : Nat -> Prop} {w : World}
theorem allP_some : ∀ {cs : List AV} {ps : List PV}, allP cs = some ps -> cs = ps.map .p
 | [], ps, h => by simp [allP] at h; subst h; rfl
 | x :: r, ps, h => by
  cases x <;> simp only [allP] at h <;> try (cases h; done)
  split at h
  ·rename_i l hl
   injection h with h
   subst h
   rw [allP_some hl]
   rfl
  ·cases h
theorem Rd.mkAgg {cs : List AV} {vs : Array Value} (hl : vs.size = cs.length) (hr : ∀ k c, cs[k]? = some c -> Rd P H m S w c (vs.getD k undef) /\ (vs.getD k undef).oneCell' = true) : Rd P H m S w (mkAgg cs) (.agg vs) := by
 unfold Abs.mkAgg
 split
 ·rename_i ps hps
  have he := allP_some hps
  subst he
  refine .p _ _ (.agg ps vs (by simpa using hl) (fun k c hk => ?_) fun k c hk => ?_)
  ·exact (hr k (.p c) (by simp [hk])).2
  ·have h1 := (hr k (.p c) (by simp [hk])).1
   cases h1 with | p _ _ h => exact h
 ·exact .agg cs vs hl (fun k c hk => (hr k c hk).2) fun k c hk => (hr k c hk).1
theorem takeV_sound2 {i : TI} {cs : List AV} {off : Nat} {k : AV -> Prop} (h : takeV i cs off k) {vs : Array Value} (hl : cs.length <= vs.size)
  (hr : ∀ k c, cs[k]? = some c -> off <= k -> Rd P H m S w c (vs.getD k undef) /\ (vs.getD k undef).oneCell' = true) :
  ∃ av v, k av /\ Rd P H m S w av v /\ ((i.k.isAgg = true /\ off + i.size <= vs.size /\ v = .agg (vs.extract off (off + i.size))) \/ (i.k.isAgg = false /\ vs[off]? = some v)) := by
 unfold takeV at h
 split at h
 ·rename_i hag
  split at h
  ·rename_i hle
   have hle := Nat.le_of_ble_eq_true hle
   refine ⟨_, _, h, Rd.mkAgg (vs := vs.extract off (off + i.size)) (by simp; omega) fun k c hk => ?_, .inl ⟨hag, by omega, rfl⟩⟩
   rw [List.getElem?_take] at hk
   split at hk
   ·rename_i hlt
    rw [List.getElem?_drop] at hk
    have h1 := hr _ c hk (by omega)
    have he : (vs.extract off (off + i.size)).getD k undef = vs.getD (off + k) undef := by
     simp only [Array.getD_eq_getD_getElem?]
     rw [Array.getElem?_extract, if_pos (by omega)]
    rw [he]
    exact h1
   ·cases hk
  ·cases h
 ·rename_i hag
  split at h
  ·rename_i x hx
   have hlt : off < vs.size := Nat.lt_of_lt_of_le (List.getElem?_eq_some_iff.1 hx).1 hl
   refine ⟨x, vs.getD off undef, h, (hr off x hx (Nat.le_refl _)).1, .inr ⟨hag, ?_⟩⟩
   simp [Array.getD, hlt]
  ·cases h
theorem takeV_sound {i : TI} {cs : List AV} {off : Nat} {k : AV -> Prop} (h : takeV i cs off k) {vs : Array Value} (hl : cs.length <= vs.size)
  (hr : ∀ k c, cs[k]? = some c -> Rd P H m S w c (vs.getD k undef) /\ (vs.getD k undef).oneCell' = true) :
  ∃ av v, k av /\ Rd P H m S w av v /\ ((i.k.isAgg = true /\ off + i.size <= vs.size /\ v = .agg (vs.extract off (off + i.size))) \/ (i.k.isAgg = false /\ vs[off]? = some v)) :=
 takeV_sound2 h hl fun k c hk _ => hr k c hk
theorem run_part_of {t : TypeId} {i : TI} (hi : tiOf P t = some i) {vs : Array Value} {off : Nat} {v : Value}
  (h : (i.k.isAgg = true /\ off + i.size <= vs.size /\ v = .agg (vs.extract off (off + i.size))) \/ (i.k.isAgg = false /\ vs[off]? = some v)) (w' : World) : (part t vs off).run P w' = .ok v w' := by
 obtain ⟨inf, d, hinf, hd, _, hs, _, hk, _⟩ := tiOf_spec hi
 rcases h with ⟨hag, _, rfl⟩ | ⟨hag, hv⟩
 ·simp [part, run_isAgg_of hd, hk, hag, sizeOf, typeInfo, hinf, hs]
 ·simp [part, run_isAgg_of hd, hk, hag, hv]
theorem cell_at {b o : Nat} {vs : Array Value} {T : TypeId} {fr : Nat × Nat} (hh : w.heap[b]? = some (.cells vs T fr)) : w.cell? ⟨b, o, none⟩ = vs[o]? := cell_of_row w b o vs T fr hh
theorem run_load_of {t : TypeId} {i : TI} (hi : tiOf P t = some i) {b off : Nat} {vs : Array Value} {T : TypeId} {fr : Nat × Nat} (hh : w.heap[b]? = some (.cells vs T fr)) {v : Value}
  (h : (i.k.isAgg = true /\ off + i.size <= vs.size /\ v = .agg (vs.extract off (off + i.size))) \/ (i.k.isAgg = false /\ vs[off]? = some v)) :
  (Instr.loadAt t (.pointer (some ⟨b, off, none⟩))).run P w = .ok v w := by
 obtain ⟨inf, d, hinf, hd, _, hs, _, hk, _⟩ := tiOf_spec hi
 rcases h with ⟨hag, hle, rfl⟩ | ⟨hag, hv⟩
 ·have hl : (loadCells ⟨b, off, none⟩ ((vs.extract off (off + i.size)).toList).length).run P w = .ok ((vs.extract off (off + i.size)).toList).toArray w := by
   refine run_loadCells_list w _ _ fun j v hj => ?_
   rw [add_lit, cell_at hh]
   have hlt : j < i.size := by have := (List.getElem?_eq_some_iff.1 hj).1; simp at this; omega
   simp [hlt] at hj
   rw [<- hj]
  have hlen : ((vs.extract off (off + i.size)).toList).length = i.size := by simp; omega
  rw [hlen, Array.toArray_toList] at hl
  simp [Instr.loadAt, Instr.sureAddr, loadVar, run_isAgg_of hd, hk, hag, sizeOf, typeInfo, hinf, hs, hl]
 ·simp [Instr.loadAt, Instr.sureAddr, loadVar, run_isAgg_of hd, hk, hag, run_load, cell_at hh, hv]
theorem bufL_form (hp : Hp P H m S w) {id : Nat} {e : TypeId} {xs : List PV} {l : List AV} (h : live H id (.bufL e xs l)) :
  ∃ (i : TypeInfo) (g cap : Nat) (cur : Array Value), P.info? e = some i /\ 0 < i.size /\ m id = .slice (some ⟨g, 0, none⟩) (xs.length + 1) cap /\ w.heap[g]? = some (.cells cur e (0, 0)) /\ xs.length + 1 <= cap /\ cap <= maxLen /\ cur.size = cap * i.size /\ l.length = i.size /\ (∀ x ∈ xs, x.cells.length = i.size) /\
   (∀ (k : Nat) (c : PV), (flat xs)[k]? = some c -> ∃ u : Value, cur.toList[k]? = some u /\ RdP S w c u /\ u.oneCell' = true) /\
   ∀ (k : Nat) (c : AV), l[k]? = some c -> ∃ u : Value, cur.toList[xs.length * i.size + k]? = some u /\ Rd P H m S w c u /\ u.oneCell' = true := by
 obtain ⟨i, us, h1, h2, ho, hz, hll, hr, hrl⟩ := hp.obj id _ h
 obtain ⟨hlen, ho⟩ := ho
 rcases ho with ⟨_, hx⟩ | ⟨g, cap, cur, hm, _, hh, hc1, hc2, hcs, htk⟩
 ·omega
 have tk : ∀ {k : Nat} {u : Value}, us[k]? = some u -> cur.toList[k]? = some u := by
  intro k u hu
  rw [<- htk, List.getElem?_take] at hu
  split at hu
  ·exact hu
  ·cases hu
 exact ⟨i, g, cap, cur, h1, h2, hm, hh, hc1, hc2, hcs, hll, hz, fun k c hk => (hr k c hk).imp fun u hu => ⟨tk hu.1, hu.2⟩, fun k c hk => (hrl k c hk).imp fun u hu => ⟨tk hu.1, hu.2⟩⟩
theorem rws_form (hp : Hp P H m S w) {id : Nat} {e : TypeId} {nl : Bool} {sz q : Nat} {e2 : TypeId} {xs : List PV} {ho : Option Nat} {l : List AV} {gn : Option (Nat -> Bool)} (h : live H id (.rws e nl sz q e2 xs ho l gn)) :
  ∃ (i : TypeInfo), P.info? e = some i /\ i.size = sz /\ 0 < sz /\ ((m id = .slice none 0 0 /\ xs.length = 0) \/ ∃ (g cap : Nat) (cur : Array Value), m id = .slice (some ⟨g, 0, none⟩) xs.length cap /\ w.heap[g]? = some (.cells cur e (0, 0)) /\ xs.length <= cap /\ cap <= maxLen /\ cur.size = cap * sz /\
   ∀ p, ho = some p -> p < xs.length /\ l.length = sz /\ ∀ (k : Nat) (c : AV), l[k]? = some c -> ∃ u : Value, cur.toList[p * sz + k]? = some u /\ Rd P H m S w c u /\ u.oneCell' = true) := by
 obtain ⟨i, i2, us, h1, h2, h3, h4, h5, hw, hz, hn, hR, hH, hA⟩ := hp.obj id _ h
 refine ⟨i, h1, h2, by omega, ?_⟩
 rcases hw.2 with ⟨hm, hx⟩ | ⟨g, cap, cur, hm, _, hh, hc1, hc2, hcs, htk⟩
 ·exact .inl ⟨hm, hx⟩
 have tk : ∀ {k : Nat} {u : Value}, us[k]? = some u -> cur.toList[k]? = some u := by
  intro k u hu
  rw [<- htk, List.getElem?_take] at hu
  split at hu
  ·exact hu
  ·cases hu
 refine .inr ⟨g, cap, cur, hm, hh, hc1, hc2, hcs, fun p hp0 => ?_⟩
 obtain ⟨k1, k2, k3⟩ := hH p hp0
 exact ⟨k1, k2, fun k c hk => (k3 k c hk).imp fun u hu => ⟨tk hu.1, hu.2⟩⟩
theorem takeV_pre {i : TI} {l : List AV} {off : Nat} {k : AV -> Prop} (pre : List AV) (h : takeV i l off k) : takeV i (pre ++ l) (pre.length + off) k := by
 unfold takeV at h ⊢
 split at h
 ·split at h
  ·rename_i hle
   have := Nat.le_of_ble_eq_true hle
   rw [show Nat.ble (pre.length + off + i.size) (pre ++ l).length = true from Nat.ble_eq_true_of_le (by rw [List.length_append]; omega)]
   have hd : (pre ++ l).drop (pre.length + off) = l.drop off := by rw [<- List.drop_drop, List.drop_left]
   rw [hd]
   exact h
  ·cases h
 ·rw [List.getElem?_append_right (by omega), Nat.add_sub_cancel_left]
  exact h
theorem buf_cells (hp : Hp P H m S w) {id : Nat} {e : TypeId} {nl : Bool} {xs : List PV} (h : live H id (.buf e nl xs)) {ix : Nat} {y : PV} (hy : xs[ix]? = some y) :
  ∃ (i : TypeInfo) (g c : Nat) (us : Nat -> Value), P.info? e = some i /\ m id = .slice (some ⟨g, 0, none⟩) xs.length c /\ g < w.heap.size /\
   y.cells.length = i.size /\ ∀ j c, y.cells[j]? = some c -> w.cell? ⟨g, ix * i.size + j, none⟩ = some (us j) /\ (us j).oneCell' = true /\ RdP S w c (us j) := by
 obtain ⟨i, us, hi, hsz, ho, hz, hr, hn⟩ := hp.obj id _ h
 have hlt : ix < xs.length := (List.getElem?_eq_some_iff.1 hy).1
 have hmem : y ∈ xs := by rw [<- (List.getElem?_eq_some_iff.1 hy).2]; exact List.getElem_mem ..
 rcases ho.2 with ⟨hv, h0⟩ | ⟨g, cap, cur, hv, _, hh, hc, hm, hcs, htk⟩
 ·omega
 ·refine ⟨i, g, cap, fun j => (us[ix * i.size + j]?).getD undef, hi, hv, (Array.getElem?_eq_some_iff.1 hh).1, hz y hmem, fun j c hj => ?_⟩
  obtain ⟨u, hu, hru, h1⟩ := hr _ c (flat_at hz _ _ hy _ _ hj)
  refine ⟨?_, by simp [hu, h1], by simpa [hu] using hru⟩
  have := ho.cells (g := g) (by rw [hv]; rfl) _ u hu
  rw [add_lit] at this
  simpa [hu] using this
theorem wpLoadF_sound (hT : TabOK P ti) {t : TypeId} {cs : List PV} {vx : Value} {k : AV -> Prop} (h : wpLoad ti H t (.rptr cs) k) (hx : Rd P H m S w (.rptr cs) vx) :
  ∃ av v, k av /\ Rd P H m S w av v /\ ∀ w', Keeps S w w' -> (Instr.loadAt t vx).run P w' = .ok v w' := by
 unfold wpLoad at h
 split at h
 ·cases h
 ·rename_i i hti
  have hi := hT.ok _ _ hti
  cases hx with
  | rptr _ a us hS hu hr =>
   obtain ⟨av, v, h1, h2, h3⟩ := rdCells_sound hi h a us hu hr
   exact ⟨av, v, h1, h2, fun w' hw => h3 w' fun j u hj => by rw [hw.cell (by rw [add_block]; exact hS)]; exact hj⟩
theorem wpLoad_sound (hT : TabOK P ti) (hp : Hp P H m S w) {t : TypeId} {x : AV} {vx : Value} {k : AV -> Prop} (h : wpLoad ti H t x k) (hx : Rd P H m S w x vx) :
  ∃ av v, k av /\ Rd P H m S w av v /\ ∀ w', Ag w w' -> (Instr.loadAt t vx).run P w' = .ok v w' := by
 unfold wpLoad at h
 split at h
 ·cases h
 ·rename_i i hti
  have hi := hT.ok _ _ hti
  split at h
  ·rename_i cs
   cases hx with
   | rptr _ a us hS hu hr =>
    obtain ⟨av, v, h1, h2, h3⟩ := rdCells_sound hi h a us hu hr
    exact ⟨av, v, h1, h2, fun w' hw => h3 w' fun j u hj => hw.cell hj⟩
  ·rename_i id off
   split at h
   ·rename_i cs hH
    cases hx with
    | ptr _ _ a hid hpt =>
     obtain ⟨b, hm1, rfl⟩ := hpt _ hH
     obtain ⟨b', T, vs, hm2, hh, hl, hr⟩ := hp.obj id _ hH
     rw [hm1] at hm2
     obtain rfl : b = b' := by injection hm2 with h2; injection h2 with h2; injection h2
     obtain ⟨av, v, hk, hrd, hv⟩ := takeV_sound h hl hr
     refine ⟨av, v, hk, hrd, fun w' hw => ?_⟩
     exact run_load_of hi ((hw b (Array.getElem?_eq_some_iff.1 hh).1).trans hh) hv
   ·rename_i xs hH
    cases hx with
    | ptr _ _ a hid hpt =>
     obtain ⟨b, hm1, rfl⟩ := hpt _ hH
     obtain ⟨b', T, vs, hm2, hh, hl, hr⟩ := hp.obj id _ hH
     rw [hm1] at hm2
     obtain rfl : b = b' := by injection hm2 with h2; injection h2 with h2; injection h2
     split at h
     ·rename_i hag
      obtain ⟨n, y, rfl, hy, hk⟩ := h
      obtain ⟨h1, h2⟩ := hr _ y hy
      have hlt : off < vs.size := Nat.lt_of_lt_of_le (List.getElem?_eq_some_iff.1 hy).1 hl
      exact ⟨_, _, hk, .p _ _ h1, fun w' hw => run_load_of hi ((hw b (Array.getElem?_eq_some_iff.1 hh).1).trans hh) (.inr ⟨hag, by simp [Array.getD, hlt]⟩)⟩
     ·rename_i hag
      split at h
      ·obtain ⟨hw0, hk⟩ := h
       have hx2 : ∀ k c, xs[k]? = some c -> (vs.extract 0 (0 + i.size)).getD k undef = vs.getD k undef := fun k c hc => by
        have h5 := (List.getElem?_eq_some_iff.1 hc).1
        simp only [Array.getD_eq_getD_getElem?]
        rw [Array.getElem?_extract, if_pos (by omega), Nat.zero_add]
       refine ⟨_, _, hk, .p _ _ (.agg xs (vs.extract 0 (0 + i.size)) (by rw [Array.size_extract]; omega) (fun k c hc => ?_) fun k c hc => ?_), fun w' hw => run_load_of hi ((hw b (Array.getElem?_eq_some_iff.1 hh).1).trans hh) (.inl ⟨hag, by omega, rfl⟩)⟩
       ·rw [hx2 k c hc]; exact (hr k c hc).2
       ·rw [hx2 k c hc]; exact (hr k c hc).1
      ·cases h
   ·cases h
  ·rename_i id ix off
   split at h
   ·rename_i e nl xs hH
    cases hx with
    | bptr _ _ _ a hid hb =>
     obtain ⟨y, h0, hy, hk⟩ := h
     simp only [Int.toNat_natCast] at hy
     obtain ⟨i1, g, c, us, hi1, hm1, hg, hyl, hcell⟩ := buf_cells hp hH hy
     obtain ⟨i2, g2, l2, c2, hi2, hm2, rfl⟩ := hb e nl xs hH
     rw [hi1] at hi2
     injection hi2 with hi2
     subst hi2
     rw [hm1] at hm2
     obtain rfl : g = g2 := by injection hm2 with h2; injection h2 with h2; injection h2
     refine (fun h => Exists.elim h fun av h => Exists.elim h fun v h => ⟨av, v, h.1, h.2.1, fun w' hw => h.2.2 w' fun j u hj => hw.cell hj⟩) (rdCells_sound hi hk _ (fun j => us (off + j)) (fun j c hj => ?_) fun j c hj => ?_)
     ·rw [List.getElem?_drop] at hj
      obtain ⟨h1, h2, _⟩ := hcell _ c hj
      rw [add_lit, Nat.add_assoc]
      exact ⟨h1, h2⟩
     ·rw [List.getElem?_drop] at hj
      exact (hcell _ c hj).2.2
   ·cases h
  ·rename_i id off
   split at h
   ·rename_i e xs l hH
    cases hx with
    | lptr _ _ a hid hpt =>
     obtain ⟨i1, g, cap, cur, hi1, _, hm1, hg, hc1, _, hcs, hll, hz, hr1, hr2⟩ := bufL_form hp hH
     obtain ⟨i2, g2, l0, c0, hi2, hm2, rfl⟩ := hpt _ _ _ hH
     rw [hi1] at hi2
     injection hi2 with hi2
     subst hi2
     rw [hm1] at hm2
     obtain rfl : g = g2 := by injection hm2 with h2; injection h2 with h2; injection h2
     have hmul : (xs.length + 1) * i1.size <= cap * i1.size := Nat.mul_le_mul_right _ hc1
     rw [Nat.succ_mul] at hmul
     have hfl := flat_length hz
     have h' := takeV_pre ((flat xs).map AV.p) h
     rw [List.length_map, hfl] at h'
     obtain ⟨av, v, hk, hrd, hv⟩ := takeV_sound (P := P) (H := H) (m := m) (S := S) (w := w) h' (vs := cur) (by rw [List.length_append, List.length_map, hfl, hll, hcs]; exact hmul) fun k c hk => by
      by_cases hkl : k < ((flat xs).map AV.p).length
      ·rw [List.getElem?_append_left hkl, List.getElem?_map, Option.map_eq_some_iff] at hk
       obtain ⟨y, hy, rfl⟩ := hk
       obtain ⟨u, hu, h3, h4⟩ := hr1 k y hy
       have : cur.getD k undef = u := by rw [Array.getElem?_toList] at hu; simp [Array.getD_eq_getD_getElem?, hu]
       rw [this]
       exact ⟨.p _ _ h3, h4⟩
      ·rw [List.getElem?_append_right (by omega)] at hk
       obtain ⟨u, hu, h3, h4⟩ := hr2 _ c hk
       rw [List.length_map, hfl] at hu hkl
       rw [show xs.length * i1.size + (k - xs.length * i1.size) = k by omega] at hu
       have : cur.getD k undef = u := by rw [Array.getElem?_toList] at hu; simp [Array.getD_eq_getD_getElem?, hu]
       rw [this]
       exact ⟨h3, h4⟩
     exact ⟨av, v, hk, hrd, fun w' hw => run_load_of hi ((hw g (Array.getElem?_eq_some_iff.1 hg).1).trans hg) hv⟩
   ·cases h
  ·rename_i id ix off
   split at h
   ·rename_i e nl sz q e2 xs p l gn hH
    obtain ⟨rfl, h⟩ := h
    cases hx with
    | wptr _ _ _ a hid hpt =>
     obtain ⟨i1, hi1, hs1, h0, hf⟩ := rws_form hp hH
     obtain ⟨i2, g2, l0, c0, hi2, hm2, rfl⟩ := hpt _ e hH rfl
     rw [hi1] at hi2
     injection hi2 with hi2
     subst hi2
     rcases hf with ⟨hm, _⟩ | ⟨g, cap, cur, hm1, hg, hc1, _, hcs, hl⟩
     ·rw [hm] at hm2; cases hm2
     obtain ⟨k1, k2, k3⟩ := hl _ rfl
     rw [hm1] at hm2
     obtain rfl : g = g2 := by injection hm2 with h2; injection h2 with h2; injection h2
     subst hs1
     have hm3 : (ix + 1) * i1.size <= xs.length * i1.size := Nat.mul_le_mul_right _ k1
     have hmul : xs.length * i1.size <= cap * i1.size := Nat.mul_le_mul_right _ hc1
     rw [Nat.succ_mul] at hm3
     have h' := takeV_pre (List.replicate (ix * i1.size) AV.dead) h
     rw [List.length_replicate] at h'
     have hrd : ∀ k c, (List.replicate (ix * i1.size) AV.dead ++ l)[k]? = some c -> Rd P H m S w c (cur.getD k undef) /\ (ix * i1.size <= k -> (cur.getD k undef).oneCell' = true) := fun k c hk => by
      by_cases hkl : k < ix * i1.size
      ·rw [List.getElem?_append_left (by rw [List.length_replicate]; exact hkl), List.getElem?_replicate, if_pos hkl] at hk
       injection hk with hk
       subst hk
       exact ⟨.dead _, fun h => by omega⟩
      ·rw [List.getElem?_append_right (by rw [List.length_replicate]; omega), List.length_replicate] at hk
       obtain ⟨u, hu, h3, h4⟩ := k3 _ c hk
       rw [show ix * i1.size + (k - ix * i1.size) = k by omega] at hu
       have : cur.getD k undef = u := by rw [Array.getElem?_toList] at hu; simp [Array.getD_eq_getD_getElem?, hu]
       rw [this]
       exact ⟨h3, fun _ => h4⟩
     obtain ⟨av, v, hk, hrv, hv⟩ := takeV_sound2 (P := P) (H := H) (m := m) (S := S) (w := w) h' (vs := cur) (by rw [List.length_append, List.length_replicate, k2, hcs]; omega) fun k c hk hle => ⟨(hrd k c hk).1, (hrd k c hk).2 (by omega)⟩
     exact ⟨av, v, hk, hrv, fun w' hw => run_load_of hi ((hw g (Array.getElem?_eq_some_iff.1 hg).1).trans hg) hv⟩
   ·cases h
  ·cases h
end
end Go.Abs
namespace Go.Abs
open Go.RowKit
section
variable {P : Program} {ti : TypeId -> Option TI} {H : AH} {m : Nat -> Value} {S : Nat -> Prop} {w : World}
theorem struct_of {t : TypeId} {i : TI} {fs : List (TypeId × Nat)} (hi : tiOf P t = some i) (hk : i.k = .st fs) : ∃ F : Array Field, P.underlying t = some (.struct F) /\ fs = F.toList.map fun f => (f.type, f.offset) := by
 obtain ⟨inf, d, hinf, hd, _, _, _, hkk, _⟩ := tiOf_spec hi
 rw [hk] at hkk
 cases d <;> simp [kindOf] at hkk
 rename_i F
 exact ⟨F, hd, hkk.symm⟩
theorem slice_of {t : TypeId} {i : TI} {e : TypeId} (hi : tiOf P t = some i) (hk : i.k = .sl e) : P.underlying t = some (.slice e) := by
 obtain ⟨inf, d, hinf, hd, _, _, _, hkk, _⟩ := tiOf_spec hi
 rw [hk] at hkk
 cases d <;> simp [kindOf] at hkk
 subst hkk
 exact hd
theorem array_of {t : TypeId} {i : TI} {n : Nat} {e : TypeId} (hi : tiOf P t = some i) (hk : i.k = .ar n e) : P.underlying t = some (.array n e) := by
 obtain ⟨inf, d, hinf, hd, _, _, _, hkk, _⟩ := tiOf_spec hi
 rw [hk] at hkk
 cases d <;> simp [kindOf] at hkk
 obtain ⟨rfl, rfl⟩ := hkk
 exact hd
theorem str_of {t : TypeId} {i : TI} (hi : tiOf P t = some i) (hk : i.k = .str) : P.underlying t = some .string := by
 obtain ⟨inf, d, hinf, hd, _, _, _, hkk, _⟩ := tiOf_spec hi
 rw [hk] at hkk
 cases d <;> simp [kindOf] at hkk
 exact hd
theorem int_of {t : TypeId} {i : TI} {kd : IntKind} (hi : tiOf P t = some i) (hk : i.k = .int kd) : P.underlying t = some (.int kd) := by
 obtain ⟨inf, d, hinf, hd, _, _, _, hkk, _⟩ := tiOf_spec hi
 rw [hk] at hkk
 cases d <;> simp [kindOf] at hkk
 subst hkk
 exact hd
theorem size_of {t : TypeId} {i : TI} (hi : tiOf P t = some i) : ∃ inf, P.info? t = some inf /\ inf.size = i.size := by
 obtain ⟨inf, d, hinf, hd, _, hs, _⟩ := tiOf_spec hi
 exact ⟨inf, hinf, hs⟩
theorem run_fieldAt {s ft : TypeId} {i j : TI} {fs : List (TypeId × Nat)} {f off : Nat} (hi : tiOf P s = some i) (hk : i.k = .st fs) (hf : fs[f]? = some (ft, off)) (hj : tiOf P ft = some j) (h0 : j.size ≠ 0) (a : Addr) (w : World) :
  (Instr.fieldAt s (.pointer (some a)) f).run P w = .ok (.pointer (some (a.add off))) w := by
 obtain ⟨F, hu, rfl⟩ := struct_of hi hk
 obtain ⟨inf, hinf, hs⟩ := size_of hj
 simp only [List.getElem?_map, Option.map_eq_some_iff] at hf
 obtain ⟨fd, hfd, he⟩ := hf
 injection he with h1 h2
 subst h1; subst h2
 have hfd' : F[f]? = some fd := by simpa using hfd
 have hs' : ¬ inf.size = 0 := by omega
 simp [Instr.fieldAt, run_underlying hu, hfd', Instr.sureAddr, fieldPlace, sizeOf, typeInfo, hinf, hs']
theorem wpFieldAddr_sound (hT : TabOK P ti) (_hp : Hp P H m S w) {s : TypeId} {x : AV} {f : Nat} {vx : Value} {k : AV -> Prop} (h : wpFieldAddr ti s x f k) (hx : Rd P H m S w x vx) :
  ∃ av v, k av /\ Rd P H m S w av v /\ ∀ w', True -> (Instr.fieldAt s vx f).run P w' = .ok v w' := by
 unfold wpFieldAddr at h
 split at h
 ·rename_i fs sz by_ z hti
  have hi := hT.ok _ _ hti
  split at h
  ·rename_i ft off hf
   split at h
   ·rename_i k1 n b1 z1 htj
    have hj := hT.ok _ _ htj
    have run := fun (a : Addr) (w : World) => run_fieldAt (P := P) hi rfl hf hj (by simp) a w
    split at h
    ·rename_i id o
     cases hx with
     | ptr _ _ a hid hb =>
      refine ⟨_, _, h, .ptr _ _ _ hid fun o' hl => ?_, fun w' _ => run a w'⟩
      obtain ⟨b, hm, rfl⟩ := hb o' hl
      exact ⟨b, hm, by rw [add_lit]⟩
    ·rename_i id ix o
     cases hx with
     | bptr _ _ _ a hid hb =>
      refine ⟨_, _, h, .bptr _ _ _ _ hid fun e nl xs hl => ?_, fun w' _ => run a w'⟩
      obtain ⟨i, g, l, c, h1, h2, rfl⟩ := hb e nl xs hl
      exact ⟨i, g, l, c, h1, h2, by rw [add_lit, Nat.add_assoc]⟩
    ·rename_i id o
     cases hx with
     | lptr _ _ a hid hb =>
      refine ⟨_, _, h, .lptr _ _ _ hid fun e xs l hl => ?_, fun w' _ => run a w'⟩
      obtain ⟨i, g, l0, c, h1, h2, rfl⟩ := hb e xs l hl
      exact ⟨i, g, l0, c, h1, h2, by rw [add_lit, Nat.add_assoc]⟩
    ·rename_i id ix o
     cases hx with
     | wptr _ _ _ a hid hb =>
      refine ⟨_, _, h, .wptr _ _ _ _ hid fun o' e hl he => ?_, fun w' _ => run a w'⟩
      obtain ⟨i, g, l0, c, h1, h2, rfl⟩ := hb o' e hl he
      exact ⟨i, g, l0, c, h1, h2, by rw [add_lit, Nat.add_assoc]⟩
    ·rename_i cs
     cases hx with
     | rptr _ a us hS hu hr =>
      refine ⟨_, _, h, .rptr _ (a.add off) (fun j => us (off + j)) (by rw [add_block]; exact hS) (fun j c hj => ?_) (fun j c hj => ?_), fun w' _ => run a w'⟩
      ·rw [List.getElem?_drop] at hj
       rw [add_add]
       exact hu _ c hj
      ·rw [List.getElem?_drop] at hj
       exact hr _ c hj
    ·cases h
   ·cases h
  ·cases h
 ·cases h
theorem rptr_of_list {t e : TypeId} {ie : TI} (hu : P.underlying t = some (.slice e)) (he : tiOf P e = some ie) {nl : Bool} {xs : List PV} {v : Value} (hr : RdP S w (.list nl xs) v) {kd : IntKind} {i : Int} {z : PV} (h0 : 0 <= i) (hz : xs[i.toNat]? = some z)
  (hzl : z.cells.length = ie.size) : ∃ v', Rd P H m S w (.rptr z.cells) v' /\ ∀ w', (Instr.indexAt t v (.int kd i)).run P w' = .ok v' w' := by
 obtain ⟨inf, hinf, hs⟩ := size_of he
 cases hr with
 | nil => simp at hz
 | list _ a cap sz us hS hc hm hsz hu' hr' =>
  have hlt : i.toNat < xs.length := (List.getElem?_eq_some_iff.1 hz).1
  have hmem : z ∈ xs := by rw [<- (List.getElem?_eq_some_iff.1 hz).2]; exact List.getElem_mem ..
  have hsz' : sz = ie.size := by rw [<- hsz z hmem]; exact hzl
  subst hsz'
  refine ⟨_, .rptr _ (a.add (i.toNat * ie.size)) (fun j => us (i.toNat * ie.size + j)) (by rw [add_block]; exact hS (by rintro rfl; simp at hlt)) (fun j c hj => ?_) (fun j c hj => ?_), fun w' => ?_⟩
  ·rw [add_add]
   exact hu' _ c (flat_at hsz _ _ hz _ _ hj)
  ·exact hr' _ c (flat_at hsz _ _ hz _ _ hj)
  ·have hi : i < (xs.length : Int) := by omega
   simp [Instr.indexAt, asIntOf, run_underlying hu, h0, hi, sizeOf, typeInfo, hinf, hs]
theorem run_indexAt_slice {t e : TypeId} {inf : TypeInfo} (hu : P.underlying t = some (.slice e)) (hinf : P.info? e = some inf) (a : Addr) (l c : Nat) (kd : IntKind) (i : Int) (h0 : 0 <= i) (h1 : i < l) (w' : World) :
  (Instr.indexAt t (.slice (some a) l c) (.int kd i)).run P w' = .ok (.pointer (some (a.add (i.toNat * inf.size)))) w' := by
 simp [Instr.indexAt, asIntOf, run_underlying hu, h0, h1, sizeOf, typeInfo, hinf]
theorem buf_addr (hp : Hp P H m S w) {id : Nat} {e : TypeId} {nl : Bool} {xs : List PV} (h : live H id (.buf e nl xs)) (h0 : 0 < xs.length) :
  ∃ (i : TypeInfo) (g c : Nat), P.info? e = some i /\ m id = .slice (some ⟨g, 0, none⟩) xs.length c := by
 obtain ⟨i, us, hi, hsz, ho, _⟩ := hp.obj id _ h
 rcases ho.2 with ⟨hv, h1⟩ | ⟨g, cap, cur, hv, _⟩
 ·omega
 ·exact ⟨i, g, cap, hi, hv⟩
theorem wpIndexAddr_sound (hT : TabOK P ti) (hp : Hp P H m S w) {t : TypeId} {x y : AV} {vx vy : Value} {k : AV -> Prop} (h : wpIndexAddr ti H t x y k) (hx : Rd P H m S w x vx) (hy : Rd P H m S w y vy) :
  ∃ av v, k av /\ Rd P H m S w av v /\ ∀ w', True -> (Instr.indexAt t vx vy).run P w' = .ok v w' := by
 unfold wpIndexAddr at h
 split at h
 ·rename_i kd i
  obtain ⟨rfl, _⟩ := hy.pv
  split at h
  ·rename_i e s1 b1 z1 hti
   have hu := slice_of (hT.ok _ _ hti) rfl
   have lst : ∀ {nl : Bool} {xs : List PV} {v : Value}, RdP S w (.list nl xs) v -> (match ti e with
     | some ie => IdxA xs i fun z => match Nat.beq z.cells.length ie.size with
      | true => k (.rptr z.cells)
      | false => False
     | none => False) -> ∃ av v', k av /\ Rd P H m S w av v' /\ ∀ w', True -> (Instr.indexAt t v (.int kd i)).run P w' = .ok v' w' := by
    intro nl xs v hr h
    split at h
    ·rename_i ie hie
     obtain ⟨z, h0, hz, hk⟩ := h
     split at hk
     ·rename_i hb
      obtain ⟨v', h1, h2⟩ := rptr_of_list (P := P) (H := H) (m := m) hu (hT.ok _ _ hie) hr h0 hz (Nat.eq_of_beq_eq_true hb)
      exact ⟨_, v', hk, h1, fun w' _ => h2 w'⟩
     ·cases hk
    ·cases h
   split at h
   ·rename_i nl xs
    cases hx with | p _ _ hr => exact lst hr h
   ·rename_i id
    split at h
    ·rename_i e' nl xs hH
     split at h
     ·rename_i hb
      obtain rfl := Nat.eq_of_beq_eq_true hb
      obtain ⟨n, rfl, h1, hk⟩ := h
      obtain ⟨inf, g, c, hinf, hm⟩ := buf_addr hp hH (by omega)
      have hv := hx.bufAt hH
      rw [hm] at hv
      subst hv
      have hid : id < H.length := (List.getElem?_eq_some_iff.1 hH).1
      refine ⟨_, _, hk, .bptr _ _ _ _ hid fun e2 nl2 xs2 hl => ?_, fun w' _ => run_indexAt_slice hu hinf _ _ _ kd _ (by omega) (by omega) w'⟩
      unfold live at hl
      rw [hH] at hl
      injection hl with hl; injection hl with hl; injection hl with he _ _
      subst he
      exact ⟨inf, g, _, c, hinf, hm, by rw [add_lit, Nat.zero_add, Nat.add_zero, Int.toNat_natCast]⟩
     ·cases h
    ·rename_i nl xs hH
     have hv := hx.bufAt hH
     subst hv
     exact lst (hp.obj id _ hH) h
    ·rename_i e' xs l hH
     split at h
     ·rename_i hb
      obtain rfl := Nat.eq_of_beq_eq_true hb
      obtain ⟨rfl, hk⟩ := h
      obtain ⟨inf, g, c, cur, hinf, _, hm, _⟩ := bufL_form hp hH
      have hv := hx.bufAt hH
      rw [hm] at hv
      subst hv
      have hid : id < H.length := (List.getElem?_eq_some_iff.1 hH).1
      refine ⟨_, _, hk, .lptr _ _ _ hid fun e2 xs2 l2 hl => ?_, fun w' _ => run_indexAt_slice hu hinf _ _ _ kd _ (by omega) (by omega) w'⟩
      unfold live at hl
      rw [hH] at hl
      injection hl with hl; injection hl with hl; injection hl with he hx2 _
      subst he
      subst hx2
      exact ⟨inf, g, _, c, hinf, hm, by rw [add_lit, Nat.zero_add, Nat.add_zero, Int.toNat_natCast]⟩
     ·cases h
    ·rename_i e' nl sz q e2 xs ho l gn hH
     split at h
     ·rename_i hb
      obtain rfl := Nat.eq_of_beq_eq_true hb
      obtain ⟨n, rfl, h1, hk⟩ := h
      obtain ⟨inf, hinf, hs1, h0, hf⟩ := rws_form hp hH
      rcases hf with ⟨_, h2⟩ | ⟨g, c, cur, hm, _⟩
      ·omega
      have hv := hx.bufAt hH
      rw [hm] at hv
      subst hv
      have hid : id < H.length := (List.getElem?_eq_some_iff.1 hH).1
      refine ⟨_, _, hk, .wptr _ _ _ _ hid fun o2 e3 hl he => ?_, fun w' _ => run_indexAt_slice hu hinf _ _ _ kd _ (by omega) (by omega) w'⟩
      unfold live at hl
      rw [hH] at hl
      injection hl with hl; injection hl with hl
      subst hl
      injection he with he
      subst he
      exact ⟨inf, g, _, c, hinf, hm, by rw [add_lit, Nat.zero_add, Nat.add_zero, Int.toNat_natCast]⟩
     ·cases h
    ·cases h
   ·rename_i id lo hi
    split at h
    ·rename_i e' nl xs hH
     split at h
     ·rename_i hb
      obtain rfl := Nat.eq_of_beq_eq_true hb
      obtain ⟨⟨h0, h1⟩, hk⟩ := h
      cases hx with
      | sub _ _ _ a l c hid hs _ =>
       obtain ⟨inf, a0, l0, c0, hinf, hm, hlo, hhi, hl, hc, ha⟩ := hs _ nl xs hH
       obtain ⟨inf', g, c', hinf', hm'⟩ := buf_addr hp hH (by omega)
       rw [hm] at hm'
       injection hm' with e1 e2 e3
       subst e1; subst e2; subst e3
       obtain ⟨_, _, hm2, _, hlc, _⟩ := buf_form hp hH
       rw [hm] at hm2
       injection hm2 with _ _ e5
       have ha := ha.2 (by omega)
       subst ha
       refine ⟨_, _, hk, .bptr _ _ _ _ hid fun e2 nl2 xs2 hl2 => ?_, fun w' _ => run_indexAt_slice hu hinf _ _ _ kd i h0 (by omega) w'⟩
       unfold live at hl2
       rw [hH] at hl2
       injection hl2 with hl2; injection hl2 with hl2; injection hl2 with he _ _
       subst he
       exact ⟨inf, g, _, _, hinf, hm, by show ((⟨g, 0, none⟩ : Addr).add (lo * inf.size)).add (i.toNat * inf.size) = _; rw [add_lit, add_lit, Nat.zero_add, Nat.add_zero, Nat.add_mul]⟩
     ·cases h
    ·rename_i cs hH
     split at h
     ·rename_i ie hie
      obtain ⟨⟨h0, h1⟩, hk⟩ := h
      obtain ⟨inf, hinf, hsz⟩ := size_of (hT.ok _ _ hie)
      obtain ⟨b, T, vs, hm, hh, hl, hr⟩ := hp.obj id _ hH
      cases hx with
      | sub _ _ _ a l c hid hs hs2 =>
       obtain ⟨rfl, rfl, rfl, hc1, hc2⟩ := hs2 _ _ hH hm
       refine ⟨_, _, hk, .ptr _ _ _ hid fun o' hl' => ⟨b, hm, ?_⟩, fun w' _ => run_indexAt_slice hu hinf _ _ _ kd i h0 (by omega) w'⟩
       rw [add_lit, Nat.zero_add, hsz]
     ·cases h
    ·cases h
   ·cases h
  ·rename_i n e s1 b1 z1 hti
   have hu := array_of (hT.ok _ _ hti) rfl
   split at h
   ·rename_i ie id o hie
    obtain ⟨inf, hinf, hs⟩ := size_of (hT.ok _ _ hie)
    obtain ⟨⟨h0, h1⟩, hk⟩ := h
    cases hx with
    | ptr _ _ a hid hb =>
     refine ⟨_, .pointer (some (a.add (i.toNat * ie.size))), hk, .ptr _ _ _ hid fun o' hl => ?_, fun w' _ => ?_⟩
     ·obtain ⟨b, hm, rfl⟩ := hb o' hl
      exact ⟨b, hm, by rw [add_lit]⟩
     ·simp [Instr.indexAt, asIntOf, run_underlying hu, h0, h1, sizeOf, typeInfo, hinf, hs, Instr.sureAddr]
   ·rename_i ie cs hie
    obtain ⟨inf, hinf, hs⟩ := size_of (hT.ok _ _ hie)
    obtain ⟨⟨h0, h1⟩, hk⟩ := h
    cases hx with
    | rptr _ a us hS hu' hr =>
     refine ⟨_, .pointer (some (a.add (i.toNat * ie.size))), hk, .rptr _ (a.add (i.toNat * ie.size)) (fun j => us (i.toNat * ie.size + j)) (by rw [add_block]; exact hS) (fun j c hj => ?_) (fun j c hj => ?_), fun w' _ => ?_⟩
     ·rw [List.getElem?_drop] at hj
      rw [add_add]
      exact hu' _ c hj
     ·rw [List.getElem?_drop] at hj
      exact hr _ c hj
     ·simp [Instr.indexAt, asIntOf, run_underlying hu, h0, h1, sizeOf, typeInfo, hinf, hs, Instr.sureAddr]
   ·cases h
  ·cases h
 ·cases h
end
end Go.Abs
namespace Go.Abs
open Go.RowKit
section
variable {P : Program} {ti : TypeId -> Option TI} {H : AH} {m : Nat -> Value} {S : Nat -> Prop} {w : World}
theorem run_len_slice {t e : TypeId} (hu : P.underlying t = some (.slice e)) (ty : TypeId) (a : Option Addr) (l c : Nat) (w' : World) : (Builtin.len_ #[t] ty #[.slice a l c]).run P w' = .ok (.int .i64 l) w' := by
 simp [Builtin.len_, run_underlying hu, goInt]
theorem wpLen_sound (hT : TabOK P ti) (hp : Hp P H m S w) {t : TypeId} {x : AV} {vx : Value} {k : AV -> Prop} (h : wpLen ti H t x k) (hx : Rd P H m S w x vx) (ty : TypeId) :
  ∃ av v, k av /\ Rd P H m S w av v /\ ∀ w', True -> (Builtin.len_ #[t] ty #[vx]).run P w' = .ok v w' := by
 unfold wpLen at h
 split at h
 ·rename_i e s1 b1 z1 hti
  have hu := slice_of (hT.ok _ _ hti) rfl
  split at h
  ·rename_i nl xs
   obtain ⟨a, c, rfl, _, h1, h2⟩ := hx.listNil
   obtain ⟨n, rfl, h⟩ := h
   exact ⟨_, _, h (Nat.le_trans h1 h2), Rd.mk rfl, fun w' _ => run_len_slice hu ty _ _ _ w'⟩
  ·rename_i id
   split at h
   ·rename_i e' nl xs hH
    have hv := hx.bufAt hH
    obtain ⟨a, c, hm, _, h1, h2⟩ := buf_form hp hH
    rw [hm] at hv
    subst hv
    obtain ⟨n, rfl, h⟩ := h
    exact ⟨_, _, h (Nat.le_trans h1 h2), Rd.mk rfl, fun w' _ => run_len_slice hu ty _ _ _ w'⟩
   ·rename_i nl xs hH
    have hv := hx.bufAt hH
    obtain ⟨a, c, hm, _, h1, h2⟩ := frz_form hp hH
    rw [hm] at hv
    subst hv
    obtain ⟨n, rfl, h⟩ := h
    exact ⟨_, _, h (Nat.le_trans h1 h2), Rd.mk rfl, fun w' _ => run_len_slice hu ty _ _ _ w'⟩
   ·rename_i e' nl sz q e2 xs ho l gn hH
    have hv := hx.bufAt hH
    obtain ⟨i1, _, _, _, hf⟩ := rws_form hp hH
    obtain ⟨n, rfl, h⟩ := h
    rcases hf with ⟨hm, h2⟩ | ⟨g, c, cur, hm, _, h1, h2, _⟩
    ·rw [hm] at hv
     subst hv
     have := run_len_slice (P := P) hu ty none 0 0
     rw [h2] at h
     exact ⟨_, _, h (Nat.zero_le _), Rd.mk rfl, fun w' _ => this w'⟩
    ·rw [hm] at hv
     subst hv
     exact ⟨_, _, h (Nat.le_trans h1 h2), Rd.mk rfl, fun w' _ => run_len_slice hu ty _ _ _ w'⟩
   ·cases h
  ·rename_i id lo hi
   split at h
   ·rename_i e' nl xs hH
    cases hx with
    | sub _ _ _ a l c hid hs =>
     obtain ⟨inf, a0, l0, c0, hinf, hm, hlo, hhi, hl, hc, ha⟩ := hs _ nl xs hH
     obtain ⟨_, _, _, _, h1, h2⟩ := buf_form hp hH
     subst hl
     obtain ⟨n, rfl, h⟩ := h
     exact ⟨_, _, h (Nat.le_trans h1 h2), Rd.mk rfl, fun w' _ => run_len_slice hu ty _ _ _ w'⟩
   ·rename_i cs hH
    cases hx with
    | sub _ _ _ a l c hid hs hq =>
     obtain ⟨b, T, us, h3, _⟩ := hp.obj id _ hH
     obtain ⟨rfl, _, rfl, _⟩ := hq _ _ hH h3
     exact ⟨_, _, h, Rd.mk rfl, fun w' _ => run_len_slice hu ty _ _ _ w'⟩
   ·cases h
  ·cases h
 ·rename_i n e s1 b1 z1 hti
  have hu := array_of (hT.ok _ _ hti) rfl
  exact ⟨_, _, h, Rd.mk rfl, fun w' _ => by simp [Builtin.len_, run_underlying hu, goInt]⟩
 ·rename_i s1 b1 z1 hti
  have hu := str_of (hT.ok _ _ hti) rfl
  split at h
  ·obtain ⟨rfl, _⟩ := hx.pv
   exact ⟨_, _, h, Rd.mk rfl, fun w' _ => by simp [Builtin.len_, run_underlying hu, goInt]⟩
  ·cases h
 ·cases h
theorem wpPart_sound (hT : TabOK P ti) {t : TypeId} {cs : List AV} {off : Nat} {k : AV -> Prop} (h : wpPart ti t cs off k) {vs : Array Value} (hl : vs.size = cs.length)
  (hr : ∀ k c, cs[k]? = some c -> Rd P H m S w c (vs.getD k undef) /\ (vs.getD k undef).oneCell' = true) :
  ∃ av v, k av /\ Rd P H m S w av v /\ ∀ w' : World, (part t vs off).run P w' = .ok v w' := by
 unfold wpPart at h
 split at h
 ·rename_i i hti
  obtain ⟨av, v, h1, h2, h3⟩ := takeV_sound h (Nat.le_of_eq hl.symm) hr
  exact ⟨av, v, h1, h2, fun w' => run_part_of (hT.ok _ _ hti) h3 w'⟩
 ·cases h
theorem Rd.cells {x : AV} {v : Value} (h : Rd P H m S w x v) (hx : (∃ cs, x = .agg cs) \/ (∃ cs, x = .p (.agg cs)) \/ x.one = true) :
  v.cells.size = x.cells.length /\ ∀ k c, x.cells[k]? = some c -> Rd P H m S w c (v.cells.getD k undef) /\ (v.cells.getD k undef).oneCell' = true := by
 have one : ∀ {x : AV} {v : Value}, Rd P H m S w x v -> v.oneCell' = true -> x.cells = [x] -> v.cells = #[v] ->
   v.cells.size = x.cells.length /\ ∀ k c, x.cells[k]? = some c -> Rd P H m S w c (v.cells.getD k undef) /\ (v.cells.getD k undef).oneCell' = true := by
  intro x v h ho hx hv
  rw [hx, hv]
  refine ⟨rfl, fun k c hk => ?_⟩
  cases k with
  | zero => simp at hk; subst hk; exact ⟨h, ho⟩
  | succ k => simp at hk
 rcases hx with ⟨cs, rfl⟩ | ⟨cs, rfl⟩ | hx
 ·cases h with
  | agg _ vs hl ho hr => exact ⟨hl, fun k c hk => ⟨hr k c hk, ho k c hk⟩⟩
 ·cases h with
  | p _ _ h => cases h with
   | agg _ vs hl ho hr =>
    refine ⟨by rw [AV.cells, List.length_map]; exact hl, fun k c hk => ?_⟩
    simp only [AV.cells, List.getElem?_map, Option.map_eq_some_iff] at hk
    obtain ⟨c', hc', rfl⟩ := hk
    exact ⟨.p _ _ (hr k c' hc'), ho k c' hc'⟩
 ·cases h <;> try (simp [AV.one] at hx; done)
  case p y h =>
   cases y <;> try (simp [AV.one] at hx; done)
   case v u =>
    cases h with
    | v _ ho => exact one (.p _ _ (.v _ ho)) ho rfl (by cases v <;> first | rfl | (simp [Value.oneCell'] at ho))
   case list nl xs =>
    have h' : Rd P H m S w (.p (.list nl xs)) v := .p _ _ h
    obtain ⟨a, c, rfl, _⟩ := h'.listNil
    exact one h' rfl rfl rfl
  case ptr id off a hid h => exact one (.ptr _ _ _ hid h) rfl rfl rfl
  case buf id a l c hid h => exact one (.buf _ _ _ _ hid h) rfl rfl rfl
  case sub id lo hi a l c hid h h2 => exact one (.sub _ _ _ _ _ _ hid h h2) rfl rfl rfl
  case bptr id ix off a hid h => exact one (.bptr _ _ _ _ hid h) rfl rfl rfl
  case rptr cs a us hS hu hr => exact one (.rptr _ _ us hS hu hr) rfl rfl rfl
  case clo fn caps vs hl hr => exact one (.clo _ _ _ hl hr) rfl rfl rfl
  case mp id b hid h => exact one (.mp _ _ hid h) rfl rfl rfl
  case lptr id off a hid h => exact one (.lptr _ _ _ hid h) rfl rfl rfl
  case wptr id ix off a hid h => exact one (.wptr _ _ _ _ hid h) rfl rfl rfl
  case opq h => exact one (.opq _ h) h rfl (by cases v <;> first | rfl | cases h)
theorem aggAV {cs : List AV} {v : Value} (h : Rd P H m S w (.agg cs) v) : ∃ vs, v = .agg vs /\ vs.size = cs.length /\ ∀ k c, cs[k]? = some c -> Rd P H m S w c (vs.getD k undef) /\ (vs.getD k undef).oneCell' = true := by
 cases h with | agg _ vs hl ho hr => exact ⟨vs, rfl, hl, fun k c hk => ⟨hr k c hk, ho k c hk⟩⟩
theorem aggPV {cs : List PV} {v : Value} (h : Rd P H m S w (.p (.agg cs)) v) : ∃ vs, v = .agg vs /\ vs.size = (cs.map AV.p).length /\ ∀ k c, (cs.map AV.p)[k]? = some c -> Rd P H m S w c (vs.getD k undef) /\ (vs.getD k undef).oneCell' = true := by
 cases h with
 | p _ _ h => cases h with
  | agg _ vs hl ho hr =>
   refine ⟨vs, rfl, by simpa using hl, fun k c hk => ?_⟩
   simp only [List.getElem?_map, Option.map_eq_some_iff] at hk
   obtain ⟨c', hc', rfl⟩ := hk
   exact ⟨.p _ _ (hr k c' hc'), ho k c' hc'⟩
theorem wpField_sound (hT : TabOK P ti) {s : TypeId} {x : AV} {f : Nat} {vx : Value} {k : AV -> Prop} (h : wpField ti s x f k) (hx : Rd P H m S w x vx) :
  ∃ av v, k av /\ Rd P H m S w av v /\ ∀ w' : World, (Instr.field s vx f).run P w' = .ok v w' := by
 unfold wpField at h
 split at h
 ·rename_i fs s1 b1 z1 hti
  obtain ⟨F, hu, rfl⟩ := struct_of (hT.ok _ _ hti) rfl
  split at h
  ·rename_i ft off hf
   simp only [List.getElem?_map, Option.map_eq_some_iff] at hf
   obtain ⟨fd, hfd, he⟩ := hf
   injection he with h1 h2
   subst h1; subst h2
   have hfd' : F[f]? = some fd := by simpa using hfd
   split at h
   ·rename_i cs
    obtain ⟨vs, rfl, hl, hr⟩ := aggAV hx
    obtain ⟨av, v, h1, h2, h3⟩ := wpPart_sound hT h hl hr
    exact ⟨av, v, h1, h2, fun w' => by simp [Instr.field, run_underlying hu, hfd', asAgg, h3 w']⟩
   ·rename_i cs
    obtain ⟨vs, rfl, hl, hr⟩ := aggPV hx
    obtain ⟨av, v, h1, h2, h3⟩ := wpPart_sound hT h hl hr
    exact ⟨av, v, h1, h2, fun w' => by simp [Instr.field, run_underlying hu, hfd', asAgg, h3 w']⟩
   ·cases h
  ·cases h
 ·cases h
theorem allP_map : ∀ (ps : List PV), allP (ps.map AV.p) = some ps
 | [] => rfl
 | p :: ps => by simp [allP, allP_map ps]
theorem arrP_take {ie : TI} {cs : List PV} {i : Int} {k : AV -> Prop} (h : arrP ie cs i k) : takeV ie (cs.map .p) (i.toNat * ie.size) k := by
 unfold arrP at h
 split at h
 ·rename_i h1 h2
  obtain ⟨y, h0, hy, hk⟩ := h
  have h3 := Nat.eq_of_beq_eq_true h2
  unfold takeV
  rw [h1, h3, Nat.mul_one]
  simp [hy, hk]
 ·rename_i h1
  obtain ⟨zs, h2, h3, hk⟩ := h
  have h4 : ((cs.map AV.p).drop (i.toNat * ie.size)).take ie.size = zs.map AV.p := by rw [<- h2, List.map_take, List.map_drop]
  unfold takeV
  rw [h1, List.length_map, h3, h4]
  simp only [mkAgg, allP_map]
  exact hk
 ·exact h
theorem wpIndex_sound (hT : TabOK P ti) {t : TypeId} {x y : AV} {vx vy : Value} {k : AV -> Prop} (h : wpIndex ti t x y k) (hx : Rd P H m S w x vx) (hy : Rd P H m S w y vy) :
  ∃ av v, k av /\ Rd P H m S w av v /\ ∀ w' : World, (Instr.index t vx vy).run P w' = .ok v w' := by
 unfold wpIndex at h
 split at h
 ·rename_i kd i
  obtain ⟨rfl, _⟩ := hy.pv
  split at h
  ·rename_i n e s1 b1 z1 hti
   have hu := array_of (hT.ok _ _ hti) rfl
   split at h
   ·rename_i ie hie
    have hie' := hT.ok _ _ hie
    obtain ⟨inf, hinf, hs⟩ := size_of hie'
    have fin : ∀ {cs : List AV} {vs : Array Value}, vs.size = cs.length -> (∀ k c, cs[k]? = some c -> Rd P H m S w c (vs.getD k undef) /\ (vs.getD k undef).oneCell' = true) ->
      ((0 <= i /\ i < n) /\ takeV ie cs (i.toNat * ie.size) k) -> ∃ av v, k av /\ Rd P H m S w av v /\ ∀ w' : World, (Instr.index t (.agg vs) (.int kd i)).run P w' = .ok v w' := by
     intro cs vs hl hr ⟨⟨h0, h1⟩, hk⟩
     obtain ⟨av, v, h2, h3, h4⟩ := takeV_sound hk (Nat.le_of_eq hl.symm) hr
     exact ⟨av, v, h2, h3, fun w' => by simp [Instr.index, asIntOf, run_underlying hu, h0, h1, sizeOf, typeInfo, hinf, hs, run_part_of hie' h4 w']⟩
    split at h
    ·obtain ⟨vs, rfl, hl, hr⟩ := aggAV hx
     exact fin hl hr h
    ·obtain ⟨vs, rfl, hl, hr⟩ := aggPV hx
     exact fin hl hr ⟨h.1, arrP_take h.2⟩
    ·cases h
   ·cases h
  ·rename_i s1 b1 z1 hti
   have hu := str_of (hT.ok _ _ hti) rfl
   split at h
   ·rename_i s
    obtain ⟨rfl, _⟩ := hx.pv
    obtain ⟨b, h0, hb, hk⟩ := h
    exact ⟨_, _, hk, Rd.mk rfl, fun w' => by simp [Instr.index, asIntOf, run_underlying hu, h0, hb]⟩
   ·cases h
  ·cases h
 ·cases h
end
end Go.Abs
namespace Go.Abs
open Go.RowKit
section
variable {P : Program} {ti : TypeId -> Option TI} {H : AH} {m : Nat -> Value} {S : Nat -> Prop} {w : World}
theorem run_sliceBound {x : Value} {kd : IntKind} {i : Int} (hx : x = .int kd i) {y : Nat} (h0 : 0 <= i) (h1 : i <= y) (code : BoundsCode) (w' : World) : (Instr.sliceBound x y code).run P w' = .ok i.toNat w' := by
 subst hx
 simp [Instr.sliceBound, asIntOf, h0, h1]
theorem asI_eq {x : AV} {i : Int} (h : asI x = some i) {v : Value} (hx : Rd P H m S w x v) : ∃ kd, v = .int kd i := by
 unfold asI at h
 split at h
 ·injection h with h
  subst h
  exact ⟨_, hx.pv.1⟩
 ·cases h
inductive Bd (P : Program) (len cap : Nat) (l h : Int) (lo hi : Option Value) : Prop
 | mk (hr : ∀ (w' : World), (Instr.sliceBounds true len cap lo hi none).run P w' = .ok (l.toNat, h.toNat, cap) w') (hr' : ∀ (w' : World), len = cap -> (Instr.sliceBounds false len cap lo hi none).run P w' = .ok (l.toNat, h.toNat, cap) w') : Bd P len cap l h lo hi
theorem bd_of {len cap : Nat} {l : Int} {ho : Option Int} {lo hi : Option Value} (hlo : lo = none /\ l = 0 \/ ∃ kd, lo = some (.int kd l)) (hhi : hi = none /\ ho = none \/ ∃ kd h, ho = some h /\ hi = some (.int kd h))
  (hb : 0 <= l /\ l <= ho.getD len /\ ho.getD len <= len) (hc : len <= cap) : Bd P len cap l (ho.getD len) lo hi := by
 obtain ⟨h0, h1, h2⟩ := hb
 have both : ∀ (isS : Bool) (w' : World), (Instr.sliceBounds isS len cap lo hi none).run P w' = .ok (l.toNat, (ho.getD len).toNat, cap) w' := by
  intro isS w'
  rcases hhi with ⟨rfl, rfl⟩ | ⟨kd, h, rfl, rfl⟩
  ·simp only [Option.getD_none] at h1 h2 ⊢
   rcases hlo with ⟨rfl, rfl⟩ | ⟨kd, rfl⟩
   ·simp [Instr.sliceBounds]
   ·have := fun w' => run_sliceBound (P := P) (x := .int kd l) rfl (y := len) h0 h1 .sliceB w'
    simp [Instr.sliceBounds, this]
  ·simp only [Option.getD_some] at h1 h2 ⊢
   have hh := fun w' => run_sliceBound (P := P) (x := .int kd h) rfl (y := cap) (by omega) (by omega) (if isS then .sliceAcap else .sliceAlen) w'
   rcases hlo with ⟨rfl, rfl⟩ | ⟨kd', rfl⟩
   ·simp [Instr.sliceBounds, hh]
   ·have := fun w' => run_sliceBound (P := P) (x := .int kd' l) rfl (y := h.toNat) h0 (by omega) .sliceB w'
    simp [Instr.sliceBounds, hh, this]
 exact ⟨both true, fun w' _ => both false w'⟩
theorem run_cut_slice {t e : TypeId} {inf : TypeInfo} (hu : P.underlying t = some (.slice e)) (hinf : P.info? e = some inf) {a : Option Addr} {len cap : Nat} {l h : Int} {lo hi : Option Value} (hb : Bd P len cap l h lo hi) (w' : World) :
  (Instr.sliceAt t (.slice a len cap) lo hi none).run P w' = .ok (.slice (if cap = l.toNat then a else a.map (·.add (l.toNat * inf.size))) (h.toNat - l.toNat) (cap - l.toNat)) w' := by
 obtain ⟨hr, _⟩ := hb
 simp [Instr.sliceAt, run_underlying hu, Instr.slice, hr w', sizeOf, typeInfo, hinf]
theorem run_cap3 {t e : TypeId} {inf : TypeInfo} (hu : P.underlying t = some (.slice e)) (hinf : P.info? e = some inf) {a : Option Addr} {len cap : Nat} {h : Int} {k1 k2 : IntKind} (h0 : 0 <= h) (h1 : h <= cap) (w' : World) :
  (Instr.sliceAt t (.slice a len cap) none (some (.int k1 h)) (some (.int k2 h))).run P w' = .ok (.slice a h.toNat h.toNat) w' := by
 have g1 := run_sliceBound (P := P) (x := .int k2 h) rfl (y := cap) h0 h1 .slice3Acap w'
 have g2 := run_sliceBound (P := P) (x := .int k1 h) rfl (y := h.toNat) h0 (by omega) .slice3B w'
 simp [Instr.sliceAt, run_underlying hu, Instr.slice, Instr.sliceBounds, g1, g2, sizeOf, typeInfo, hinf]
 intro _
 cases a <;> simp [Addr.add]
theorem RdP.take3 {nl : Bool} {xs : List PV} {a : Option Addr} {n c : Nat} (h : RdP S w (.list nl xs) (.slice a n c)) {hh : Nat} (h2 : hh <= xs.length) : RdP S w (.list nl (xs.take hh)) (.slice a hh hh) := by
 cases h with
 | nil =>
  simp at h2
  subst h2
  exact .nil
 | list _ ad cap sz us hS hc hm hz hu hr =>
  have hlen : (xs.take hh).length = hh := by rw [List.length_take]; omega
  have hfl : ∀ (k : Nat) (c : PV), (flat (xs.take hh))[k]? = some c -> (flat xs)[k]? = some c := by
   intro k c hk
   have e1 : flat xs = flat (xs.take hh) ++ flat (xs.drop hh) := by unfold flat; rw [<- List.flatMap_append, List.take_append_drop]
   rw [e1, List.getElem?_append_left (List.getElem?_eq_some_iff.1 hk).1]
   exact hk
  have := RdP.list (S := S) (w := w) (xs.take hh) ad hh sz us (fun h => hS (by rintro rfl; simp at h)) (by omega) (by omega) (fun x hx => hz x (List.mem_of_mem_take hx)) (fun k c (hk : (flat (xs.take hh))[k]? = some c) => hu k c (hfl k c hk)) (fun k c (hk : (flat (xs.take hh))[k]? = some c) => hr k c (hfl k c hk))
  rwa [hlen] at this
theorem RdP.cut {nl : Bool} {xs : List PV} {a : Option Addr} {n c : Nat} {e : TypeId} {inf : TypeInfo} (h : RdP S w (.list nl xs) (.slice a n c)) {l hh : Nat} (h1 : l <= hh) (h2 : hh <= xs.length) (he : ∀ x ∈ xs, x.cells.length = inf.size) (_hinf : P.info? e = some inf) :
  RdP S w (.list nl ((xs.take hh).drop l)) (.slice (if c = l then a else a.map (·.add (l * inf.size))) (hh - l) (c - l)) := by
 cases h with
 | nil =>
  simp at h2
  subst h2
  obtain rfl : l = 0 := by omega
  simp
  exact .nil
 | list _ ad cap sz us hS hc hm hz hu hr =>
  have hlen : ((xs.take hh).drop l).length = hh - l := by rw [List.length_drop, List.length_take]; omega
  have hmem : ∀ x ∈ (xs.take hh).drop l, x ∈ xs := fun x hx => List.mem_of_mem_take (List.mem_of_mem_drop hx)
  have hfl : ∀ k c, (flat ((xs.take hh).drop l))[k]? = some c -> (flat xs)[l * inf.size + k]? = some c := by
   intro k c hk
   have e1 : flat xs = flat ((xs.take hh).take l) ++ (flat ((xs.take hh).drop l) ++ flat (xs.drop hh)) := by
    unfold flat
    rw [<- List.flatMap_append, <- List.flatMap_append, <- List.append_assoc, List.take_append_drop, List.take_append_drop]
   have e2 : (flat ((xs.take hh).take l)).length = l * inf.size := by
    rw [flat_length (sz := inf.size) (fun x hx => he x (List.mem_of_mem_take (List.mem_of_mem_take hx))), List.length_take, List.length_take]
    congr 1
    omega
   rw [e1, List.getElem?_append_right (by omega), e2, Nat.add_sub_cancel_left, List.getElem?_append_left (List.getElem?_eq_some_iff.1 hk).1]
   exact hk
  have hsome : (if c = l then some ad else (some ad).map (·.add (l * inf.size))) = some (if c = l then ad else ad.add (l * inf.size)) := by split <;> rfl
  rw [hsome, <- hlen]
  by_cases h0 : hh - l = 0
  ·have hnil : (xs.take hh).drop l = [] := List.eq_nil_of_length_eq_zero (by omega)
   rw [hnil]
   refine .list [] _ _ inf.size us (fun h => absurd rfl h) (by simp) (by omega) (by simp) (by simp [flat]) (by simp [flat])
  ·rw [if_neg (by omega)]
   refine .list _ _ _ inf.size (fun k => us (l * inf.size + k)) (by rw [add_block]; exact fun _ => hS (by rintro rfl; simp at hlen; omega)) (by omega) (by omega) (fun x hx => he x (hmem x hx)) (fun k c hk => ?_) (fun k c hk => hr _ c (hfl k c hk))
   rw [add_add]
   exact hu _ c (hfl k c hk)
theorem RdP.cut2 {nl : Bool} {xs : List PV} {a a0 : Option Addr} {n c0 : Nat} {e : TypeId} {inf : TypeInfo} (h : RdP S w (.list nl xs) (.slice a0 n c0)) {l hh : Nat} (h1 : l <= hh) (h2 : hh <= xs.length) (he : ∀ x ∈ xs, x.cells.length = inf.size) (hinf : P.info? e = some inf)
  (hn : a = none ↔ a0 = none) (ha : c0 ≠ l -> a = a0.map (·.add (l * inf.size))) : RdP S w (.list nl ((xs.take hh).drop l)) (.slice a (hh - l) (c0 - l)) := by
 have hc := h.cut h1 h2 he hinf
 by_cases hcl : c0 = l
 ·rw [if_pos hcl] at hc
  cases h with
  | nil =>
   obtain rfl := hn.2 rfl
   exact hc
  | list _ a' cap sz us hS hcc hm hz hu hr =>
   have hlen : hh = l := by omega
   subst hlen
   have hnil : (xs.take hh).drop hh = [] := by simp
   rw [hnil, Nat.sub_self, hcl, Nat.sub_self]
   cases a with
   | none => exact absurd (hn.1 rfl) (by simp)
   | some b => exact .list [] b 0 0 (fun _ => undef) (fun h => absurd rfl h) (Nat.zero_le _) (Nat.zero_le _) (by simp) (by simp [flat]) (by simp [flat])
 ·rw [if_neg hcl] at hc
  rw [ha hcl]
  exact hc
theorem wpCut_sound (hT : TabOK P ti) (hp : Hp P H m S w) {t : TypeId} {x : AV} {vx : Value} {l : Int} {ho : Option Int} {lo hi : Option Value} {k : AV -> Prop} (h : wpCut ti H t x l ho k) (hx : Rd P H m S w x vx)
  (hlo : lo = none /\ l = 0 \/ ∃ kd, lo = some (.int kd l)) (hhi : hi = none /\ ho = none \/ ∃ kd h, ho = some h /\ hi = some (.int kd h)) :
  ∃ av v, k av /\ Rd P H m S w av v /\ ∀ w' : World, (Instr.sliceAt t vx lo hi none).run P w' = .ok v w' := by
 unfold wpCut at h
 split at h
 ·rename_i e s1 b1 z1 hti
  have hu := slice_of (hT.ok _ _ hti) rfl
  split at h
  ·rename_i ie hie
   obtain ⟨inf, hinf, hs⟩ := size_of (hT.ok _ _ hie)
   have lst : ∀ {nl : Bool} {xs : List PV} {v : Value}, RdP S w (.list nl xs) v -> SzA xs ie.size (CutA xs l ho fun ys => k (.p (.list nl ys))) ->
     ∃ av v', k av /\ Rd P H m S w av v' /\ ∀ w' : World, (Instr.sliceAt t v lo hi none).run P w' = .ok v' w' := by
    intro nl xs v hr ⟨he, _, hb, rfl, hk⟩
    obtain ⟨a, c, rfl, _, hlc, _⟩ := Rd.listNil (P := P) (H := H) (m := m) (.p _ _ hr)
    have hbd := bd_of (P := P) hlo hhi hb hlc
    refine ⟨_, _, hk, .p _ _ (hr.cut (by omega) (by omega) (by rw [hs]; exact he) hinf), fun w' => run_cut_slice hu hinf hbd w'⟩
   split at h
   ·cases hx with | p _ _ hr => exact lst hr h
   ·rename_i id
    split at h
    ·rename_i e' nl xs hH
     split at h
     ·rename_i hbe
      obtain rfl := Nat.eq_of_beq_eq_true hbe
      obtain ⟨hb, hk⟩ := h
      have hv := hx.bufAt hH
      obtain ⟨a, c, hm, _, hlc, _⟩ := buf_form hp hH
      rw [hm] at hv
      subst hv
      have hbd := bd_of (P := P) hlo hhi hb hlc
      have hid : id < H.length := (List.getElem?_eq_some_iff.1 hH).1
      refine ⟨_, _, hk, .sub _ _ _ _ _ _ hid (fun e2 nl2 xs2 hl2 => ?_) (fun _ _ _ he => by rw [hm] at he; cases he), fun w' => run_cut_slice hu hinf hbd w'⟩
      unfold live at hl2
      rw [hH] at hl2
      injection hl2 with hl2; injection hl2 with hl2; injection hl2 with he _ hxs
      subst he; subst hxs
      exact ⟨inf, a, _, c, hinf, hm, by omega, by omega, rfl, rfl, by split <;> simp, fun h => if_neg h⟩
     ·cases h
    ·rename_i nl xs hH
     have hv := hx.bufAt hH
     subst hv
     exact lst (hp.obj id _ hH) h
    ·cases h
   ·rename_i id slo shi
    split at h
    ·rename_i e' nl xs hH
     split at h
     ·rename_i hbe
      obtain rfl := Nat.eq_of_beq_eq_true hbe
      obtain ⟨hb, hk⟩ := h
      cases hx with
      | sub _ _ _ a sl sc hid hs _ =>
       obtain ⟨inf2, a0, l0, c0, hinf2, hm, hslo, hshi, rfl, rfl, hnn, hat⟩ := hs _ nl xs hH
       rw [hinf] at hinf2
       injection hinf2 with hinf2
       subst hinf2
       obtain ⟨a1, c1, hm1, _, hlc, _⟩ := buf_form hp hH
       rw [hm] at hm1
       injection hm1 with e1 e2 e3
       subst e1; subst e2; subst e3
       have hbd := bd_of (P := P) (cap := c0 - slo) hlo hhi hb (by omega)
       refine ⟨_, _, hk, .sub _ _ _ _ _ _ hid (fun e2 nl2 xs2 hl2 => ?_) (fun _ _ _ he => by rw [hm] at he; cases he), fun w' => run_cut_slice hu hinf hbd w'⟩
       unfold live at hl2
       rw [hH] at hl2
       injection hl2 with hl2; injection hl2 with hl2; injection hl2 with he _ hxs
       subst he; subst hxs
       refine ⟨inf, a0, _, c0, hinf, hm, by omega, by omega, by omega, by omega, ?_, fun h => ?_⟩
       ·split
        ·exact hnn
        ·rw [<- hnn]; simp
       ·rw [if_neg (by omega), hat (by omega)]
        cases a0 with
        | none => rfl
        | some x =>
         show some ((x.add (slo * inf.size)).add (l.toNat * inf.size)) = some (x.add ((slo + l.toNat) * inf.size))
         rw [add_add, Nat.add_mul]
     ·cases h
    ·cases h
   ·cases h
  ·cases h
 ·rename_i s1 b1 z1 hti
  have hu := str_of (hT.ok _ _ hti) rfl
  split at h
  ·rename_i s
   obtain ⟨rfl, _⟩ := hx.pv
   obtain ⟨hb, hk⟩ := h
   have hbd := bd_of (P := P) hlo hhi hb (Nat.le_refl _)
   obtain ⟨_, hr⟩ := hbd
   exact ⟨_, _, hk, Rd.mk rfl, fun w' => by simp [Instr.sliceAt, run_underlying hu, Instr.slice, hr w' rfl]⟩
  ·cases h
 ·cases h
theorem wpSlice_sound (hT : TabOK P ti) (hp : Hp P H m S w) {t : TypeId} {x : AV} {vx : Value} {lo hi mx : Option AV} {vlo vhi vmx : Option Value} {k : AV -> Prop} (h : wpSlice ti H t x lo hi mx k) (hx : Rd P H m S w x vx)
  (h1 : lo = none /\ vlo = none \/ ∃ a v, lo = some a /\ vlo = some v /\ Rd P H m S w a v) (h2 : hi = none /\ vhi = none \/ ∃ a v, hi = some a /\ vhi = some v /\ Rd P H m S w a v) (h3 : mx = none -> vmx = none) :
  ∃ av v, k av /\ Rd P H m S w av v /\ ∀ w' : World, (Instr.sliceAt t vx vlo vhi vmx).run P w' = .ok v w' := by
 unfold wpSlice at h
 split at h
 ·rcases h1 with ⟨_, rfl⟩ | ⟨a, v, e, _⟩
  case inr => cases e
  rcases h2 with ⟨_, rfl⟩ | ⟨a, v, e, _⟩
  case inr => cases e
  rw [h3 rfl]
  exact wpCut_sound hT hp h hx (.inl ⟨rfl, rfl⟩) (.inl ⟨rfl, rfl⟩)
 ·rcases h1 with ⟨e, _⟩ | ⟨a, v, e, rfl, ha⟩
  ·cases e
  cases e
  rcases h2 with ⟨_, rfl⟩ | ⟨a, v, e, _⟩
  case inr => cases e
  split at h
  ·rename_i l hl
   rw [h3 rfl]
   obtain ⟨kd, rfl⟩ := asI_eq hl ha
   exact wpCut_sound hT hp h hx (.inr ⟨kd, rfl⟩) (.inl ⟨rfl, rfl⟩)
  ·cases h
 ·rcases h1 with ⟨_, rfl⟩ | ⟨a, v, e, _⟩
  case inr => cases e
  rcases h2 with ⟨e, _⟩ | ⟨a, v, e, rfl, ha⟩
  ·cases e
  cases e
  split at h
  ·rename_i l hl
   rw [h3 rfl]
   obtain ⟨kd, rfl⟩ := asI_eq hl ha
   exact wpCut_sound hT hp h hx (.inl ⟨rfl, rfl⟩) (.inr ⟨kd, _, rfl, rfl⟩)
  ·cases h
 ·rcases h1 with ⟨e, _⟩ | ⟨a, v, e, rfl, ha⟩
  ·cases e
  cases e
  rcases h2 with ⟨e, _⟩ | ⟨a', v', e, rfl, ha'⟩
  ·cases e
  cases e
  split at h
  ·rename_i l hh hl hl'
   rw [h3 rfl]
   obtain ⟨kd, rfl⟩ := asI_eq hl ha
   obtain ⟨kd', rfl⟩ := asI_eq hl' ha'
   exact wpCut_sound hT hp h hx (.inr ⟨kd, rfl⟩) (.inr ⟨kd', _, rfl, rfl⟩)
  ·cases h
 ·cases h
theorem wpConv_sound (hT : TabOK P ti) {src dst : TypeId} {x : AV} {vx : Value} {k : AV -> Prop} (h : wpConv ti src dst x k) (hx : Rd P H m S w x vx) :
  ∃ av v, k av /\ Rd P H m S w av v /\ ∀ w' : World, (convert src dst vx).run P w' = .ok v w' := by
 unfold wpConv at h
 split at h
 ·rename_i h1 h2
  have hu1 := int_of (hT.ok _ _ h1) rfl
  have hu2 := int_of (hT.ok _ _ h2) rfl
  obtain ⟨rfl, _⟩ := hx.pv
  obtain ⟨n', hn, hk⟩ := h
  exact ⟨_, _, hk, Rd.mk rfl, fun w' => by simp [convert, run_underlying hu1, run_underlying hu2, Conv.intToInt, hn]⟩
 ·rename_i h1 h2
  have hu1 := str_of (hT.ok _ _ h1) rfl
  have hu2 := str_of (hT.ok _ _ h2) rfl
  obtain ⟨rfl, _⟩ := hx.pv
  exact ⟨_, _, h, Rd.mk rfl, fun w' => by simp [convert, run_underlying hu1, run_underlying hu2]⟩
 ·cases h
theorem wpUn_sound {op : UnOp} {x : AV} {vx : Value} {k : AV -> Prop} (h : wpUn op x k) (hx : Rd P H m S w x vx) :
  ∃ av v, k av /\ Rd P H m S w av v /\ ∀ w' : World, (Op.unary op vx).run P w' = .ok v w' := by
 unfold wpUn at h
 split at h
 ·obtain ⟨rfl, _⟩ := hx.pv
  exact ⟨_, _, h, Rd.mk rfl, fun w' => by simp [Op.unary]⟩
 ·obtain ⟨rfl, _⟩ := hx.pv
  obtain ⟨n', hn, hk⟩ := h
  exact ⟨_, _, hk, Rd.mk rfl, fun w' => by simp only [Op.unary, Op.intArith]; rw [hn]; rfl⟩
 ·cases h
end
end Go.Abs
namespace Go.Abs
open Go.RowKit
section
variable {P : Program} {ti : TypeId -> Option TI} {H : AH} {m : Nat -> Value} {S : Nat -> Prop} {w : World}
def RdL (P : Program) (H : AH) (m : Nat -> Value) (S : Nat -> Prop) (w : World) (cs : List AV) (vs : Array Value) : Prop :=
 vs.size = cs.length /\ ∀ k c, cs[k]? = some c -> Rd P H m S w c (vs.getD k undef) /\ (vs.getD k undef).oneCell' = true
theorem RdL.set {cs : List AV} {vs : Array Value} (h : RdL P H m S w cs vs) {i : Nat} {c : AV} {v : Value} (hc : Rd P H m S w c v) (ho : v.oneCell' = true) : RdL P H m S w (cs.set i c) (vs.setIfInBounds i v) := by
 refine ⟨by simp [h.1], fun k d hk => ?_⟩
 rw [List.getElem?_set] at hk
 by_cases hik : i = k
 ·subst hik
  simp at hk
  obtain ⟨hlt, rfl⟩ := hk
  have hlt' : i < vs.size := by rw [h.1]; exact hlt
  have : (vs.setIfInBounds i v).getD i undef = v := by simp [Array.getD_eq_getD_getElem?, hlt']
  rw [this]
  exact ⟨hc, ho⟩
 ·rw [if_neg hik] at hk
  have : (vs.setIfInBounds i v).getD k undef = vs.getD k undef := by simp [Array.getD_eq_getD_getElem?, hik]
  rw [this]
  exact h.2 k d hk
theorem RdL.setAt (off : Nat) : ∀ (l : List Value) (xs : List AV) (n : Nat) (cs : List AV) (vs : Array Value), RdL P H m S w cs vs -> l.length = xs.length ->
  (∀ k c, xs[k]? = some c -> Rd P H m S w c (l.getD k undef) /\ (l.getD k undef).oneCell' = true) ->
  RdL P H m S w (Abs.setAt cs (off + n) xs) ((l.zipIdx n).foldl (fun cs (p : Value × Nat) => cs.setIfInBounds (off + p.2) p.1) vs)
 | [], xs, n, cs, vs, h, hl, _ => by
  have : xs = [] := List.eq_nil_of_length_eq_zero (by simpa using hl.symm)
  subst this
  simpa [Abs.setAt] using h
 | v :: l, [], n, cs, vs, _, hl, _ => by simp at hl
 | v :: l, x :: xs, n, cs, vs, h, hl, hr => by
  have h0 := hr 0 x rfl
  simp only [List.zipIdx_cons, List.foldl_cons, Abs.setAt]
  rw [Nat.add_assoc]
  refine RdL.setAt off l xs (n + 1) _ _ (h.set (by simpa using h0.1) (by simpa using h0.2)) (by simpa using hl) fun k c hk => ?_
  simpa using hr (k + 1) c (by simpa using hk)
theorem foldl_zipIdx (off : Nat) (cs : Array Value) (vs : Array Value) :
  cs.zipIdx.foldl (fun cs (c, j) => cs.setIfInBounds (off + j) c) vs = (cs.toList.zipIdx 0).foldl (fun cs (p : Value × Nat) => cs.setIfInBounds (off + p.2) p.1) vs := by
 rw [<- Array.foldl_toList, Array.toList_zipIdx]
theorem one_or {x : AV} (h : x.cells.all AV.one = true) : (∃ cs, x = .agg cs) \/ (∃ cs, x = .p (.agg cs)) \/ x.one = true := by
 cases x <;> try (exact .inr (.inr (by simpa [AV.cells] using h)))
 case agg cs => exact .inl ⟨cs, rfl⟩
 case p y =>
  cases y <;> try (exact .inr (.inr (by simpa [AV.cells] using h)))
  case agg cs => exact .inr (.inl ⟨cs, rfl⟩)
theorem fill_sound (place : Nat -> Option (Nat × Nat)) : ∀ (parts : List (Nat × AV)) (vparts : List (Nat × Value)) (cells cs : List AV) (vs : Array Value), fillA place cells parts = some cs -> RdL P H m S w cells vs ->
  vparts.map (·.1) = parts.map (·.1) -> (∀ (k : Nat) (p : Nat × AV), parts[k]? = some p -> ∃ v, vparts[k]? = some (p.1, v) /\ Rd P H m S w p.2 v) -> ∃ vs', Instr.fill place vs vparts = some vs' /\ RdL P H m S w cs vs'
 | [], vparts, cells, cs, vs, h, hr, hm, _ => by
  have : vparts = [] := by simpa using hm
  subst this
  simp [fillA] at h
  subst h
  exact ⟨vs, rfl, hr⟩
 | (i, x) :: parts, [], cells, cs, vs, _, _, hm, _ => by simp at hm
 | (i, x) :: parts, (j, v) :: vparts, cells, cs, vs, h, hr, hm, hp => by
  simp only [List.map_cons, List.cons.injEq] at hm
  obtain ⟨rfl, hm⟩ := hm
  obtain ⟨v', h1, hv⟩ := hp 0 (j, x) rfl
  simp only [List.getElem?_cons_zero, Option.some.injEq, Prod.mk.injEq, true_and] at h1
  subst h1
  unfold fillA at h
  split at h
  ·cases h
  ·rename_i off size hpl
   split at h
   ·rename_i hc
    simp only [Bool.and_eq_true] at hc
    obtain ⟨⟨hc1, hc2⟩, hc3⟩ := hc
    have hc1 := Nat.eq_of_beq_eq_true hc1
    have hc2 := Nat.le_of_ble_eq_true hc2
    obtain ⟨hs, hcell⟩ := hv.cells (one_or hc3)
    have hstep := RdL.setAt (P := P) (H := H) (m := m) (S := S) (w := w) off v.cells.toList x.cells 0 cells vs hr (by simpa using hs) (fun k c hk => by
     have := hcell k c hk
     have e : v.cells.toList.getD k undef = v.cells.getD k undef := by simp [Array.getD_eq_getD_getElem?]
     rw [e]; exact this)
    rw [Nat.add_zero, <- foldl_zipIdx] at hstep
    obtain ⟨vs', h2, h3⟩ := fill_sound place parts vparts _ cs _ h hstep hm (fun k p hk => hp (k + 1) p (by simpa using hk))
    refine ⟨vs', ?_, h3⟩
    unfold Instr.fill
    simp only [hpl]
    rw [if_neg]
    ·exact h2
    ·simp only [Bool.or_eq_true, decide_eq_true_eq, not_or]
     rw [hr.1, hs, hc1]
     simp
     omega
   ·cases h
theorem zero_rdl {t : TypeId} {i : TI} (hi : tiOf P t = some i) : RdL P H m S w (zeroCells i) i.zero.cells := by
 obtain ⟨inf, d, _, _, _, _, _, _, _, h1⟩ := tiOf_spec hi
 refine ⟨by simp [zeroCells], fun k c hk => ?_⟩
 simp only [zeroCells, List.getElem?_map, Option.map_eq_some_iff] at hk
 obtain ⟨c', hc', rfl⟩ := hk
 have hm : c' ∈ i.zero.cells := by
  have := (List.getElem?_eq_some_iff.1 hc')
  obtain ⟨hlt, rfl⟩ := this
  simp
 have ho := h1 c' hm
 have he : i.zero.cells.getD k undef = c' := by
  simp only [Array.getElem?_toList] at hc'
  simp [Array.getD_eq_getD_getElem?, hc']
 rw [he]
 refine ⟨.p _ _ ?_, ho⟩
 unfold ofCell
 split
 ·exact .nil
 ·exact .v _ ho
theorem placesOf_spec (hT : TabOK P ti) : ∀ (F : List Field) (ps : List (Nat × Nat)), placesOf ti (F.map fun f => (f.type, f.offset)) = some ps -> F.mapM (fun f => (P.info? f.type).map fun i => (f.offset, i.size)) = some ps
 | [], ps, h => by simp [placesOf] at h; subst h; simp
 | f :: F, ps, h => by
  simp only [List.map_cons, placesOf] at h
  split at h
  ·rename_i i l hi hl
   injection h with h
   subst h
   obtain ⟨inf, hinf, hs⟩ := size_of (hT.ok _ _ hi)
   simp [List.mapM_cons, hinf, hs, placesOf_spec hT F l hl]
  ·cases h
theorem wpBuild_sound (hT : TabOK P ti) {t : TypeId} {parts : List (Nat × AV)} {vparts : Array (Nat × Value)} {k : AV -> Prop} (h : wpBuild ti t parts k) (hm : vparts.toList.map (·.1) = parts.map (·.1))
  (hp : ∀ (k : Nat) (p : Nat × AV), parts[k]? = some p -> ∃ v, vparts.toList[k]? = some (p.1, v) /\ Rd P H m S w p.2 v) :
  ∃ av v, k av /\ Rd P H m S w av v /\ ∀ w' : World, (Instr.build t vparts).run P w' = .ok v w' := by
 unfold wpBuild at h
 split at h
 ·rename_i i hti
  have hi := hT.ok _ _ hti
  obtain ⟨inf, d, hinf, hd, hz, hs, _, hk, _⟩ := tiOf_spec hi
  split at h
  ·rename_i fs hfs
   obtain ⟨F, hu, rfl⟩ := struct_of hi hfs
   split at h
   ·rename_i ps hps
    split at h
    ·rename_i cs hcs
     have hpl := placesOf_spec hT _ _ hps
     obtain ⟨vs', h1, h2⟩ := fill_sound (fun j => ps[j]?) parts vparts.toList _ cs _ hcs (zero_rdl hi) hm hp
     refine ⟨_, _, h, Rd.mkAgg h2.1 h2.2, fun w' => run_build w' t vparts vs' ?_⟩
     unfold Program.built
     simp only [hinf, hu, hz, hpl]
     simpa using h1
    ·cases h
   ·cases h
  ·rename_i n e hfs
   have hu := array_of hi hfs
   split at h
   ·rename_i ie hie
    obtain ⟨infe, hinfe, hse⟩ := size_of (hT.ok _ _ hie)
    split at h
    ·rename_i cs hcs
     obtain ⟨vs', h1, h2⟩ := fill_sound (fun j => some (j * ie.size, ie.size)) parts vparts.toList _ cs _ hcs (zero_rdl hi) hm hp
     refine ⟨_, _, h, Rd.mkAgg h2.1 h2.2, fun w' => run_build w' t vparts vs' ?_⟩
     unfold Program.built
     simp only [hinf, hu, hz, hinfe, hse]
     exact h1
    ·cases h
   ·cases h
  ·cases h
 ·cases h
theorem wpMinMax_sound (mx : Bool) : ∀ (r : List AV) (x : AV) (vx : Value) (vr : List Value) (k : AV -> Prop), wpMinMax mx x r k -> Rd P H m S w x vx -> vr.length = r.length -> (∀ j a, r[j]? = some a -> Rd P H m S w a (vr.getD j undef)) ->
  ∃ av v, k av /\ Rd P H m S w av v /\ ∀ w' : World, (vr.foldlM (if mx then Builtin.max2 else Builtin.min2) vx).run P w' = .ok v w'
 | [], x, vx, vr, k, h, hx, hl, _ => by
  have : vr = [] := List.eq_nil_of_length_eq_zero (by simpa using hl)
  subst this
  have h' : k x := by unfold wpMinMax at h; exact h
  exact ⟨x, vx, h', hx, fun w' => by simp⟩
 | y :: r, x, vx, [], k, h, hx, hl, _ => by simp at hl
 | y :: r, x, vx, v :: vr, k, h, hx, hl, hr => by
  unfold wpMinMax at h
  split at h
  ·rename_i h1; cases h1
  ·rename_i h1
   injection h1 with e1 e2
   subst e1; subst e2
   split at h
   ·rename_i hk
    obtain rfl := sameK_eq hk
    obtain ⟨rfl, _⟩ := hx.pv
    have hy := hr 0 _ rfl
    obtain ⟨rfl, _⟩ := Rd.pv (by simpa using hy)
    split at h
    ·obtain ⟨av, v, h2, h3, h4⟩ := wpMinMax_sound true _ _ _ vr _ h (Rd.mk rfl) (by simpa using hl) (fun j a hj => by simpa using hr (j + 1) a (by simpa using hj))
     exact ⟨av, v, h2, h3, fun w' => by simpa [List.foldlM_cons, Builtin.max2] using h4 w'⟩
    ·obtain ⟨av, v, h2, h3, h4⟩ := wpMinMax_sound false _ _ _ vr _ h (Rd.mk rfl) (by simpa using hl) (fun j a hj => by simpa using hr (j + 1) a (by simpa using hj))
     exact ⟨av, v, h2, h3, fun w' => by simpa [List.foldlM_cons, Builtin.min2] using h4 w'⟩
   ·cases h
  ·cases h
end
end Go.Abs
namespace Go.Abs
open Go.RowKit
def HasK (key : Value) (es : List (Value × Value)) : Option Value -> Prop
 | none => ∀ e ∈ es, e.1 ≠ key
 | some v => (∃ e ∈ es, e.1 = key) /\ ∀ e ∈ es, e.1 = key -> e.2 = v
theorem find_spec {d : TypeDesc} {key : Value} (hk : MapKept.IsKey d key) {ents : Array MapEntry} {es : List (Value × Value)} (he : ents.toList.map (fun e => (e.key, e.val)) = es) (hall : ∀ e ∈ es, MapKept.IsKey d e.1) {r : Option Value} (hr : HasK key es r) :
  (r = none /\ Instr.findNow d key ents.toList 0 = some none) \/ ∃ v j, r = some v /\ Instr.findNow d key ents.toList 0 = some (some (j, v)) := by
 have hm : ∀ x ∈ ents.toList, (x.key, x.val) ∈ es := fun x hx => by rw [<- he]; exact List.mem_map_of_mem hx
 rcases MapKept.findNow_spec hk ents.toList 0 (fun x hx => hall _ (hm x hx)) with ⟨h1, h2⟩ | ⟨j, e, h1, h2, h3⟩
 ·cases r with
  | none => exact .inl ⟨rfl, h1⟩
  | some v =>
   obtain ⟨⟨e, hm2, hek⟩, _⟩ := hr
   rw [<- he] at hm2
   obtain ⟨x, hx, rfl⟩ := List.mem_map.1 hm2
   exact absurd hek (h2 x hx)
 ·have hm3 := hm e (List.mem_of_getElem? h2)
  cases r with
  | none => exact absurd h3 (hr _ hm3)
  | some v =>
   have hv : e.val = v := hr.2 _ hm3 h3
   exact .inr ⟨v, _, rfl, by rw [h1, hv]⟩
theorem run_lookup_map {P : Program} {w : World} {t kt et : TypeId} {d : TypeDesc} {b c : Nat} {ents : Array MapEntry} {es : List (Value × Value)} {key z : Value} {r : Option Value} (ht : P.underlying t = some (.map kt et)) (hkt : P.underlying kt = some d) (hz : (zeroValue et).run P w = .ok z w)
  (hb : w.heap[b]? = some (.map ents c)) (hk : MapKept.IsKey d key) (he : ents.toList.map (fun e => (e.key, e.val)) = es) (hall : ∀ e ∈ es, MapKept.IsKey d e.1) (hr : HasK key es r) (ok : Bool) :
  (Instr.lookup t (.map (some b)) key ok).run P w = .ok (if ok then .tuple #[r.getD z, .bool r.isSome] else r.getD z) w := by
 rcases find_spec hk he hall hr with ⟨rfl, h1⟩ | ⟨v, j, rfl, h1⟩
 ·cases ok <;> simp [Instr.lookup, run_underlying ht, MapKept.run_getObj_map hb, MapKept.run_checkKey hkt hk, MapKept.run_findKey hkt h1, hz, Result.andThen]
 ·cases ok <;> simp [Instr.lookup, run_underlying ht, MapKept.run_getObj_map hb, MapKept.run_checkKey hkt hk, MapKept.run_findKey hkt h1, Result.andThen]
section
variable {P : Program} {ti : TypeId -> Option TI} {H : AH} {m : Nat -> Value} {S : Nat -> Prop} {w : World}
theorem map_of {t : TypeId} {i : TI} {kt et : TypeId} (hi : tiOf P t = some i) (hk : i.k = .map kt et) : P.underlying t = some (.map kt et) := by
 obtain ⟨inf, d, _, hd, _, _, _, hkd, _⟩ := tiOf_spec hi
 rw [hk] at hkd
 cases d <;> simp [kindOf] at hkd
 obtain ⟨rfl, rfl⟩ := hkd
 exact hd
end
end Go.Abs
namespace Go.Abs
open Go.RowKit
structure AS where
 fr : Nat -> AV
 h : AH
def AS.ev (σ : AS) : Operand -> AV
 | .tmp t => σ.fr t
 | .const v => match v.oneCell' with
  | true => .p (ofCell v)
  | false => .dead
 | .global g => match gl g with
  | some cs => .rptr cs
  | none => .dead
 | .func f => .clo (.func f) []
def wpPick (t : Bool) (x y : AV) (k : AV -> Prop) : Prop := match x, y with
 | .p (.v (.bool a)), .p (.v (.bool b)) => k (.p (.v (.bool (cond t a b))))
 | x, y => br t (k x) (k y)
def wpCap (ti : TypeId -> Option TI) (t : TypeId) (x : AV) (k : AV -> Prop) : Prop := match x with
 | .p (.list true []) => match ti t with
  | some ⟨.sl _, _, _, _⟩ => k (.p (.v (.int .i64 0)))
  | _ => False
 | _ => False
def wpQ (ti : TypeId -> Option TI) (σ : AS) (op : Op) (k : AV -> Prop) : Prop := match op with
 | .move x => k (σ.ev x)
 | .assign x => k (σ.ev x)
 | .pick c a b => match σ.ev c with
  | .p (.v (.bool t)) => wpPick t (σ.ev a) (σ.ev b) k
  | _ => False
 | .load t a => wpLoad ti σ.h t (σ.ev a) k
 | .nilCheck x => match σ.ev x with
  | .ptr id o => k (.ptr id o)
  | .bptr id i o => k (.bptr id i o)
  | .lptr id o => k (.lptr id o)
  | .wptr id ix o => k (.wptr id ix o)
  | .rptr cs => k (.rptr cs)
  | .clo fn caps => k (.clo fn caps)
  | _ => False
 | .binOp op t x y _ => wpBin ti σ.h op t (σ.ev x) (σ.ev y) k
 | .unOp op _ x => wpUn op (σ.ev x) k
 | .convert s d x => wpConv ti s d (σ.ev x) k
 | .fieldAddr s x f => wpFieldAddr ti s (σ.ev x) f k
 | .field s x f => wpField ti s (σ.ev x) f k
 | .indexAddr t x i => wpIndexAddr ti σ.h t (σ.ev x) (σ.ev i) k
 | .index t x i => wpIndex ti t (σ.ev x) (σ.ev i) k
 | .slice t x lo hi mx => wpSlice ti σ.h t (σ.ev x) (lo.map σ.ev) (hi.map σ.ev) (mx.map σ.ev) k
 | .extract x i => match σ.ev x with
  | .tup xs => match xs[i]? with
   | some y => k y
   | none => False
  | _ => False
 | .build t parts => wpBuild ti t (parts.toList.map fun p => (p.1, σ.ev p.2)) k
 | .makeFunc fn first caps => match first.toList with
  | [] => k (.clo fn (caps.toList.map σ.ev))
  | _ => False
 | .call c => match c.callee with
  | .builtin .len => match c.args.toList, c.argTypes.toList with
   | [x], [t] => wpLen ti σ.h t (σ.ev x) k
   | _, _ => False
  | .builtin .cap => match c.args.toList, c.argTypes.toList with
   | [x], [t] => wpCap ti t (σ.ev x) k
   | _, _ => False
  | .builtin .max => match c.args.toList with
   | x :: r => wpMinMax true (σ.ev x) (r.map σ.ev) k
   | _ => False
  | .builtin .min => match c.args.toList with
   | x :: r => wpMinMax false (σ.ev x) (r.map σ.ev) k
   | _ => False
  | _ => False
 | _ => False
section
variable {P : Program} {ti : TypeId -> Option TI} {m : Nat -> Value} {S : Nat -> Prop} {w : World} {σ : AS} {a : Act}
theorem ev_sound (hG : Glb S w) (hf : ∀ t, Rd P σ.h m S w (σ.fr t) (a.tmps.getD t undef)) (x : Operand) : Rd P σ.h m S w (σ.ev x) (a.eval x) := by
 cases x with
 | tmp t => exact hf t
 | const v =>
  simp only [AS.ev, Act.eval]
  split
  ·rename_i ho
   refine .p _ _ ?_
   unfold ofCell
   split
   ·exact .nil
   ·exact .v _ ho
  ·exact .dead _
 | global g =>
  simp only [AS.ev, Act.eval]
  split
  ·rename_i cs hg
   obtain ⟨h1, us, h2, h3⟩ := hG g cs hg
   exact .rptr cs _ us h1 h2 h3
  ·exact .dead _
 | func f => exact .clo _ _ _ rfl (by simp)
theorem opt_ev (hG : Glb S w) (hf : ∀ t, Rd P σ.h m S w (σ.fr t) (a.tmps.getD t undef)) (x : Option Operand) : x.map σ.ev = none /\ x.map a.eval = none \/ ∃ b v, x.map σ.ev = some b /\ x.map a.eval = some v /\ Rd P σ.h m S w b v := by
 cases x with
 | none => exact .inl ⟨rfl, rfl⟩
 | some x => exact .inr ⟨_, _, rfl, rfl, ev_sound hG hf x⟩
theorem list_ev (hG : Glb S w) (hf : ∀ t, Rd P σ.h m S w (σ.fr t) (a.tmps.getD t undef)) (l : List Operand) : ∀ j b, (l.map σ.ev)[j]? = some b -> Rd P σ.h m S w b ((l.map a.eval).getD j undef) := by
 intro j b hj
 simp only [List.getElem?_map, Option.map_eq_some_iff] at hj
 obtain ⟨x, hx, rfl⟩ := hj
 have : (l.map a.eval).getD j undef = a.eval x := by simp [hx]
 rw [this]
 exact ev_sound hG hf x
def isLoad : Op -> Bool
 | .load _ _ => true
 | _ => false
theorem wpQ_sound' (hT : TabOK P ti) (hp : Hp P σ.h m S w) (hf : ∀ t, Rd P σ.h m S w (σ.fr t) (a.tmps.getD t undef)) {o : Oper} {k : AV -> Prop} (h : wpQ ti σ o.op k) :
  ∃ av v, k av /\ Rd P σ.h m S w av v /\ ∀ w', (isLoad o.op = true -> Ag w w') -> (execOp a.eval o).run P w' = .ok (.value v) w' := by
 have E := fun x => ev_sound (P := P) hp.glb hf x
 generalize ho : o.op = op at h
 unfold wpQ at h
 split at h
 ·exact ⟨_, _, h, E _, fun w' _ => by simp [execOp, ho]⟩
 ·exact ⟨_, _, h, E _, fun w' _ => by simp [execOp, ho]⟩
 ·rename_i c x y
  split at h
  ·rename_i t hc
   have h1 := E c
   rw [hc] at h1
   have hv := h1.pv.1
   unfold wpPick at h
   split at h
   ·rename_i b1 b2 hx hy
    have hx1 := E x
    have hy1 := E y
    rw [hx] at hx1; rw [hy] at hy1
    refine ⟨_, _, h, Rd.mk rfl, fun w' _ => ?_⟩
    cases t <;> simp [execOp, ho, hv, asBool, hx1.pv.1, hy1.pv.1]
   ·cases t
    ·exact ⟨_, _, h, E _, fun w' _ => by simp [execOp, ho, hv, asBool]⟩
    ·exact ⟨_, _, h, E _, fun w' _ => by simp [execOp, ho, hv, asBool]⟩
  ·cases h
 ·obtain ⟨av, v, h1, h2, h3⟩ := wpLoad_sound hT hp h (E _)
  exact ⟨av, v, h1, h2, fun w' hw => by simp [execOp, ho, h3 w' (hw rfl)]⟩
 ·rename_i x
  split at h
  ·rename_i hx
   have h1 := E x
   rw [hx] at h1
   generalize hv : a.eval x = v at h1
   cases h1 with
   | ptr _ _ ad hid hb => exact ⟨_, _, h, .ptr _ _ _ hid hb, fun w' _ => by simp [execOp, ho, hv]⟩
  ·rename_i hx
   have h1 := E x
   rw [hx] at h1
   generalize hv : a.eval x = v at h1
   cases h1 with
   | bptr _ _ _ ad hid hb => exact ⟨_, _, h, .bptr _ _ _ _ hid hb, fun w' _ => by simp [execOp, ho, hv]⟩
  ·rename_i hx
   have h1 := E x
   rw [hx] at h1
   generalize hv : a.eval x = v at h1
   cases h1 with
   | lptr _ _ ad hid hb => exact ⟨_, _, h, .lptr _ _ _ hid hb, fun w' _ => by simp [execOp, ho, hv]⟩
  ·rename_i hx
   have h1 := E x
   rw [hx] at h1
   generalize hv : a.eval x = v at h1
   cases h1 with
   | wptr _ _ _ ad hid hb => exact ⟨_, _, h, .wptr _ _ _ _ hid hb, fun w' _ => by simp [execOp, ho, hv]⟩
  ·rename_i hx
   have h1 := E x
   rw [hx] at h1
   generalize hv : a.eval x = v at h1
   cases h1 with
   | rptr _ ad us hS hu hr => exact ⟨_, _, h, .rptr _ _ us hS hu hr, fun w' _ => by simp [execOp, ho, hv]⟩
  ·rename_i fn caps hx
   have h1 := E x
   rw [hx] at h1
   generalize hv : a.eval x = v at h1
   cases h1 with
   | clo _ _ vs hl hr => exact ⟨_, _, h, .clo _ _ _ hl hr, fun w' _ => by cases fn <;> simp [execOp, ho, hv]⟩
  ·cases h
 ·obtain ⟨av, v, h1, h2, h3⟩ := wpBin_sound hT hp h (E _) (E _)
  exact ⟨av, v, h1, h2, fun w' _ => by have := h3 w'; simp only [execOp, ho]; rw [Sem.run_bind, this]; simp⟩
 ·obtain ⟨av, v, h1, h2, h3⟩ := wpUn_sound h (E _)
  exact ⟨av, v, h1, h2, fun w' _ => by simp [execOp, ho, h3 w']⟩
 ·obtain ⟨av, v, h1, h2, h3⟩ := wpConv_sound hT h (E _)
  exact ⟨av, v, h1, h2, fun w' _ => by simp [execOp, ho, h3 w']⟩
 ·obtain ⟨av, v, h1, h2, h3⟩ := wpFieldAddr_sound hT hp h (E _)
  exact ⟨av, v, h1, h2, fun w' _ => by simp [execOp, ho, h3 w' trivial]⟩
 ·obtain ⟨av, v, h1, h2, h3⟩ := wpField_sound hT h (E _)
  exact ⟨av, v, h1, h2, fun w' _ => by simp [execOp, ho, h3 w']⟩
 ·obtain ⟨av, v, h1, h2, h3⟩ := wpIndexAddr_sound hT hp h (E _) (E _)
  exact ⟨av, v, h1, h2, fun w' _ => by simp [execOp, ho, h3 w' trivial]⟩
 ·obtain ⟨av, v, h1, h2, h3⟩ := wpIndex_sound hT h (E _) (E _)
  exact ⟨av, v, h1, h2, fun w' _ => by simp [execOp, ho, h3 w']⟩
 ·rename_i t x lo hi mx
  obtain ⟨av, v, h1, h2, h3⟩ := wpSlice_sound hT hp h (E _) (opt_ev hp.glb hf lo) (opt_ev hp.glb hf hi) (vmx := mx.map a.eval) (by cases mx <;> simp)
  exact ⟨av, v, h1, h2, fun w' _ => by simp [execOp, ho, h3 w']⟩
 ·rename_i x i
  split at h
  ·rename_i xs hx
   have h1 := E x
   rw [hx] at h1
   split at h
   ·rename_i y hy
    generalize hv : a.eval x = v at h1
    cases h1 with
    | tup _ vs hl hr =>
     have hlt : i < vs.size := by rw [hl]; exact (List.getElem?_eq_some_iff.1 hy).1
     have h2 := hr i y hy
     refine ⟨_, _, h, h2, fun w' _ => ?_⟩
     simp [execOp, ho, hv, Instr.extract, hlt, Array.getD]
   ·cases h
  ·cases h
 ·rename_i t parts
  obtain ⟨av, v, h1, h2, h3⟩ := wpBuild_sound (vparts := parts.map fun (i, x) => (i, a.eval x)) hT h (by simp [List.map_map, Function.comp_def]) (fun k p hk => by
   simp only [List.getElem?_map, Option.map_eq_some_iff] at hk
   obtain ⟨q, hq, rfl⟩ := hk
   exact ⟨a.eval q.2, by simpa using ⟨q.1, q.2, by simpa using hq, rfl, rfl⟩, E _⟩)
  exact ⟨av, v, h1, h2, fun w' _ => by simp only [execOp, ho]; rw [Sem.run_bind, h3 w']; simp⟩
 ·rename_i fn first caps
  split at h
  ·rename_i hfi
   have hfi' : first = #[] := by cases first; simpa using hfi
   refine ⟨_, _, h, .clo fn _ (caps.map a.eval) (by simp) (fun j b hj => ?_), fun w' _ => ?_⟩
   ·have := list_ev (P := P) hp.glb hf caps.toList j b hj
    have e : (caps.map a.eval).getD j undef = (caps.toList.map a.eval).getD j undef := by simp [Array.getD_eq_getD_getElem?]
    rw [e]
    exact this
   ·simp [execOp, ho, Instr.makeFunc, hfi']
  ·cases h
 ·rename_i c
  obtain ⟨callee, args, ats⟩ := c
  obtain ⟨args⟩ := args
  obtain ⟨ats⟩ := ats
  simp only at h
  split at h
  ·split at h
   ·rename_i x t
    obtain ⟨av, v, h1, h2, h3⟩ := wpLen_sound hT hp h (E _) o.type
    exact ⟨av, v, h1, h2, fun w' _ => by simp [execOp, ho, resolve, invoke, builtin, h3 w' trivial]⟩
   ·cases h
  ·split at h
   ·rename_i x t
    unfold wpCap at h
    split at h
    ·rename_i hx
     split at h
     ·rename_i e _ _ _ hti
      have hu := slice_of (hT.ok _ _ hti) rfl
      have hE := E x
      rw [hx] at hE
      have hv : a.eval x = .slice none 0 0 := by
       generalize a.eval x = v at hE
       cases hE with
       | p _ _ h => cases h with
        | nil => rfl
      exact ⟨_, _, h, .p _ _ (.v _ rfl), fun w' _ => by simp [execOp, ho, resolve, invoke, builtin, Builtin.cap_, run_underlying hu, hv, goInt]⟩
     ·cases h
    ·cases h
   ·cases h
  ·split at h
   ·rename_i x r
    obtain ⟨av, v, h1, h2, h3⟩ := wpMinMax_sound true _ _ _ (r.map a.eval) _ h (E _) (by simp) (list_ev hp.glb hf r)
    exact ⟨av, v, h1, h2, fun w' _ => by have := h3 w'; simp only [if_true] at this; simp [execOp, ho, resolve, invoke, builtin, Builtin.max_, this]⟩
   ·cases h
  ·split at h
   ·rename_i x r
    obtain ⟨av, v, h1, h2, h3⟩ := wpMinMax_sound false _ _ _ (r.map a.eval) _ h (E _) (by simp) (list_ev hp.glb hf r)
    exact ⟨av, v, h1, h2, fun w' _ => by have := h3 w'; simp only [Bool.false_eq_true, if_false] at this; simp [execOp, ho, resolve, invoke, builtin, Builtin.min_, this]⟩
   ·cases h
  ·cases h
 ·cases h
theorem wpQ_sound (hT : TabOK P ti) (hp : Hp P σ.h m S w) (hf : ∀ t, Rd P σ.h m S w (σ.fr t) (a.tmps.getD t undef)) {o : Oper} {k : AV -> Prop} (h : wpQ ti σ o.op k) :
  ∃ av v, k av /\ Rd P σ.h m S w av v /\ ∀ w', Ag w w' -> (execOp a.eval o).run P w' = .ok (.value v) w' := by
 obtain ⟨av, v, h1, h2, h3⟩ := wpQ_sound' hT hp hf h
 exact ⟨av, v, h1, h2, fun w' hw => h3 w' fun _ => hw⟩
end
end Go.Abs
namespace Go.Abs
open Go.RowKit
def isC (w : World) (b : Nat) : Prop := ∃ vs T f, w.heap[b]? = some (.cells vs T f)
def solidO : Obj -> Bool
 | .cells _ _ _ => true
 | .map _ _ => true
 | _ => false
def isS (w : World) (b : Nat) : Prop := ∃ o, w.heap[b]? = some o /\ solidO o = true
def AO.isMap : AO -> Bool
 | .map _ => true
 | _ => false
def noMaps (H : AH) : Bool := H.all fun o => match o with
 | some (.map _) => false
 | _ => true
theorem noMaps_at {H : AH} (h : noMaps H = true) {i : Nat} {o : AO} (hl : live H i o) : o.isMap = false := by
 have h1 := List.all_eq_true.1 h (some o) (List.mem_of_getElem? hl)
 cases o with
 | map ks => cases h1
 | _ => rfl
def own (H : AH) (m : Nat -> Value) (w : World) (b : Nat) : Prop := ∃ i o, live H i o /\ Own w (m i) o b
structure Stp (P : Program) (H : AH) (m : Nat -> Value) (S : Nat -> Prop) (w : World) (H' : AH) (m' : Nat -> Value) (S' : Nat -> Prop) (w' : World) : Prop where
 old : Older H H' m m'
 hp : Hp P H' m' S' w'
 keeps : Keeps S w w'
 sub : ∀ b, S b -> S' b
 os : w'.os = w.os
 tape : w'.tape = w.tape
 output : w'.output = w.output
 size : w.heap.size <= w'.heap.size
 blk : ∀ b, b < w.heap.size -> ¬ own H m w b -> w'.heap[b]? = w.heap[b]?
 snew : ∀ b, S' b -> S b \/ own H m w b \/ w.heap.size <= b
 own : ∀ b, own H' m' w' b -> own H m w b \/ w.heap.size <= b
 scel : ∀ b, S' b -> S b \/ isC w' b
section
variable {P : Program} {H H' H'' : AH} {m m' m'' : Nat -> Value} {S S' S'' : Nat -> Prop} {w w' w'' : World}
theorem OKb.isC {mv : Value} {e : TypeId} {nl : Bool} {xs : List PV} {b : Nat} (h : OKb P S w mv e nl xs) (hb : mv.ownBlock = some b) : Abs.isC w b := by
 obtain ⟨i, us, _, _, ho, _⟩ := h
 rcases ho.2 with ⟨hv, _⟩ | ⟨g, cap, cur, hv, _, hh, _⟩
 ·rw [hv] at hb; cases hb
 ·rw [hv] at hb
  have : g = b := by simpa [Value.ownBlock] using hb
  subst this
  exact ⟨_, _, _, hh⟩
theorem OK.isC {mv : Value} {o : AO} {b : Nat} (h : OK P H m S w mv o) (hb : Own w mv o b) (hm : o.isMap = false) : Abs.isC w b := by
 cases o with
 | cells cs =>
  obtain ⟨b', T, vs, rfl, hh, _⟩ := h
  have hb := (own_iff rfl).1 hb
  simp [Abs.blk] at hb
  subst hb
  exact ⟨_, _, _, hh⟩
 | buf e nl xs => exact OKb.isC h ((own_iff rfl).1 hb)
 | frz nl xs => have hb := (own_iff rfl).1 hb; simp [Abs.blk] at hb
 | map ks => cases hm
 | arr xs =>
  obtain ⟨b', T, vs, rfl, hh, _⟩ := h
  have hb := (own_iff rfl).1 hb
  simp [Abs.blk] at hb
  subst hb
  exact ⟨_, _, _, hh⟩
 | bufL e xs l =>
  obtain ⟨i, us, _, _, ho, _⟩ := h
  have hb := (own_iff rfl).1 hb
  rcases ho.2 with ⟨hv, _⟩ | ⟨g, cap, cur, hv, _, hh, _⟩
  ·rw [hv] at hb; cases hb
  ·rw [hv] at hb
   have : g = b := by simpa [Abs.blk, Value.ownBlock] using hb
   subst this
   exact ⟨_, _, _, hh⟩
 | rws e nl sz q e2 xs h lc gn =>
  obtain ⟨i, i2, us, g1, g2, g3, g4, g5, ho, hz, hn, hR, hH, hA⟩ := h
  rcases hb with hb | ⟨j, g, l, c, u, hj, hne, hgn, hv, hc, hub⟩
  ·rcases ho.2 with ⟨hv, _⟩ | ⟨g, cap, cur, hv, _, hh, _⟩
   ·rw [hv] at hb; cases hb
   ·rw [hv] at hb
    have : g = b := by simpa [Abs.blk, Value.ownBlock] using hb
    subst this
    exact ⟨_, _, _, hh⟩
  ·obtain ⟨u', nl2, ys, hu', _, _, hok⟩ := rows_at hz g3 hR (List.getElem?_eq_getElem hj) hne hgn
   rw [row_cell ho hv hu'] at hc
   injection hc with hc
   subst hc
   exact hok.isC hub
theorem OK.isS {mv : Value} {o : AO} {b : Nat} (h : OK P H m S w mv o) (hb : Own w mv o b) : Abs.isS w b := by
 cases o with
 | map ks =>
  obtain ⟨b', es, c, rfl, hh, _⟩ := h
  have hb := (own_iff rfl).1 hb
  simp [Abs.blk] at hb
  subst hb
  exact ⟨_, hh, rfl⟩
 | _ =>
  obtain ⟨vs, T, f, h1⟩ := h.isC hb rfl
  exact ⟨_, h1, rfl⟩
theorem own_isS (hp : Hp P H m S w) {b : Nat} (h : own H m w b) : Abs.isS w b := by
 obtain ⟨i, o, hl, hb⟩ := h
 exact (hp.obj i o hl).isS hb
theorem own_isC (hp : Hp P H m S w) (hn : noMaps H = true) {b : Nat} (h : own H m w b) : Abs.isC w b := by
 obtain ⟨i, o, hl, hb⟩ := h
 exact (hp.obj i o hl).isC hb (noMaps_at hn hl)
theorem Stp.refl (hp : Hp P H m S w) : Stp P H m S w H m S w :=
 ⟨Older.refl _ _, hp, fun _ _ => rfl, fun _ h => h, rfl, rfl, rfl, Nat.le_refl _, fun _ _ _ => rfl, fun _ h => .inl h, fun _ h => .inl h, fun _ h => .inl h⟩
theorem Stp.trans (h : Stp P H m S w H' m' S' w') (k : Stp P H' m' S' w' H'' m'' S'' w'') : Stp P H m S w H'' m'' S'' w'' := by
 refine ⟨h.old.trans k.old, k.hp, fun b hb => (k.keeps b (h.sub b hb)).trans (h.keeps b hb), fun b hb => k.sub b (h.sub b hb), k.os.trans h.os, k.tape.trans h.tape, k.output.trans h.output,
  Nat.le_trans h.size k.size, fun b hb hn => ?_, fun b hb => ?_, fun b hb => ?_, fun b hb => ?_⟩
 ·refine (k.blk b (Nat.lt_of_lt_of_le hb h.size) fun ho => ?_).trans (h.blk b hb hn)
  rcases h.own b ho with h1 | h1
  ·exact hn h1
  ·omega
 ·rcases k.snew b hb with h1 | h1 | h1
  ·exact h.snew b h1
  ·rcases h.own b h1 with h2 | h2
   ·exact .inr (.inl h2)
   ·exact .inr (.inr h2)
  ·exact .inr (.inr (Nat.le_trans h.size h1))
 ·rcases k.own b hb with h1 | h1
  ·exact h.own b h1
  ·exact .inr (Nat.le_trans h.size h1)
 ·rcases k.scel b hb with h1 | h1
  ·rcases h.scel b h1 with h2 | ⟨vs, T, f, h2⟩
   ·exact .inl h2
   ·exact .inr ⟨vs, T, f, (k.keeps b h1).trans h2⟩
  ·exact .inr h1
theorem OKb.mono (hk : Keeps S w w') (hs : ∀ b, S b -> S' b) {mv : Value} {e : TypeId} {nl : Bool} {xs : List PV} (h : OKb P S w mv e nl xs) (hb : ∀ b, mv.ownBlock = some b -> w'.heap[b]? = w.heap[b]?) : OKb P S' w' mv e nl xs := by
 obtain ⟨i, us, h1, h2, h3, h4, h5, h6⟩ := h
 refine ⟨i, us, h1, h2, ⟨h3.1, ?_⟩, h4, fun k c hc => ?_, h6⟩
 ·rcases h3.2 with hn | ⟨g, cap, cur, hv, h7, hh, rest⟩
  ·exact .inl hn
  ·exact .inr ⟨g, cap, cur, hv, h7, (hb g (by rw [hv]; rfl)).trans hh, rest⟩
 ·obtain ⟨u, hu, hr, h1⟩ := h5 k c hc
  exact ⟨u, hu, hr.mono hk hs, h1⟩
theorem OK.mono (hk : Keeps S w w') (hs : ∀ b, S b -> S' b) (ho : Older H H' m m') {mv : Value} {o : AO} (h : OK P H m S w mv o) (hb : ∀ b, Own w mv o b -> w'.heap[b]? = w.heap[b]?) : OK P H' m' S' w' mv o := by
 cases o with
 | cells cs =>
  obtain ⟨b, T, vs, rfl, hh, hl, hr⟩ := h
  exact ⟨b, T, vs, rfl, (hb b (.inl rfl)).trans hh, hl, fun k c hc => ⟨(hr k c hc).1.mono hk hs ho, (hr k c hc).2⟩⟩
 | buf e nl xs => exact OKb.mono hk hs h fun b h => hb b (.inl h)
 | frz nl xs => exact RdP.mono hk hs h
 | map ks =>
  obtain ⟨b, es, c, rfl, hh, hk2, hv⟩ := h
  exact ⟨b, es, c, rfl, (hb b (.inl rfl)).trans hh, hk2, hv⟩
 | arr xs =>
  obtain ⟨b, T, vs, rfl, hh, hl, hr⟩ := h
  exact ⟨b, T, vs, rfl, (hb b (.inl rfl)).trans hh, hl, fun k c hc => ⟨(hr k c hc).1.mono hk hs, (hr k c hc).2⟩⟩
 | bufL e xs l =>
  obtain ⟨i, us, h1, h2, h3, h4, h5, h6, h7⟩ := h
  refine ⟨i, us, h1, h2, ⟨h3.1, ?_⟩, h4, h5, fun k c hc => ?_, fun k c hc => ?_⟩
  ·rcases h3.2 with hn | ⟨g, cap, cur, hv, h7, hh, rest⟩
   ·exact .inl hn
   ·exact .inr ⟨g, cap, cur, hv, h7, (hb g (.inl (by rw [hv]; rfl))).trans hh, rest⟩
  ·obtain ⟨u, hu, hr, h1⟩ := h6 k c hc
   exact ⟨u, hu, hr.mono hk hs, h1⟩
  ·obtain ⟨u, hu, hr, h1⟩ := h7 k c hc
   exact ⟨u, hu, hr.mono hk hs ho, h1⟩
 | rws e nl sz q e2 xs h0 lc gn =>
  obtain ⟨i, i2, us, g1, g2, g3, g4, g5, h3, hz, hn, hR, hH, hA⟩ := h
  refine ⟨i, i2, us, g1, g2, g3, g4, g5, ⟨h3.1, ?_⟩, hz, hn, fun j x hx hne k c hc => ?_, fun p hp => ?_, hA⟩
  ·rcases h3.2 with hn | ⟨g, cap, cur, hv, h7, hh, rest⟩
   ·exact .inl hn
   ·exact .inr ⟨g, cap, cur, hv, h7, (hb g (.inl (by rw [hv]; rfl))).trans hh, rest⟩
  ·obtain ⟨u, hu, h1, h2, h4⟩ := hR j x hx hne k c hc
   refine ⟨u, hu, h1, fun hne => (h2 hne).mono hk hs, fun he hgn => ?_⟩
   obtain ⟨nl2, ys, h5, h6⟩ := h4 he hgn
   refine ⟨nl2, ys, h5, h6.mono hk hs fun b hub => ?_⟩
   have hj : j < xs.length := (List.getElem?_eq_some_iff.1 hx).1
   rcases h3.2 with ⟨_, h0⟩ | ⟨g, cap, cur, hv, _⟩
   ·omega
   ·subst he
    exact hb b (.inr ⟨j, g, _, _, u, hj, hne, hgn, hv, row_cell h3 hv hu, hub⟩)
  ·obtain ⟨h1, h2, h4⟩ := hH p hp
   refine ⟨h1, h2, fun k c hc => ?_⟩
   obtain ⟨u, hu, hr, h5⟩ := h4 k c hc
   exact ⟨u, hu, hr.mono hk hs ho, h5⟩
theorem Own.same {mv : Value} {o : AO} (h : OK P H m S w mv o) (hb : ∀ b, Own w mv o b -> w'.heap[b]? = w.heap[b]?) {b : Nat} : Own w' mv o b ↔ Own w mv o b := by
 cases o with
 | rws e nl sz q e2 xs h0 lc gn =>
  have key : ∀ {g l c : Nat}, mv = .slice (some ⟨g, 0, none⟩) l c -> ∀ k, w'.cell? ⟨g, k, none⟩ = w.cell? ⟨g, k, none⟩ := fun {g l c} hv k =>
   World.cell?_of_block (hb g (.inl (by rw [hv]; rfl)))
  constructor
  ·rintro (h1 | ⟨j, g, l, c, u, hj, hne, hgn, hv, hc, hub⟩)
   ·exact .inl h1
   ·exact .inr ⟨j, g, l, c, u, hj, hne, hgn, hv, (key hv _).symm.trans hc, hub⟩
  ·rintro (h1 | ⟨j, g, l, c, u, hj, hne, hgn, hv, hc, hub⟩)
   ·exact .inl h1
   ·exact .inr ⟨j, g, l, c, u, hj, hne, hgn, hv, (key hv _).trans hc, hub⟩
 | _ => exact (own_iff rfl).trans (own_iff rfl).symm
theorem Hp.below (hp : Hp P H m S w) (hb : ∀ b, b < w.heap.size -> w'.heap[b]? = w.heap[b]?) {i : Nat} {o : AO} (hl : live H i o) {b : Nat} (h : Own w' (m i) o b) : Own w (m i) o b :=
 (Own.same (hp.obj i o hl) fun b h => hb b ((hp.obj i o hl).blk_lt h)).1 h
theorem Stp.at_ (F : Nat -> Prop) (hp : Hp P H m S w) (ho : Older H H' m m') (hother : ∀ j o, ¬ F j -> live H' j o -> live H j o /\ m' j = m j)
  (hos : w'.os = w.os) (htape : w'.tape = w.tape) (hout : w'.output = w.output) (hsz : w.heap.size <= w'.heap.size)
  (hblk : ∀ b, b < w.heap.size -> (∀ j o, F j -> live H j o -> ¬ Own w (m j) o b) -> w'.heap[b]? = w.heap[b]?)
  (hnew : ∀ j o, F j -> live H' j o -> Keeps S w w' -> OK P H' m' S w' (m' j) o)
  (hnb : ∀ j o b, F j -> live H' j o -> Own w' (m' j) o b -> (∃ i o', F i /\ live H i o' /\ Own w (m i) o' b) \/ w.heap.size <= b)
  (hinj : ∀ i j oi oj b, F i -> F j -> live H' i oi -> live H' j oj -> Own w' (m' i) oi b -> Own w' (m' j) oj b -> i = j) :
  Stp P H m S w H' m' S w' := by
 have hk : Keeps S w w' := fun b hb => hblk b (hp.sub b hb) fun j o _ hl he => hp.out j o b hl he hb
 have hob : ∀ j o b, ¬ F j -> live H j o -> Own w (m j) o b -> w'.heap[b]? = w.heap[b]? := fun j o b hj hl hb =>
  hblk b ((hp.obj j o hl).blk_lt hb) fun i o' hi hl' hb' => by
   have := hp.inj i j o' o b hl' hl hb' hb
   subst this
   exact hj hi
 have hsm : ∀ {j o}, ¬ F j -> live H j o -> ∀ {b}, Own w' (m j) o b -> Own w (m j) o b := fun hj hl _ hb => (Own.same (hp.obj _ _ hl) fun b hb => hob _ _ b hj hl hb).1 hb
 refine ⟨ho, ⟨fun j o hl => ?_, fun i j oi oj b hi hj hbi hbj => ?_, fun b hb => Nat.lt_of_lt_of_le (hp.sub b hb) hsz, fun j o b hl hb => ?_, hp.glb.mono hk fun _ h => h⟩, hk, fun _ h => h, hos, htape, hout, hsz,
  fun b hb hn => hblk b hb fun j o _ hl he => hn ⟨j, o, hl, he⟩, fun b hb => .inl hb, fun b hb => ?_, fun b hb => .inl hb⟩
 ·by_cases hF : F j
  ·exact hnew j o hF hl hk
  ·obtain ⟨hl', hm⟩ := hother j o hF hl
   rw [hm]
   exact OK.mono hk (fun _ h => h) ho (hp.obj j o hl') fun b hb => hob j o b hF hl' hb
 ·by_cases hFi : F i <;> by_cases hFj : F j
  ·exact hinj i j oi oj b hFi hFj hi hj hbi hbj
  ·obtain ⟨hl', hm⟩ := hother j oj hFj hj
   rw [hm] at hbj
   replace hbj := hsm hFj hl' hbj
   rcases hnb i oi b hFi hi hbi with ⟨i', o', hF', hlo, hbo⟩ | h1
   ·have := hp.inj i' j o' oj b hlo hl' hbo hbj
    subst this
    exact absurd hF' hFj
   ·have := (hp.obj j oj hl').blk_lt hbj
    omega
  ·obtain ⟨hl', hm⟩ := hother i oi hFi hi
   rw [hm] at hbi
   replace hbi := hsm hFi hl' hbi
   rcases hnb j oj b hFj hj hbj with ⟨i', o', hF', hlo, hbo⟩ | h1
   ·have := hp.inj i' i o' oi b hlo hl' hbo hbi
    subst this
    exact absurd hF' hFi
   ·have := (hp.obj i oi hl').blk_lt hbi
    omega
  ·obtain ⟨hl1, hm1⟩ := hother i oi hFi hi
   obtain ⟨hl2, hm2⟩ := hother j oj hFj hj
   rw [hm1] at hbi
   rw [hm2] at hbj
   exact hp.inj i j oi oj b hl1 hl2 (hsm hFi hl1 hbi) (hsm hFj hl2 hbj)
 ·intro hS
  by_cases hF : F j
  ·rcases hnb j o b hF hl hb with ⟨i', o', hF', hlo, hbo⟩ | h1
   ·exact hp.out i' o' b hlo hbo hS
   ·have := hp.sub b hS
    omega
  ·obtain ⟨hl', hm⟩ := hother j o hF hl
   rw [hm] at hb
   exact hp.out j o b hl' (hsm hF hl' hb) hS
 ·obtain ⟨j, o, hl, hb⟩ := hb
  by_cases hF : F j
  ·rcases hnb j o b hF hl hb with ⟨i', o', hF', hlo, hbo⟩ | h1
   ·exact .inl ⟨i', o', hlo, hbo⟩
   ·exact .inr h1
  ·obtain ⟨hl', hm⟩ := hother j o hF hl
   rw [hm] at hb
   exact .inl ⟨j, o, hl', hsm hF hl' hb⟩
def upd (m : Nat -> Value) (i : Nat) (v : Value) : Nat -> Value := fun j => if j = i then v else m j
theorem live_push {o : AO} {j : Nat} {p : AO} (h : live (H ++ [some o]) j p) : (j = H.length /\ p = o) \/ (j < H.length /\ live H j p) := by
 unfold live at h
 rcases Nat.lt_trichotomy j H.length with hj | hj | hj
 ·rw [List.getElem?_append_left hj] at h; exact .inr ⟨hj, h⟩
 ·subst hj; simp at h; exact .inl ⟨rfl, h.symm⟩
 ·rw [List.getElem?_eq_none (by simp; omega)] at h; cases h
theorem older_push (o : AO) (v : Value) : Older H (H ++ [some o]) m (upd m H.length v) := by
 refine ⟨by simp, fun id hid o' hl => ?_⟩
 rcases live_push hl with ⟨rfl, _⟩ | ⟨_, hl⟩
 ·omega
 ·exact ⟨if_neg (by omega), o', hl, fun e nl xs he => ⟨nl, xs, he, Nat.le_refl _⟩, fun _ _ l he => ⟨l, he⟩, fun _ he => he⟩
theorem Stp.push (hp : Hp P H m S w) {o : AO} {v : Value} (hos : w'.os = w.os) (htape : w'.tape = w.tape) (hout : w'.output = w.output) (hsz : w.heap.size <= w'.heap.size)
  (hblk : ∀ b, b < w.heap.size -> w'.heap[b]? = w.heap[b]?)
  (hok : Keeps S w w' -> OK P (H ++ [some o]) (upd m H.length v) S w' v o) (hb : ∀ b, Own w' v o b -> w.heap.size <= b) : Stp P H m S w (H ++ [some o]) (upd m H.length v) S w' := by
 refine Stp.at_ (fun j => j = H.length) hp (older_push o v) (fun j p hj hl => ?_) hos htape hout hsz (fun b hlt _ => hblk b hlt) (fun j p hj hl hk => ?_) (fun j p b hj hl hbb => ?_) (fun i j _ _ _ hi hj _ _ _ _ => hi.trans hj.symm)
 ·rcases live_push hl with ⟨rfl, _⟩ | ⟨hlt, hl⟩
  ·exact absurd rfl hj
  ·exact ⟨hl, if_neg (by omega)⟩
 ·subst hj
  rcases live_push hl with ⟨_, rfl⟩ | ⟨hlt, _⟩
  ·have : upd m H.length v H.length = v := if_pos rfl
   rw [this]
   exact hok hk
  ·omega
 ·subst hj
  rcases live_push hl with ⟨_, rfl⟩ | ⟨hlt, _⟩
  ·have : upd m H.length v H.length = v := if_pos rfl
   rw [this] at hbb
   exact .inr (hb b hbb)
  ·omega
end
end Go.Abs
namespace Go.Abs
open Go.RowKit
def frzAt (H : AH) (id : Nat) : AH := match H[id]? with
 | some (some (.buf _ nl xs)) => H.set id (some (.frz nl xs))
 | some (some (.rws _ nl _ _ _ xs none _ none)) => H.set id (some (.frz nl xs))
 | _ => H
def frzAll (H : AH) (ids : List Nat) : AH := ids.foldl frzAt H
def cellIds (H : AH) : AV -> List Nat
 | .buf id => match H[id]? with
  | some (some (.buf _ _ _)) => [id]
  | some (some (.rws _ _ _ _ _ _ none _ none)) => [id]
  | _ => []
 | _ => []
def avIds (H : AH) : AV -> List Nat
 | .agg cs => cs.flatMap (cellIds H)
 | .buf id => cellIds H (.buf id)
 | _ => []
def cellPV (H : AH) : AV -> Option PV
 | .p (.v x) => some (.v x)
 | .p (.list nl xs) => some (.list nl xs)
 | .buf id => match H[id]? with
  | some (some (.frz nl xs)) => some (.list nl xs)
  | _ => none
 | _ => none
def cellsPV (H : AH) : List AV -> Option (List PV)
 | [] => some []
 | c :: r => match cellPV H c, cellsPV H r with
  | some x, some l => some (x :: l)
  | _, _ => none
def pvOf (H : AH) : AV -> Option PV
 | .p x => some x
 | .agg cs => match cellsPV H cs with
  | some l => some (.agg l)
  | none => none
 | x => cellPV H x
def thaw (H : AH) (x : AV) : AV := match pvOf H x with
 | some y => .p y
 | none => .dead
section
variable {P : Program} {ti : TypeId -> Option TI} {H : AH} {m : Nat -> Value} {S : Nat -> Prop} {w : World}
theorem RdP.of_ownb {e : TypeId} {nl : Bool} {xs : List PV} {mv : Value} {S' : Nat -> Prop} (h : OKb P S w mv e nl xs) (hs : ∀ b, S b -> S' b) (hb : ∀ b, mv.ownBlock = some b -> S' b) : RdP S' w (.list nl xs) mv := by
 obtain ⟨i, us, hi, hsz, ho, hz, hr, hn⟩ := h
 rcases ho.2 with ⟨hv, h0⟩ | ⟨g, cap, cur, hv, _, hh, hc, hm, hcs, htk⟩
 ·have hx : xs = [] := List.eq_nil_of_length_eq_zero h0
  have hnl : nl = true := hn.2 hv
  subst hx; subst hnl
  rw [hv]
  exact .nil
 ·have hnl : nl = false := by
   cases nl
   ·rfl
   ·have := hn.1 rfl; rw [hv] at this; cases this
  subst hnl
  have hcells := ho.cells (g := g) (by rw [hv]; rfl)
  have hS : S' g := hb g (by rw [hv]; rfl)
  rw [hv]
  refine .list xs _ cap i.size (fun k => (us[k]?).getD undef) (fun _ => hS) hc hm hz (fun k c hk => ?_) fun k c hk => ?_
  ·obtain ⟨u, hu, _, h1⟩ := hr k c hk
   simp only [hu, Option.getD_some]
   exact ⟨hcells k u hu, h1⟩
  ·obtain ⟨u, hu, h2, _⟩ := hr k c hk
   simp only [hu, Option.getD_some]
   exact h2.mono (fun _ _ => rfl) hs
theorem RdP.of_own {e : TypeId} {nl : Bool} {xs : List PV} {mv : Value} {S' : Nat -> Prop} (h : OK P H m S w mv (.buf e nl xs)) (hs : ∀ b, S b -> S' b) (hb : ∀ b, mv.ownBlock = some b -> S' b) : RdP S' w (.list nl xs) mv := RdP.of_ownb h hs hb
theorem flat_inv {xs : List PV} {sz : Nat} (h : ∀ x ∈ xs, x.cells.length = sz) {k : Nat} {c : PV} (hk : (flat xs)[k]? = some c) : ∃ (i j : Nat) (x : PV), k = i * sz + j /\ j < sz /\ xs[i]? = some x /\ x.cells[j]? = some c := by
 induction xs generalizing k with
 | nil => simp [flat] at hk
 | cons y xs ih =>
  have hy := h y (List.mem_cons_self ..)
  simp only [flat, List.flatMap_cons] at hk
  by_cases hlt : k < sz
  ·rw [List.getElem?_append_left (by omega)] at hk
   exact ⟨0, k, y, by omega, hlt, rfl, hk⟩
  ·rw [List.getElem?_append_right (by omega), hy] at hk
   obtain ⟨i, j, x, h1, h2, h3, h4⟩ := ih (fun z hz => h z (List.mem_cons_of_mem _ hz)) hk
   exact ⟨i + 1, j, x, by rw [Nat.succ_mul]; omega, h2, by simpa using h3, h4⟩
theorem RdP.of_rws {lc : List AV} {e e2 : TypeId} {nl : Bool} {sz q : Nat} {xs : List PV} {mv : Value} {S' : Nat -> Prop} (h : OK P H m S w mv (.rws e nl sz q e2 xs none lc none)) (hs : ∀ b, S b -> S' b) (hb : ∀ b, Own w mv (.rws e nl sz q e2 xs none lc none) b -> S' b) : RdP S' w (.list nl xs) mv := by
 obtain ⟨i, i2, us, g1, g2, g3, g4, g5, ho, hz, hn, hR, hH, hA⟩ := h
 have hna : ∀ j, notAt none j := fun j h => by cases h
 rcases ho.2 with ⟨hv, h0⟩ | ⟨g, cap, cur, hv, _, hh, hc, hm, hcs, htk⟩
 ·have hx : xs = [] := List.eq_nil_of_length_eq_zero h0
  have hnl : nl = true := hn.2 hv
  subst hx; subst hnl
  rw [hv]
  exact .nil
 ·have hnl : nl = false := by
   cases nl
   ·rfl
   ·have := hn.1 rfl; rw [hv] at this; cases this
  subst hnl
  have hcells := ho.cells (g := g) (by rw [hv]; rfl)
  have hS : S' g := hb g (.inl (by rw [hv]; rfl))
  have key : ∀ (k : Nat) (c : PV), (flat xs)[k]? = some c -> ∃ u : Value, us[k]? = some u /\ RdP S' w c u /\ u.oneCell' = true := by
   intro k c hk
   obtain ⟨j, k', x, rfl, hlt, hx, hc'⟩ := flat_inv hz hk
   obtain ⟨u, h1, h2, h3, h4⟩ := hR j x hx (hna j) k' c hc'
   refine ⟨u, h1, ?_, h2⟩
   by_cases hq : k' = q
   ·obtain ⟨nl2, ys, rfl, h6⟩ := h4 hq rfl
    subst hq
    exact RdP.of_ownb h6 hs fun b hub => hb b (.inr ⟨j, g, _, _, u, (List.getElem?_eq_some_iff.1 hx).1, hna j, rfl, hv, row_cell ho hv h1, hub⟩)
   ·exact (h3 hq).mono (fun _ _ => rfl) hs
  rw [hv]
  refine .list xs _ cap sz (fun k => (us[k]?).getD undef) (fun _ => hS) hc hm hz (fun k c hk => ?_) fun k c hk => ?_
  ·obtain ⟨u, hu, _, h1⟩ := key k c hk
   simp only [hu, Option.getD_some]
   exact ⟨hcells k u hu, h1⟩
  ·obtain ⟨u, hu, h2, _⟩ := key k c hk
   simp only [hu, Option.getD_some]
   exact h2
theorem live_set {id j : Nat} {o : Option AO} {p : AO} (h : live (H.set id o) j p) : (j = id /\ o = some p) \/ (j ≠ id /\ live H j p) := by
 unfold live at h
 rw [List.getElem?_set] at h
 by_cases hj : id = j
 ·subst hj
  simp at h
  exact .inl ⟨rfl, h.2⟩
 ·rw [if_neg hj] at h
  exact .inr ⟨fun e => hj e.symm, h⟩
theorem not_own_frz {mv : Value} {nl : Bool} {xs : List PV} {b : Nat} : ¬ Own w mv (.frz nl xs) b := fun h => by have h := (own_iff rfl).1 h; cases h
theorem Stp.frzO (hp : Hp P H m S w) {id : Nat} {o : AO} {nl : Bool} {xs : List PV} (hl : live H id o) (hm : o.isMap = false)
  (hr : ∀ S' : Nat -> Prop, (∀ b, S b -> S' b) -> (∀ b, Own w (m id) o b -> S' b) -> RdP S' w (.list nl xs) (m id)) : ∃ S', Stp P H m S w (H.set id (some (.frz nl xs))) m S' w := by
 have hok := hp.obj id _ hl
 have hold : Older H (H.set id (some (.frz nl xs))) m m := by
  refine ⟨by simp, fun j hj o' hlo => ⟨rfl, ?_⟩⟩
  rcases live_set hlo with ⟨rfl, he⟩ | ⟨_, hl'⟩
  ·injection he with he
   subst he
   exact ⟨_, hl, fun _ _ _ h => (by cases h), fun _ _ _ h => (by cases h), fun _ h => (by cases h)⟩
  ·exact ⟨o', hl', fun e nl xs he => ⟨nl, xs, he, Nat.le_refl _⟩, fun _ _ l he => ⟨l, he⟩, fun _ h => h⟩
 let S' : Nat -> Prop := fun b => S b \/ Own w (m id) o b
 have hfz : ∀ {b}, ¬ Own w (m id) (.frz nl xs) b := not_own_frz
 refine ⟨S', hold, ⟨fun j o hlo => ?_, fun i j oi oj b hi hj hbi hbj => ?_, fun b hb => ?_, fun j o b hlo hb hS => ?_, hp.glb.mono (fun _ _ => rfl) fun _ h => .inl h⟩, fun _ _ => rfl, fun b hb => .inl hb, rfl, rfl, rfl, Nat.le_refl _, fun _ _ _ => rfl, fun b hb => ?_, fun b hb => ?_, fun b hb => ?_⟩
 ·rcases live_set hlo with ⟨rfl, he⟩ | ⟨_, hl'⟩
  ·injection he with he
   subst he
   exact hr S' (fun _ h => .inl h) fun _ h => .inr h
  ·exact OK.mono (fun _ _ => rfl) (fun _ h => .inl h) hold (hp.obj j _ hl') (fun _ _ => rfl)
 ·rcases live_set hi with ⟨rfl, he⟩ | ⟨_, hi'⟩
  ·injection he with he; subst he; exact absurd hbi hfz
  ·rcases live_set hj with ⟨rfl, he⟩ | ⟨_, hj'⟩
   ·injection he with he; subst he; exact absurd hbj hfz
   ·exact hp.inj i j oi oj b hi' hj' hbi hbj
 ·rcases hb with hb | hb
  ·exact hp.sub b hb
  ·exact hok.blk_lt hb
 ·rcases live_set hlo with ⟨rfl, he⟩ | ⟨hne, hl'⟩
  ·injection he with he; subst he; exact absurd hb hfz
  ·rcases hS with hS | hS
   ·exact hp.out j _ b hl' hb hS
   ·exact hne (hp.inj j id _ _ b hl' hl hb hS)
 ·rcases hb with hb | hb
  ·exact .inl hb
  ·exact .inr (.inl ⟨id, _, hl, hb⟩)
 ·obtain ⟨j, o, hlo, hb⟩ := hb
  rcases live_set hlo with ⟨rfl, he⟩ | ⟨_, hl'⟩
  ·injection he with he; subst he; exact absurd hb hfz
  ·exact .inl ⟨j, o, hl', hb⟩
 ·rcases hb with hb | hb
  ·exact .inl hb
  ·exact .inr (hok.isC hb hm)
theorem Stp.frzAt (hp : Hp P H m S w) (id : Nat) : ∃ S', Stp P H m S w (frzAt H id) m S' w := by
 unfold Abs.frzAt
 split
 ·rename_i e nl xs hH
  exact Stp.frzO hp (o := .buf e nl xs) hH rfl fun S' hs hb => RdP.of_own (hp.obj id _ hH) hs fun b h => hb b (.inl h)
 ·rename_i e nl sz q e2 xs lc hH
  exact Stp.frzO hp (o := .rws e nl sz q e2 xs none lc none) hH rfl fun S' hs hb => RdP.of_rws (hp.obj id _ hH) hs hb
 ·exact ⟨S, Stp.refl hp⟩
theorem Stp.frzAll : ∀ (ids : List Nat) (H : AH) (S : Nat -> Prop), Hp P H m S w -> ∃ S', Stp P H m S w (frzAll H ids) m S' w
 | [], H, S, hp => ⟨S, Stp.refl hp⟩
 | id :: ids, H, S, hp => by
  obtain ⟨S1, h1⟩ := Stp.frzAt hp id
  obtain ⟨S2, h2⟩ := Stp.frzAll ids (Abs.frzAt H id) S1 h1.hp
  exact ⟨S2, h1.trans h2⟩
theorem cellPV_sound (hp : Hp P H m S w) {x : AV} {y : PV} {v : Value} (h : cellPV H x = some y) (hx : Rd P H m S w x v) : RdP S w y v := by
 unfold cellPV at h
 split at h
 ·injection h with h; subst h; cases hx with | p _ _ h => exact h
 ·injection h with h; subst h; cases hx with | p _ _ h => exact h
 ·split at h
  ·rename_i hH
   injection h with h; subst h
   have hv := hx.bufAt hH
   subst hv
   exact hp.obj _ _ hH
  ·cases h
 ·cases h
theorem cellsPV_sound (hp : Hp P H m S w) : ∀ {cs : List AV} {l : List PV}, cellsPV H cs = some l -> l.length = cs.length /\ ∀ (k : Nat) (y : PV), l[k]? = some y -> ∃ c, cs[k]? = some c /\ cellPV H c = some y
 | [], l, h => by simp [cellsPV] at h; subst h; simp
 | c :: r, l, h => by
  unfold cellsPV at h
  split at h
  ·rename_i x l' h1 h2
   injection h with h
   subst h
   obtain ⟨h3, h4⟩ := cellsPV_sound hp h2
   refine ⟨by simp [h3], fun k y hk => ?_⟩
   cases k with
   | zero => simp at hk; subst hk; exact ⟨c, rfl, h1⟩
   | succ k => simpa using h4 k y (by simpa using hk)
  ·cases h
theorem pvOf_sound (hp : Hp P H m S w) {x : AV} {y : PV} {v : Value} (h : pvOf H x = some y) (hx : Rd P H m S w x v) : RdP S w y v := by
 unfold pvOf at h
 split at h
 ·injection h with h; subst h; cases hx with | p _ _ h => exact h
 ·split at h
  ·rename_i l hl
   injection h with h; subst h
   obtain ⟨vs, rfl, hsz, hr⟩ := aggAV hx
   obtain ⟨h1, h2⟩ := cellsPV_sound hp hl
   refine .agg _ _ (by rw [hsz, h1]) (fun k c hk => ?_) (fun k c hk => ?_)
   ·obtain ⟨c', hc', _⟩ := h2 k c hk
    exact (hr k c' hc').2
   ·obtain ⟨c', hc', he⟩ := h2 k c hk
    exact cellPV_sound hp he (hr k c' hc').1
  ·cases h
 ·exact cellPV_sound hp h hx
theorem thaw_sound (hp : Hp P H m S w) {x : AV} {v : Value} (hx : Rd P H m S w x v) : Rd P H m S w (thaw H x) v := by
 unfold thaw
 split
 ·rename_i y hy
  exact .p _ _ (pvOf_sound hp hy hx)
 ·exact .dead _
theorem run_alloc_of {t : TypeId} {i : TI} (hi : tiOf P t = some i) (w : World) : (Instr.alloc t true (.tuple #[])).run P w = .ok (.pointer (some ⟨w.heap.size, 0, none⟩)) (w.alloc (.cells i.zero.cells t)) := by
 obtain ⟨inf, d, hinf, hd, hz, hs, _, hk, _⟩ := tiOf_spec hi
 simp [Instr.alloc, zeroValue, typeInfo, hinf, hz, newVar, newRow]
theorem run_box_of (t : TypeId) (v : Value) (w : World) : (Instr.box t v).run P w = .ok (.pointer (some ⟨w.heap.size, 0, none⟩)) (w.alloc (.cells v.cells t)) := by
 simp [Instr.box, newVar, newRow]
theorem Stp.newCells (hp : Hp P H m S w) {cs : List AV} {vs : Array Value} (h : RdL P H m S w cs vs) (t : TypeId) :
  Stp P H m S w (H ++ [some (.cells cs)]) (upd m H.length (.pointer (some ⟨w.heap.size, 0, none⟩))) S (w.alloc (.cells vs t)) /\
  Rd P (H ++ [some (.cells cs)]) (upd m H.length (.pointer (some ⟨w.heap.size, 0, none⟩))) S (w.alloc (.cells vs t)) (.ptr H.length 0) (.pointer (some ⟨w.heap.size, 0, none⟩)) := by
 refine ⟨Stp.push hp rfl rfl rfl (by simp) (fun b hb => Below.heap_alloc w _ _ hb) (fun hk => ?_) (fun b hb => ?_), ?_⟩
 ·exact ⟨w.heap.size, t, vs, rfl, heap_alloc_new w _, (Nat.le_of_eq h.1.symm), fun k c hc => ⟨(h.2 k c hc).1.mono hk (fun _ h => h) (older_push _ _), (h.2 k c hc).2⟩⟩
 ·have hb := (own_iff rfl).1 hb
  simp [Abs.blk] at hb
  omega
 ·refine .ptr _ _ _ (by simp) fun o hl => ⟨w.heap.size, if_pos rfl, rfl⟩
theorem madeCells_at (z : Array Value) (n k : Nat) (hk : k < n) (h0 : 0 < z.size) : (madeCells z n)[k]? = some (z.getD (k % z.size) undef) := by
 have hlt : k % z.size < z.size := Nat.mod_lt _ h0
 simp [madeCells, hk, Array.getD, hlt]
theorem Stp.newBuf (hp : Hp P H m S w) {e : TypeId} {i : TypeInfo} {xs : List PV} {cur : Array Value} {n cap : Nat} (hi : P.info? e = some i) (hsz : 0 < i.size) (hn : n = xs.length) (hc : n <= cap) (hm : cap <= maxLen) (hcs : cur.size = cap * i.size)
  (hz : ∀ x ∈ xs, x.cells.length = i.size) (hr : ∀ (k : Nat) (c : PV), (flat xs)[k]? = some c -> ∃ u : Value, cur[k]? = some u /\ RdP S w c u /\ u.oneCell' = true) :
  Stp P H m S w (H ++ [some (.buf e false xs)]) (upd m H.length (.slice (some ⟨w.heap.size, 0, none⟩) n cap)) S (w.alloc (.cells cur e)) /\
  Rd P (H ++ [some (.buf e false xs)]) (upd m H.length (.slice (some ⟨w.heap.size, 0, none⟩) n cap)) S (w.alloc (.cells cur e)) (.buf H.length) (.slice (some ⟨w.heap.size, 0, none⟩) n cap) := by
 subst hn
 have hle : xs.length * i.size <= cap * i.size := Nat.mul_le_mul_right _ hc
 refine ⟨Stp.push hp rfl rfl rfl (by simp) (fun b hb => Below.heap_alloc w _ _ hb) (fun hk => ?_) (fun b hb => ?_), ?_⟩
 ·refine ⟨i, cur.toList.take (xs.length * i.size), hi, hsz, ⟨by rw [List.length_take, show cur.toList.length = cap * i.size from hcs]; exact Nat.min_eq_left hle, .inr ⟨w.heap.size, cap, cur, rfl, Nat.zero_le _, heap_alloc_new w _, hc, hm, hcs, rfl⟩⟩, hz, fun k c hc' => ?_, by simp⟩
  obtain ⟨u, hu, h1, h2⟩ := hr k c hc'
  have hlt : k < xs.length * i.size := by have := (List.getElem?_eq_some_iff.1 hc').1; rw [flat_length hz] at this; exact this
  exact ⟨u, by rw [List.getElem?_take, if_pos hlt]; simpa using hu, h1.mono hk (fun _ h => h), h2⟩
 ·have hb := (own_iff rfl).1 hb
  simp [Abs.blk, Value.ownBlock] at hb
  omega
 ·exact .buf _ _ _ _ (by simp) fun o hl => if_pos rfl
theorem pz_cells (z : Value) : (pz z).cells = z.cells.toList.map ofCell := by
 unfold pz
 split
 ·rfl
 ·rename_i h
  have hc : z.cells = #[z] := by cases z <;> first | rfl | (exact absurd rfl (h _))
  rw [hc]
  show (ofCell z).cells = [ofCell z]
  unfold ofCell
  split <;> rfl
theorem ofCell_sound {v : Value} (h : v.oneCell' = true) : RdP S w (ofCell v) v := by
 unfold ofCell
 split
 ·exact .nil
 ·exact .v _ h
theorem flat_replicate (n : Nat) (x : PV) (k : Nat) (c : PV) (h : (flat (List.replicate n x))[k]? = some c) : x.cells[k % x.cells.length]? = some c /\ k < n * x.cells.length := by
 induction n generalizing k with
 | zero => simp [flat] at h
 | succ n ih =>
  simp only [flat, List.replicate_succ, List.flatMap_cons] at h
  by_cases hk : k < x.cells.length
  ·rw [List.getElem?_append_left hk] at h
   rw [Nat.mod_eq_of_lt hk, Nat.succ_mul]
   exact ⟨h, by omega⟩
  ·rw [List.getElem?_append_right (by omega)] at h
   obtain ⟨h1, h2⟩ := ih (k - x.cells.length) h
   rw [Nat.mod_eq_sub_mod (by omega), Nat.succ_mul]
   exact ⟨h1, by omega⟩
end
end Go.Abs
namespace Go.Abs
open Go.RowKit
section
variable {P : Program} {ti : TypeId -> Option TI} {H : AH} {m : Nat -> Value} {S : Nat -> Prop} {w : World}
theorem older_set {id : Nat} {o o' : AO} (hl : live H id o) (hb : ∀ e nl xs, o' = .buf e nl xs -> ∃ nl0 xs0, o = .buf e nl0 xs0 /\ xs0.length <= xs.length) (hbL : ∀ e xs l, o' = .bufL e xs l -> ∃ l0, o = .bufL e xs l0 := by intro _ _ _ h; cases h) (hbR : ∀ e, o'.row = some e -> o.row = some e := by intro _ h; first | exact h | cases h) : Older H (H.set id (some o')) m m := by
 refine ⟨by simp, fun j hj p hp => ⟨rfl, ?_⟩⟩
 rcases live_set hp with ⟨rfl, he⟩ | ⟨_, hl'⟩
 ·injection he with he
  subst he
  exact ⟨o, hl, hb, hbL, hbR⟩
 ·exact ⟨p, hl', fun e nl xs he => ⟨nl, xs, he, Nat.le_refl _⟩, fun _ _ l he => ⟨l, he⟩, fun _ h => h⟩
def thawC (H : AH) (id : Nat) : AH := match H[id]? with
 | some (some (.cells cs)) => H.set id (some (.cells (cs.map (thaw H))))
 | _ => H
def thawCs (H : AH) (ids : List Nat) : AH := ids.foldl thawC H
theorem Stp.thawC (hp : Hp P H m S w) (id : Nat) : Stp P H m S w (Abs.thawC H id) m S w := by
 unfold Abs.thawC
 split
 ·rename_i cs hH
  have hl : live H id (.cells cs) := hH
  obtain ⟨b, T, vs, h1, h2, h3, h4⟩ := hp.obj id _ hl
  have hold : Older H (H.set id (some (.cells (cs.map (thaw H))))) m m := older_set hl (fun _ _ _ he => by cases he)
  refine Stp.at_ (fun j => j = id) hp hold (fun j p hj hlp => ?_) rfl rfl rfl (Nat.le_refl _) (fun _ _ _ => rfl) (fun j p hj hlp hk => ?_) (fun j p b hj hlp hbb => ?_) (fun i j _ _ _ hi hj _ _ _ _ => hi.trans hj.symm)
  ·rcases live_set hlp with ⟨rfl, _⟩ | ⟨_, hl'⟩
   ·exact absurd rfl hj
   ·exact ⟨hl', rfl⟩
  ·subst hj
   rcases live_set hlp with ⟨_, he⟩ | ⟨hne, _⟩
   ·injection he with he
    subst he
    refine ⟨b, T, vs, h1, h2, by rw [List.length_map]; exact h3, fun k c hc => ?_⟩
    rw [List.getElem?_map, Option.map_eq_some_iff] at hc
    obtain ⟨c0, hc0, rfl⟩ := hc
    exact ⟨(thaw_sound hp (h4 k c0 hc0).1).mono hk (fun _ h => h) hold, (h4 k c0 hc0).2⟩
   ·exact absurd rfl hne
  ·subst hj
   rcases live_set hlp with ⟨_, he⟩ | ⟨hne, _⟩
   ·injection he with he
    subst he
    exact .inl ⟨j, _, rfl, hl, hbb⟩
   ·exact absurd rfl hne
 ·exact Stp.refl hp
theorem Stp.thawCs : ∀ (ids : List Nat) (H : AH), Hp P H m S w -> Stp P H m S w (Abs.thawCs H ids) m S w
 | [], H, hp => Stp.refl hp
 | id :: ids, H, hp => (Stp.thawC hp id).trans (Stp.thawCs ids (Abs.thawC H id) (Stp.thawC hp id).hp)
theorem Stp.store (hp : Hp P H m S w) {id : Nat} {o o' : AO} {g : Nat} {cur new : Array Value} {T : TypeId} (hl : live H id o) (hg : Own w (m id) o g) (hh : w.heap[g]? = some (.cells cur T (0, 0)))
  (hold : ∀ e nl xs, o' = .buf e nl xs -> ∃ nl0 xs0, o = .buf e nl0 xs0 /\ xs0.length <= xs.length) (hb : ∀ b, Own (w.setRow g new) (m id) o' b -> Own w (m id) o b)
  (hok : Keeps S w (w.setRow g new) -> (w.setRow g new).heap[g]? = some (.cells new T (0, 0)) -> OK P (H.set id (some o')) m S (w.setRow g new) (m id) o')
  (hbL : ∀ e xs l, o' = .bufL e xs l -> ∃ l0, o = .bufL e xs l0 := by intro _ _ _ h; cases h) (hbR : ∀ e, o'.row = some e -> o.row = some e := by intro _ h; first | exact h | cases h) :
  Stp P H m S w (H.set id (some o')) m S (w.setRow g new) := by
 refine Stp.at_ (fun j => j = id) hp (older_set hl hold hbL hbR) (fun j p hj hlp => ?_) rfl rfl rfl (by simp) (fun b hlt hn => ?_) (fun j p hj hlp hk => ?_) (fun j p b hj hlp hbb => ?_) (fun i j _ _ _ hi hj _ _ _ _ => hi.trans hj.symm)
 ·rcases live_set hlp with ⟨rfl, _⟩ | ⟨_, hl'⟩
  ·exact absurd rfl hj
  ·exact ⟨hl', rfl⟩
 ·exact setRow_other w g b new fun e => by subst e; exact hn id o rfl hl hg
 ·subst hj
  rcases live_set hlp with ⟨_, he⟩ | ⟨hne, _⟩
  ·injection he with he
   subst he
   exact hok hk (setRow_heap w g cur new T (0, 0) hh)
  ·exact absurd rfl hne
 ·subst hj
  rcases live_set hlp with ⟨_, he⟩ | ⟨hne, _⟩
  ·injection he with he
   subst he
   exact .inl ⟨j, o, rfl, hl, hb b hbb⟩
  ·exact absurd rfl hne
def splice (cur : List Value) (o : Nat) (vs : List Value) : List Value := cur.take o ++ vs ++ cur.drop (o + vs.length)
theorem splice_length {cur : List Value} {o : Nat} {vs : List Value} (h : o + vs.length <= cur.length) : (splice cur o vs).length = cur.length := by
 simp only [splice, List.length_append, List.length_take, List.length_drop]; omega
theorem splice_in {cur : List Value} {o : Nat} {vs : List Value} (h : o + vs.length <= cur.length) {j : Nat} (hj : j < vs.length) : (splice cur o vs)[o + j]? = vs[j]? := by
 unfold splice
 rw [List.append_assoc, List.getElem?_append_right (by rw [List.length_take]; omega), List.length_take, Nat.min_eq_left (by omega), Nat.add_sub_cancel_left, List.getElem?_append_left hj]
theorem splice_out {cur : List Value} {o : Nat} {vs : List Value} (h : o + vs.length <= cur.length) {k : Nat} (hk : k < o \/ o + vs.length <= k) : (splice cur o vs)[k]? = cur[k]? := by
 unfold splice
 rcases hk with hk | hk
 ·rw [List.append_assoc, List.getElem?_append_left (by rw [List.length_take]; omega), List.getElem?_take, if_pos hk]
 ·rw [List.getElem?_append_right (by rw [List.length_append, List.length_take]; omega), List.getElem?_drop]
  congr 1
  rw [List.length_append, List.length_take]
  omega
theorem setAt_length (off : Nat) : ∀ (xs : List AV) (n : Nat) (cs : List AV), (setAt cs (off + n) xs).length = cs.length
 | [], n, cs => rfl
 | x :: xs, n, cs => by simp only [setAt]; rw [Nat.add_assoc, setAt_length off xs (n + 1)]; simp
theorem setAt_at : ∀ (xs : List AV) (off : Nat) (cs : List AV) (k : Nat) (c : AV), (setAt cs off xs)[k]? = some c -> off + xs.length <= cs.length ->
  (∃ j, k = off + j /\ xs[j]? = some c) \/ ((k < off \/ off + xs.length <= k) /\ cs[k]? = some c)
 | [], off, cs, k, c, h, _ => .inr ⟨by simp; omega, h⟩
 | x :: xs, off, cs, k, c, h, hl => by
  simp only [setAt] at h
  simp only [List.length_cons] at hl
  rcases setAt_at xs (off + 1) (cs.set off x) k c h (by simp; omega) with ⟨j, rfl, hj⟩ | ⟨hk, hc⟩
  ·exact .inl ⟨j + 1, by omega, by simpa using hj⟩
  ·rw [List.getElem?_set] at hc
   by_cases he : off = k
   ·subst he
    rw [if_pos rfl] at hc
    split at hc
    ·exact .inl ⟨0, rfl, by simpa using hc⟩
    ·cases hc
   ·rw [if_neg he] at hc
    exact .inr ⟨by simp; omega, hc⟩
theorem run_storeAt_of {t : TypeId} {i : TI} (hi : tiOf P t = some i) {g off : Nat} {cur : Array Value} {T : TypeId} (hh : w.heap[g]? = some (.cells cur T (0, 0))) {v : Value} (hs : v.cells.size = i.size) (h1 : ∀ u ∈ v.cells.toList, u.oneCell' = true) (hle : off + i.size <= cur.size) :
  (Instr.storeAt t (.pointer (some ⟨g, off, none⟩)) v).run P w = .ok () (w.setRow g (splice cur.toList off v.cells.toList).toArray) := by
 obtain ⟨inf, hinf, hs'⟩ := size_of hi
 have hst := run_storeCells_at P g off T v.cells.toList 0 cur w hh (by simp; omega) h1
 simp only [Nat.add_zero] at hst
 simp [Instr.storeAt, Instr.sureAddr, storeVar, sizeOf, typeInfo, hinf, hs, hs', hst, splice]
theorem Stp.storeCells (hp : Hp P H m S w) {t : TypeId} {i : TI} (hi : tiOf P t = some i) {id off : Nat} {cs : List AV} (hH : live H id (.cells cs)) {x : AV} {v : Value} (hx : Rd P H m S w x v) (h1 : x.cells.all AV.one = true) (hxl : x.cells.length = i.size)
  (hle : off + i.size <= cs.length) {va : Value} (ha : Rd P H m S w (.ptr id off) va) :
  ∃ w', (Instr.storeAt t va v).run P w = .ok () w' /\ Stp P H m S w (H.set id (some (.cells (setAt cs off x.cells)))) m S w' := by
 obtain ⟨b, T, vs, hm, hh, hl, hr⟩ := hp.obj id _ hH
 have hva : va = .pointer (some ⟨b, off, none⟩) := by
  cases ha with
  | ptr _ _ a hid hb =>
   obtain ⟨b', hm', rfl⟩ := hb _ hH
   rw [hm] at hm'
   injection hm' with h2; injection h2 with h2; injection h2 with h2
   subst h2
   rfl
 subst hva
 obtain ⟨hs, hc⟩ := hx.cells (one_or h1)
 have hoc : ∀ u ∈ v.cells.toList, u.oneCell' = true := by
  intro u hu
  obtain ⟨j, hj, rfl⟩ := List.mem_iff_getElem.1 hu
  have hj' : j < x.cells.length := by rw [<- hs]; simpa using hj
  have := (hc j _ (List.getElem?_eq_getElem hj')).2
  have hj2 : j < v.cells.size := by simpa using hj
  simpa [Array.getD, hj2] using this
 have hvl : v.cells.toList.length = i.size := by rw [Array.length_toList, hs, hxl]
 refine ⟨_, run_storeAt_of hi hh (by rw [hs, hxl]) hoc (by omega), ?_⟩
 have hle' : off + v.cells.toList.length <= vs.toList.length := by rw [hvl, Array.length_toList]; omega
 refine Stp.store hp (o := .cells cs) (T := T) (cur := vs) hH (.inl (by rw [hm]; rfl)) hh (fun _ _ _ h => by cases h) (fun b h => by exact own_to h rfl rfl rfl) fun hk hh' => ?_
 refine ⟨b, T, _, hm, hh', ?_, fun k c hk' => ?_⟩
 ·have h3 := setAt_length off x.cells 0 cs
  rw [Nat.add_zero] at h3
  have h5 : (splice vs.toList off v.cells.toList).toArray.size = vs.size := by rw [List.size_toArray, splice_length hle', Array.length_toList]
  rw [h5]
  exact Nat.le_trans (Nat.le_of_eq h3) hl
 ·have hold : Older H (H.set id (some (.cells (setAt cs off x.cells)))) m m := older_set hH (fun _ _ _ h => by cases h)
  have hget : ∀ (l : List Value) (k : Nat) (u : Value), l[k]? = some u -> l.toArray.getD k undef = u := fun l k u h => by simp [Array.getD_eq_getD_getElem?, h]
  rcases setAt_at x.cells off cs k c hk' (by omega) with ⟨j, rfl, hj⟩ | ⟨hko, hkc⟩
  ·have hjl : j < v.cells.toList.length := by have := (List.getElem?_eq_some_iff.1 hj).1; omega
   have hj2 : j < v.cells.size := by simpa using hjl
   have h3 := hc j c hj
   have e : v.cells.getD j undef = v.cells[j] := by simp [Array.getD, hj2]
   rw [e] at h3
   rw [hget _ _ v.cells[j] (by rw [splice_in hle' hjl]; simp [hj2])]
   exact ⟨h3.1.mono hk (fun _ h => h) hold, h3.2⟩
  ·have h3 := hr k c hkc
   have hkl : k < vs.size := Nat.lt_of_lt_of_le (List.getElem?_eq_some_iff.1 hkc).1 hl
   have e : vs.getD k undef = vs[k] := by simp [Array.getD, hkl]
   rw [e] at h3
   rw [hget _ _ vs[k] (by rw [splice_out hle' (by omega)]; simp [hkl])]
   exact ⟨h3.1.mono hk (fun _ h => h) hold, h3.2⟩
def setP (cs : List PV) (off : Nat) : List PV -> List PV
 | [] => cs
 | c :: r => setP (cs.set off c) (off + 1) r
def PV.setAt (y : PV) (off : Nat) (cs : List PV) : PV := match y with
 | .agg ds => .agg (setP ds off cs)
 | .v x => match cs with
  | [c] => c
  | _ => .v x
 | .list nl xs => match cs with
  | [c] => c
  | _ => .list nl xs
def PV.one : PV -> Bool
 | .agg _ => false
 | _ => true
theorem setP_length : ∀ (cs : List PV) (off : Nat) (ds : List PV), (setP ds off cs).length = ds.length
 | [], off, ds => rfl
 | c :: r, off, ds => by simp only [setP]; rw [setP_length r]; simp
theorem setP_at : ∀ (xs : List PV) (off : Nat) (cs : List PV) (k : Nat) (c : PV), (setP cs off xs)[k]? = some c -> off + xs.length <= cs.length ->
  (∃ j, k = off + j /\ xs[j]? = some c) \/ ((k < off \/ off + xs.length <= k) /\ cs[k]? = some c)
 | [], off, cs, k, c, h, _ => .inr ⟨by simp; omega, h⟩
 | x :: xs, off, cs, k, c, h, hl => by
  simp only [setP] at h
  simp only [List.length_cons] at hl
  rcases setP_at xs (off + 1) (cs.set off x) k c h (by simp; omega) with ⟨j, rfl, hj⟩ | ⟨hk, hc⟩
  ·exact .inl ⟨j + 1, by omega, by simpa using hj⟩
  ·rw [List.getElem?_set] at hc
   by_cases he : off = k
   ·subst he
    rw [if_pos rfl] at hc
    split at hc
    ·exact .inl ⟨0, rfl, by simpa using hc⟩
    ·cases hc
   ·rw [if_neg he] at hc
    exact .inr ⟨by simp; omega, hc⟩
theorem cells_one {c : PV} (h : c.one = true) : c.cells = [c] := by
 cases c with
 | v x => rfl
 | list nl xs => rfl
 | agg cs => simp [PV.one] at h
theorem PV.setAt_spec {y : PV} {off : Nat} {cs : List PV} (h1 : cs.all PV.one = true) (hle : off + cs.length <= y.cells.length) (h0 : 0 < cs.length) :
  (y.setAt off cs).cells.length = y.cells.length /\ ∀ (k : Nat) (c : PV), (y.setAt off cs).cells[k]? = some c -> (∃ j, k = off + j /\ cs[j]? = some c) \/ ((k < off \/ off + cs.length <= k) /\ y.cells[k]? = some c) := by
 cases y with
 | agg ds => exact ⟨setP_length _ _ _, fun k c hk => setP_at cs off ds k c hk hle⟩
 | v x =>
  match cs, h0, hle, h1 with
  | [c], _, hle, h1 =>
   have h1' : c.one = true := by simpa using h1
   simp only [PV.cells, List.length_cons, List.length_nil] at hle
   obtain rfl : off = 0 := by omega
   show c.cells.length = _ /\ ∀ k d, c.cells[k]? = some d -> _
   rw [cells_one h1']
   refine ⟨rfl, fun k d hk => ?_⟩
   cases k with
   | zero => exact .inl ⟨0, rfl, hk⟩
   | succ k => simp at hk
  | a :: b :: r, _, hle, _ => simp [PV.cells] at hle; omega
 | list nl xs =>
  match cs, h0, hle, h1 with
  | [c], _, hle, h1 =>
   have h1' : c.one = true := by simpa using h1
   simp only [PV.cells, List.length_cons, List.length_nil] at hle
   obtain rfl : off = 0 := by omega
   show c.cells.length = _ /\ ∀ k d, c.cells[k]? = some d -> _
   rw [cells_one h1']
   refine ⟨rfl, fun k d hk => ?_⟩
   cases k with
   | zero => exact .inl ⟨0, rfl, hk⟩
   | succ k => simp at hk
  | a :: b :: r, _, hle, _ => simp [PV.cells] at hle; omega
end
end Go.Abs
namespace Go.Abs
open Go.RowKit
section
variable {P : Program} {ti : TypeId -> Option TI} {H : AH} {m : Nat -> Value} {S : Nat -> Prop} {w : World}
theorem oneCell_cells {v : Value} (h : v.oneCell' = true) : v.cells = #[v] := by
 cases v <;> first | rfl | (simp [Value.oneCell'] at h)
theorem RdP.cells {x : PV} {v : Value} (h : RdP S w x v) : v.cells.size = x.cells.length /\ ∀ (k : Nat) (c : PV), x.cells[k]? = some c -> ∃ u : Value, v.cells[k]? = some u /\ RdP S w c u /\ u.oneCell' = true := by
 have one : ∀ {x : PV} {v : Value}, RdP S w x v -> v.oneCell' = true -> x.cells = [x] -> v.cells = #[v] ->
   v.cells.size = x.cells.length /\ ∀ (k : Nat) (c : PV), x.cells[k]? = some c -> ∃ u : Value, v.cells[k]? = some u /\ RdP S w c u /\ u.oneCell' = true := by
  intro x v h ho hx hv
  rw [hx, hv]
  refine ⟨rfl, fun k c hk => ?_⟩
  cases k with
  | zero => simp at hk; subst hk; exact ⟨v, rfl, h, ho⟩
  | succ k => simp at hk
 cases h with
 | v _ ho => exact one (.v _ ho) ho rfl (oneCell_cells ho)
 | nil => exact one .nil rfl rfl rfl
 | list xs a cap sz us hS hc hm hz hu hr => exact one (.list xs a cap sz us hS hc hm hz hu hr) rfl rfl rfl
 | agg cs vs hl ho hr =>
  refine ⟨hl, fun k c hk => ?_⟩
  have hlt : k < vs.size := by rw [hl]; exact (List.getElem?_eq_some_iff.1 hk).1
  refine ⟨vs.getD k undef, ?_, hr k c hk, ho k c hk⟩
  simp [Value.cells, Array.getD, hlt]
theorem Stp.storeBuf (hp : Hp P H m S w) {t : TypeId} {i : TI} (hi : tiOf P t = some i) {id ix off : Nat} {e : TypeId} {nl : Bool} {xs : List PV} {y : PV} (hH : live H id (.buf e nl xs)) (hy : xs[ix]? = some y) {px : PV} {v : Value} (hx : RdP S w px v)
  (h1 : px.cells.all PV.one = true) (hxl : px.cells.length = i.size) (h0 : 0 < i.size) (hle : off + i.size <= y.cells.length) {va : Value} (ha : Rd P H m S w (.bptr id ix off) va) :
  ∃ w', (Instr.storeAt t va v).run P w = .ok () w' /\ Stp P H m S w (H.set id (some (.buf e nl (xs.set ix (y.setAt off px.cells))))) m S w' := by
 obtain ⟨inf, us, hinf, hsz, ho, hz, hr, hn⟩ := hp.obj id _ hH
 have hlt : ix < xs.length := (List.getElem?_eq_some_iff.1 hy).1
 have hmem : y ∈ xs := by rw [<- (List.getElem?_eq_some_iff.1 hy).2]; exact List.getElem_mem ..
 have hyl := hz y hmem
 rcases ho.2 with ⟨hv, hl0⟩ | ⟨g, cap, cur, hv, hg0, hh, hc, hm, hcs, htk⟩
 ·omega
 have hva : va = .pointer (some ⟨g, ix * inf.size + off, none⟩) := by
  cases ha with
  | bptr _ _ _ a hid hb =>
   obtain ⟨inf', g', l, c, h1, h2, rfl⟩ := hb _ _ _ hH
   rw [hinf] at h1
   injection h1 with h1
   subst h1
   rw [hv] at h2
   injection h2 with h2
   injection h2 with h2
   injection h2 with h2
   subst h2
   rfl
 subst hva
 obtain ⟨hs, hcell⟩ := hx.cells
 have hoc : ∀ u ∈ v.cells.toList, u.oneCell' = true := by
  intro u hu
  obtain ⟨j, hj, rfl⟩ := List.mem_iff_getElem.1 hu
  have hj' : j < px.cells.length := by rw [<- hs]; simpa using hj
  obtain ⟨u', hu', _, h3⟩ := hcell j _ (List.getElem?_eq_getElem hj')
  have hj2 : j < v.cells.size := by simpa using hj
  simp [hj2] at hu'
  simpa [hu'] using h3
 have hmul : (ix + 1) * inf.size <= xs.length * inf.size := Nat.mul_le_mul_right _ hlt
 have hmul2 : xs.length * inf.size <= cap * inf.size := Nat.mul_le_mul_right _ hc
 rw [Nat.succ_mul] at hmul
 have hvl : v.cells.toList.length = i.size := by rw [Array.length_toList, hs, hxl]
 have hfit : ix * inf.size + off + i.size <= xs.length * inf.size := by omega
 refine ⟨_, run_storeAt_of hi hh (by rw [hs, hxl]) hoc (by omega), ?_⟩
 have hle' : (ix * inf.size + off) + v.cells.toList.length <= cur.toList.length := by rw [hvl, Array.length_toList]; omega
 have hspec := PV.setAt_spec (y := y) (off := off) (cs := px.cells) h1 (by omega) (by omega)
 have hz' : ∀ x ∈ xs.set ix (y.setAt off px.cells), x.cells.length = inf.size := by
  intro x hx
  rcases List.mem_or_eq_of_mem_set hx with h | h
  ·exact hz x h
  ·rw [h, hspec.1, hyl]
 refine Stp.store hp (T := e) (cur := cur) hH (.inl (by show (m id).ownBlock = _; rw [hv]; rfl)) hh (fun e' nl' xs' h => ?_) (fun b h => by exact own_to h rfl rfl rfl) fun hk hh' => ?_
 ·injection h with h2 h3 h4
  subst h2; subst h3; subst h4
  exact ⟨_, _, rfl, by simp⟩
 ·refine ⟨inf, ((splice cur.toList (ix * inf.size + off) v.cells.toList).take (xs.length * inf.size)), hinf, hsz, ⟨?_, .inr ⟨g, cap, _, by rw [List.length_set]; exact hv, hg0, hh', by rw [List.length_set]; exact hc, hm, ?_, ?_⟩⟩, hz', fun k c hk' => ?_, hn⟩
  ·rw [List.length_take, splice_length hle', List.length_set]
   show min _ cur.size = _
   omega
  ·show (splice _ _ _).length = _
   rw [splice_length hle', Array.length_toList, hcs]
  ·rw [List.length_set]
  ·obtain ⟨i', j, x, rfl, hj, hx', hc'⟩ := flat_inv hz' hk'
   have hi' : i' < xs.length := by have := (List.getElem?_eq_some_iff.1 hx').1; simpa using this
   have hm1 : (i' + 1) * inf.size <= xs.length * inf.size := Nat.mul_le_mul_right _ hi'
   rw [Nat.succ_mul] at hm1
   rw [List.getElem?_take, if_pos (by omega)]
   have oldcell : ∀ (x : PV), xs[i']? = some x -> x.cells[j]? = some c -> ((i' * inf.size + j) < ix * inf.size + off \/ ix * inf.size + off + v.cells.toList.length <= i' * inf.size + j) ->
     ∃ u : Value, (splice cur.toList (ix * inf.size + off) v.cells.toList)[i' * inf.size + j]? = some u /\ RdP S (w.setRow g (splice cur.toList (ix * inf.size + off) v.cells.toList).toArray) c u /\ u.oneCell' = true := by
    intro x h1 h2 h3
    obtain ⟨u, hu, hru, hu1⟩ := hr _ c (flat_at hz _ _ h1 _ _ h2)
    refine ⟨u, ?_, hru.mono hk (fun _ h => h), hu1⟩
    rw [splice_out hle' h3]
    rw [<- htk, List.getElem?_take] at hu
    split at hu
    ·exact hu
    ·cases hu
   rw [List.getElem?_set] at hx'
   by_cases hii : ix = i'
   ·subst hii
    rw [if_pos rfl, if_pos hlt] at hx'
    injection hx' with hx'
    subst hx'
    rcases hspec.2 j c hc' with ⟨j', rfl, hj'⟩ | ⟨hjo, hjc⟩
    ·have hjl : j' < v.cells.toList.length := by have := (List.getElem?_eq_some_iff.1 hj').1; omega
     obtain ⟨u, hu, hru, hu1⟩ := hcell j' c hj'
     refine ⟨u, ?_, hru.mono hk (fun _ h => h), hu1⟩
     rw [<- Nat.add_assoc, splice_in hle' hjl]
     simpa using hu
    ·exact oldcell y hy hjc (by omega)
   ·rw [if_neg hii] at hx'
    refine oldcell x hx' hc' ?_
    rcases Nat.lt_or_gt_of_ne hii with hlt' | hgt'
    ·right
     have : (ix + 1) * inf.size <= i' * inf.size := Nat.mul_le_mul_right _ hlt'
     rw [Nat.succ_mul] at this
     omega
    ·left
     have : (i' + 1) * inf.size <= ix * inf.size := Nat.mul_le_mul_right _ hgt'
     rw [Nat.succ_mul] at this
     omega
theorem flat_append (xs ys : List PV) : flat (xs ++ ys) = flat xs ++ flat ys := by simp [flat]
structure Src (S : Nat -> Prop) (w : World) (sz : Nat) (ys : List PV) (v : Value) : Prop where
 ok : ∀ x ∈ ys, x.cells.length = sz
 at_ : (ys = [] /\ ∃ a c, v = .slice a 0 c) \/ ∃ (a : Addr) (c : Nat) (news : List Value), v = .slice (some a) ys.length c /\ news.length = ys.length * sz /\ (∀ (j : Nat) (u : Value), news[j]? = some u -> w.cell? (a.add j) = some u) /\
  (∀ (k : Nat) (c : PV), (flat ys)[k]? = some c -> ∃ u : Value, news[k]? = some u /\ RdP S w c u /\ u.oneCell' = true)
theorem src_of_list {nl : Bool} {ys : List PV} {v : Value} {sz : Nat} (h : RdP S w (.list nl ys) v) (hsz : ∀ x ∈ ys, x.cells.length = sz) : Src S w sz ys v := by
 refine ⟨hsz, ?_⟩
 cases h with
 | nil => exact .inl ⟨rfl, _, _, rfl⟩
 | list _ a cap sz' us hS hc hm hz hu hr =>
  refine .inr ⟨a, cap, (List.range (flat ys).length).map us, rfl, by simp [flat_length hsz], fun j u hj => ?_, fun k c hk => ?_⟩
  ·simp only [List.getElem?_map, Option.map_eq_some_iff] at hj
   obtain ⟨j', hj', rfl⟩ := hj
   have hlt : j < (flat ys).length := by have := (List.getElem?_eq_some_iff.1 hj').1; simpa using this
   have : j' = j := by simpa [hlt] using hj'.symm
   subst this
   exact (hu j' _ (List.getElem?_eq_getElem hlt)).1
  ·have hlt := (List.getElem?_eq_some_iff.1 hk).1
   exact ⟨us k, by simp [hlt], hr k c hk, (hu k c hk).2⟩
end
end Go.Abs
namespace Go.Abs
open Go.RowKit
section
variable {P : Program} {ti : TypeId -> Option TI} {H : AH} {m : Nat -> Value} {S : Nat -> Prop} {w : World}
theorem run_append_nilSrc (base : Nat) (t ty e : TypeId) (i : TypeInfo) (ht : P.underlying t = some (.slice e)) (hi : P.info? e = some i)
  (v : Value) (n : Nat) (us : List Value) (hown : w.ownsRow base e i.size v n us) (c : Nat) : (Builtin.append_ #[t, t] ty #[v, .slice none 0 c]).run P w = .ok v w := by
 rcases hown.2 with ⟨rfl, rfl⟩ | ⟨g, cap, cur, rfl, _, _, hnc, _⟩
 ·simp [Builtin.append_, run_underlying ht, sizeOf, typeInfo, hi, Builtin.lenOf, Builtin.firstCells]
 ·simp [Builtin.append_, run_underlying ht, sizeOf, typeInfo, hi, Builtin.lenOf, Builtin.firstCells, hnc, storeCells]
def kill (H : AH) : Option Nat -> AH
 | some id => H.set id none
 | none => H
def Base (H : AH) (m : Nat -> Value) (e : TypeId) (ob : Option Nat) (v : Value) (nl : Bool) (xs : List PV) : Prop :=
 (ob = none /\ v = .slice none 0 0 /\ nl = true /\ xs = []) \/ ∃ id, ob = some id /\ live H id (.buf e nl xs) /\ v = m id
theorem live_kill {ob : Option Nat} {j : Nat} {p : AO} (h : live (kill H ob) j p) : ob ≠ some j /\ live H j p := by
 cases ob with
 | none => exact ⟨by simp, h⟩
 | some id =>
  rcases live_set h with ⟨_, he⟩ | ⟨hne, hl⟩
  ·cases he
  ·exact ⟨fun e => hne (by injection e with e; exact e.symm), hl⟩
theorem kill_length (H : AH) (ob : Option Nat) : (kill H ob).length = H.length := by cases ob <;> simp [kill]
def AppRun (P : Program) (S : Nat -> Prop) (w : World) (e : TypeId) (sz : Nat) (A : Sem Value) (v : Value) (n : Nat) (us : List Value) (ys : List PV) : Prop :=
 ∃ v' w' news, A.run P w = .ok v' w' /\ w'.ownsRow 0 e sz v' (n + ys.length) (us ++ news) /\ w.grownBy w' v.ownBlock /\
   (v' = .slice none 0 0 ↔ v = .slice none 0 0 /\ ys.length = 0) /\ (v'.ownBlock = v.ownBlock \/ v'.ownBlock = some w.heap.size) /\
   ∀ (k : Nat) (c : PV), (flat ys)[k]? = some c -> ∃ u : Value, news[k]? = some u /\ RdP S w c u /\ u.oneCell' = true
theorem Stp.appendCore (hp : Hp P H m S w) {e : TypeId} {i : TypeInfo} (hi : P.info? e = some i) (hsz : 0 < i.size) {A : Sem Value}
  {ob : Option Nat} {v : Value} {nl : Bool} {xs ys : List PV} (hb : Base H m e ob v nl xs) (hs : ∀ x ∈ ys, x.cells.length = i.size)
  (hA : ∀ us, w.ownsRow 0 e i.size v xs.length us -> AppRun P S w e i.size A v xs.length us ys) :
  ∃ v' w', A.run P w = .ok v' w' /\
   Stp P H m S w (kill H ob ++ [some (.buf e (ys.isEmpty && nl) (xs ++ ys))]) (upd m H.length v') S w' /\
   Rd P (kill H ob ++ [some (.buf e (ys.isEmpty && nl) (xs ++ ys))]) (upd m H.length v') S w' (.buf H.length) v' := by
 have hown : ∃ us, w.ownsRow 0 e i.size v xs.length us /\ (∀ x ∈ xs, x.cells.length = i.size) /\
   (∀ (k : Nat) (c : PV), (flat xs)[k]? = some c -> ∃ u : Value, us[k]? = some u /\ RdP S w c u /\ u.oneCell' = true) /\ (nl = true ↔ v = .slice none 0 0) := by
  rcases hb with ⟨_, rfl, rfl, rfl⟩ | ⟨id, _, hl, rfl⟩
  ·exact ⟨[], World.ownsRow_nil w 0 e i.size, by simp, by simp [flat], by simp⟩
  ·obtain ⟨i', us, h1, _, h3, h4, h5, h6⟩ := hp.obj id _ hl
   rw [hi] at h1
   injection h1 with h1
   subst h1
   exact ⟨us, h3, h4, h5, h6⟩
 obtain ⟨us, ho, hzx, hrx, hnl⟩ := hown
 have hrun := hA us ho
 obtain ⟨v', w', news, hrun, hown', hgrow, hnil', hat, hry⟩ := hrun
 have hform : ∃ a l c, v' = .slice a l c := by
  rcases hown'.2 with ⟨h, _⟩ | ⟨g, cap, cur, h, _⟩
  ·exact ⟨_, _, _, h⟩
  ·exact ⟨_, _, _, h⟩
 have hlenk := kill_length H ob
 have hliveN : ∀ {p : AO}, live (kill H ob ++ [some (.buf e (ys.isEmpty && nl) (xs ++ ys))]) H.length p -> p = .buf e (ys.isEmpty && nl) (xs ++ ys) := by
  intro p hl
  rw [<- hlenk] at hl
  rcases live_push hl with ⟨_, h⟩ | ⟨h, _⟩
  ·exact h
  ·omega
 have hupd : upd m H.length v' H.length = v' := if_pos rfl
 have hold : Older H (kill H ob ++ [some (.buf e (ys.isEmpty && nl) (xs ++ ys))]) m (upd m H.length v') := by
  refine ⟨by simp [hlenk], fun j hj p hl => ?_⟩
  rcases live_push hl with ⟨h, _⟩ | ⟨_, hl'⟩
  ·omega
  ·exact ⟨if_neg (by omega), p, (live_kill hl').2, fun e nl xs he => ⟨nl, xs, he, Nat.le_refl _⟩, fun _ _ l he => ⟨l, he⟩, fun _ h => h⟩
 have hblkv : ∀ b, v.ownBlock = some b -> ∃ id, ob = some id /\ live H id (.buf e nl xs) /\ Own w (m id) (.buf e nl xs) b := by
  intro b hbv
  rcases hb with ⟨_, rfl, _⟩ | ⟨id, h1, h2, rfl⟩
  ·cases hbv
  ·exact ⟨id, h1, h2, .inl hbv⟩
 have hzall : ∀ x ∈ xs ++ ys, x.cells.length = i.size := fun x hx => (List.mem_append.1 hx).elim (hzx x) (hs x)
 refine ⟨v', w', hrun, ?_, ?_⟩
 ·refine Stp.at_ (fun j => j = H.length \/ ob = some j) hp hold (fun j p hj hl => ?_) hgrow.os hgrow.tape hgrow.output hgrow.size (fun b hlt hn => ?_) (fun j p hj hl hk => ?_) (fun j p b hj hl hbb => ?_) (fun i j oi oj b hi' hj' hli hlj _ _ => ?_)
  ·rcases live_push hl with ⟨h, _⟩ | ⟨hlt, hl'⟩
   ·rw [hlenk] at h; exact absurd (.inl h) hj
   ·rw [hlenk] at hlt
    exact ⟨(live_kill hl').2, if_neg (by omega)⟩
  ·refine hgrow.block b hlt fun he => ?_
   obtain ⟨id, h1, h2, h3⟩ := hblkv b he.symm
   exact hn id _ (.inr h1) h2 h3
  ·rcases live_push hl with ⟨h, hpe⟩ | ⟨hlt, hl'⟩
   ·rw [hlenk] at h
    subst h
    have := hliveN hl
    subst this
    rw [hupd]
    refine ⟨i, us ++ news, hi, hsz, by rw [List.length_append]; exact hown', hzall, fun k c hk' => ?_, ?_⟩
    ·rw [flat_append] at hk'
     have hul : us.length = (flat xs).length := by rw [ho.1, flat_length hzx]
     by_cases hkl : k < (flat xs).length
     ·rw [List.getElem?_append_left hkl] at hk'
      obtain ⟨u, hu, h1, h2⟩ := hrx k c hk'
      exact ⟨u, by rw [List.getElem?_append_left (by omega)]; exact hu, h1.mono hk (fun _ h => h), h2⟩
     ·rw [List.getElem?_append_right (by omega)] at hk'
      obtain ⟨u, hu, h1, h2⟩ := hry _ c hk'
      exact ⟨u, by rw [List.getElem?_append_right (by omega), hul]; exact hu, h1.mono hk (fun _ h => h), h2⟩
    ·rw [hnil', <- hnl, Bool.and_eq_true, List.isEmpty_iff]
     constructor
     ·rintro ⟨rfl, h⟩; exact ⟨h, rfl⟩
     ·rintro ⟨h, h0⟩; exact ⟨List.eq_nil_of_length_eq_zero h0, h⟩
   ·rw [hlenk] at hlt
    rcases hj with rfl | hj
    ·omega
    ·exact absurd hj (live_kill hl').1
  ·rcases live_push hl with ⟨h, hpe⟩ | ⟨hlt, hl'⟩
   ·rw [hlenk] at h
    subst h
    subst hpe
    rw [hupd] at hbb
    replace hbb := (own_iff rfl).1 hbb
    rcases hat with h | h
    ·have hbb' : v.ownBlock = some b := h.symm.trans hbb
     obtain ⟨id, h1, h2, h3⟩ := hblkv b hbb'
     exact .inl ⟨id, _, .inr h1, h2, h3⟩
    ·have hbb' : v'.ownBlock = some b := hbb
     rw [h] at hbb'
     injection hbb' with hbb'
     exact .inr (by omega)
   ·rw [hlenk] at hlt
    rcases hj with rfl | hj
    ·omega
    ·exact absurd hj (live_kill hl').1
  ·have key : ∀ {j p}, (j = H.length \/ ob = some j) -> live (kill H ob ++ [some (.buf e (ys.isEmpty && nl) (xs ++ ys))]) j p -> j = H.length := by
    intro j p hj hl
    rcases live_push hl with ⟨h, _⟩ | ⟨hlt, hl'⟩
    ·rw [hlenk] at h; exact h
    ·rcases hj with h | h
     ·exact h
     ·exact absurd h (live_kill hl').1
   exact (key hi' hli).trans (key hj' hlj).symm
 ·obtain ⟨a, l, c, rfl⟩ := hform
  exact .buf _ _ _ _ (by simp [hlenk]) fun o hl => hupd
theorem Stp.append (hp : Hp P H m S w) {t ty e : TypeId} {i : TypeInfo} {z : Value} (ht : P.underlying t = some (.slice e)) (hi : P.info? e = some i) (hz : i.zero = some z) (hzs : z.cells.size = i.size) (hsz : 0 < i.size)
  {ob : Option Nat} {v : Value} {nl : Bool} {xs ys : List PV} {vs : Value} (hb : Base H m e ob v nl xs) (hs : Src S w i.size ys vs) (h63 : xs.length + ys.length <= maxLen) (hbytes : (xs.length + ys.length) * i.bytes <= 140737488355328) :
  ∃ v' w', (Builtin.append_ #[t, t] ty #[v, vs]).run P w = .ok v' w' /\
   Stp P H m S w (kill H ob ++ [some (.buf e (ys.isEmpty && nl) (xs ++ ys))]) (upd m H.length v') S w' /\
   Rd P (kill H ob ++ [some (.buf e (ys.isEmpty && nl) (xs ++ ys))]) (upd m H.length v') S w' (.buf H.length) v' := by
 refine Stp.appendCore hp hi hsz hb hs.ok fun us ho => ?_
 unfold AppRun
 have some_ : ∀ (a : Addr) (c : Nat) (news : List Value), vs = .slice (some a) ys.length c -> news.length = ys.length * i.size -> (∀ (j : Nat) (u : Value), news[j]? = some u -> w.cell? (a.add j) = some u) ->
   (∀ (k : Nat) (c : PV), (flat ys)[k]? = some c -> ∃ u : Value, news[k]? = some u /\ RdP S w c u /\ u.oneCell' = true) -> ∃ v' w' news, (Builtin.append_ #[t, t] ty #[v, vs]).run P w = .ok v' w' /\ w'.ownsRow 0 e i.size v' (xs.length + ys.length) (us ++ news) /\ w.grownBy w' v.ownBlock /\
  (v' = .slice none 0 0 ↔ v = .slice none 0 0 /\ ys.length = 0) /\ (v'.ownBlock = v.ownBlock \/ v'.ownBlock = some w.heap.size) /\
  ∀ (k : Nat) (c : PV), (flat ys)[k]? = some c -> ∃ u : Value, news[k]? = some u /\ RdP S w c u /\ u.oneCell' = true := by
  rintro a c news rfl hl hat hr
  have h1 : ∀ u ∈ news, u.oneCell' = true := by
   intro u hu
   obtain ⟨j, hj, rfl⟩ := List.mem_iff_getElem.1 hu
   have hjf : j < (flat ys).length := by rw [flat_length hs.ok]; omega
   obtain ⟨u', hu', _, h1⟩ := hr j _ (List.getElem?_eq_getElem hjf)
   rw [List.getElem?_eq_getElem hj] at hu'
   injection hu' with hu'
   rw [hu']
   exact h1
  obtain ⟨v', w', h2, h3, h4, h5, h6⟩ := run_append_own_at (P := P) w 0 t ty e i z i.size i.bytes ht hi hz rfl rfl hzs hsz v xs.length us ho a ys.length c news hl hat h1 h63 hbytes (Nat.zero_le _)
  exact ⟨v', w', news, h2, h3, h4, h5, h6, hr⟩
 rcases hs.at_ with ⟨rfl, a, c, rfl⟩ | ⟨a, c, news, h1, h2, h3, h4⟩
 ·rcases a with _ | a
  ·refine ⟨v, w, [], run_append_nilSrc 0 t ty e i ht hi v _ us ho c, by simpa using ho, ⟨rfl, rfl, rfl, Nat.le_refl _, fun _ _ _ => rfl⟩, by simp, .inl rfl, by simp [flat]⟩
  ·exact some_ a c [] rfl (by simp) (by simp) (by simp [flat])
 ·exact some_ a c news h1 h2 h3 h4
end
end Go.Abs
namespace Go.Abs
open Go.RowKit
inductive CpA (xs ys : List PV) (lo hi : Nat) (k : Nat -> List PV -> Prop) : Prop
 | mk (n : Nat) (zs : List PV) (hn : min (hi - lo) ys.length = n) (hz : xs.take lo ++ ys.take n ++ xs.drop (lo + n) = zs) (hk : k n zs) : CpA xs ys lo hi k
section
variable {P : Program} {ti : TypeId -> Option TI} {H : AH} {m : Nat -> Value} {S : Nat -> Prop} {w : World}
theorem lay_length {xs ys : List PV} {lo : Nat} (h : lo + ys.length <= xs.length) : (xs.take lo ++ ys ++ xs.drop (lo + ys.length)).length = xs.length := by
 simp; omega
theorem lay_at {xs ys : List PV} {lo : Nat} (h : lo + ys.length <= xs.length) (i : Nat) : (xs.take lo ++ ys ++ xs.drop (lo + ys.length))[i]? = if i < lo then xs[i]? else if i < lo + ys.length then ys[i - lo]? else xs[i]? := by
 have hl : (xs.take lo).length = lo := by rw [List.length_take]; omega
 rw [List.append_assoc, List.getElem?_append, hl]
 split
 ·rename_i h1
  rw [List.getElem?_take, if_pos h1]
 ·rename_i h1
  rw [List.getElem?_append]
  split
  ·rename_i h2
   rw [if_pos (by omega)]
  ·rename_i h2
   rw [if_neg (by omega), List.getElem?_drop]
   congr 1; omega
theorem Stp.splice (hp : Hp P H m S w) {id : Nat} {e : TypeId} {nl : Bool} {xs : List PV} (hH : live H id (.buf e nl xs)) {inf : TypeInfo} (hinf : P.info? e = some inf) {lo : Nat} {ys : List PV} {vs : List Value} (hlo : lo + ys.length <= xs.length) (h0 : 0 < ys.length)
  (hzy : ∀ y ∈ ys, y.cells.length = inf.size) (hvl : vs.length = ys.length * inf.size) (hv : ∀ (k : Nat) (c : PV), (flat ys)[k]? = some c -> ∃ u : Value, vs[k]? = some u /\ RdP S w c u /\ u.oneCell' = true) :
  ∃ g cap cur, m id = .slice (some ⟨g, 0, none⟩) xs.length cap /\ xs.length <= cap /\ w.heap[g]? = some (.cells cur e (0, 0)) /\ lo * inf.size + vs.length <= cur.size /\
   Stp P H m S w (H.set id (some (.buf e nl (xs.take lo ++ ys ++ xs.drop (lo + ys.length))))) m S (w.setRow g (Abs.splice cur.toList (lo * inf.size) vs).toArray) := by
 obtain ⟨inf', us, hinf', hsz, ho, hz, hr, hn⟩ := hp.obj id _ hH
 rw [hinf] at hinf'
 injection hinf' with hinf'
 subst hinf'
 rcases ho.2 with ⟨hv', hl0⟩ | ⟨g, cap, cur, hvm, hg0, hh, hc, hm, hcs, htk⟩
 ·omega
 have hm1 : (lo + ys.length) * inf.size <= xs.length * inf.size := Nat.mul_le_mul_right _ hlo
 have hm2 : xs.length * inf.size <= cap * inf.size := Nat.mul_le_mul_right _ hc
 rw [Nat.add_mul] at hm1
 have hle' : lo * inf.size + vs.length <= cur.toList.length := by rw [show cur.toList.length = cur.size from Array.length_toList]; omega
 have hlz := lay_length hlo
 have hz' : ∀ x ∈ xs.take lo ++ ys ++ xs.drop (lo + ys.length), x.cells.length = inf.size := by
  intro x hx
  rcases List.mem_append.1 hx with hx | hx
  ·rcases List.mem_append.1 hx with hx | hx
   ·exact hz x (List.mem_of_mem_take hx)
   ·exact hzy x hx
  ·exact hz x (List.mem_of_mem_drop hx)
 refine ⟨g, cap, cur, hvm, hc, hh, by simpa using hle', ?_⟩
 refine Stp.store hp (T := e) (cur := cur) hH (.inl (by show (m id).ownBlock = _; rw [hvm]; rfl)) hh (fun e' nl' xs' h => ?_) (fun b h => by exact own_to h rfl rfl rfl) fun hk hh' => ?_
 ·injection h with h2 h3 h4
  subst h2; subst h3; subst h4
  exact ⟨_, _, rfl, by rw [hlz]; exact Nat.le_refl _⟩
 ·refine ⟨inf, ((Abs.splice cur.toList (lo * inf.size) vs).take (xs.length * inf.size)), hinf, hsz, ⟨?_, .inr ⟨g, cap, _, by rw [hlz]; exact hvm, hg0, hh', by rw [hlz]; exact hc, hm, ?_, ?_⟩⟩, hz', fun k c hk' => ?_, hn⟩
  ·rw [List.length_take, splice_length hle', hlz]
   show min _ cur.size = _
   omega
  ·show (Abs.splice _ _ _).length = _
   rw [splice_length hle', Array.length_toList, hcs]
  ·rw [hlz]
  ·obtain ⟨i', j, x, rfl, hj, hx', hc'⟩ := flat_inv hz' hk'
   have hi' : i' < xs.length := by have := (List.getElem?_eq_some_iff.1 hx').1; rw [<- hlz]; exact this
   have hm3 : (i' + 1) * inf.size <= xs.length * inf.size := Nat.mul_le_mul_right _ hi'
   rw [Nat.succ_mul] at hm3
   rw [List.getElem?_take, if_pos (by omega)]
   have oldcell : xs[i']? = some x -> ((i' * inf.size + j) < lo * inf.size \/ lo * inf.size + vs.length <= i' * inf.size + j) ->
     ∃ u : Value, (Abs.splice cur.toList (lo * inf.size) vs)[i' * inf.size + j]? = some u /\ RdP S (w.setRow g (Abs.splice cur.toList (lo * inf.size) vs).toArray) c u /\ u.oneCell' = true := by
    intro h1 h3
    obtain ⟨u, hu, hru, hu1⟩ := hr _ c (flat_at hz _ _ h1 _ _ hc')
    refine ⟨u, ?_, hru.mono hk (fun _ h => h), hu1⟩
    rw [splice_out hle' h3]
    rw [<- htk, List.getElem?_take] at hu
    split at hu
    ·exact hu
    ·cases hu
   rw [lay_at hlo] at hx'
   split at hx'
   ·rename_i h1
    refine oldcell hx' (.inl ?_)
    have : (i' + 1) * inf.size <= lo * inf.size := Nat.mul_le_mul_right _ h1
    rw [Nat.succ_mul] at this
    omega
   ·split at hx'
    ·rename_i h1 h2
     obtain ⟨u, hu, hru, hu1⟩ := hv _ c (flat_at hzy _ _ hx' _ _ hc')
     refine ⟨u, ?_, hru.mono hk (fun _ h => h), hu1⟩
     have e1 : i' * inf.size + j = lo * inf.size + ((i' - lo) * inf.size + j) := by
      have : i' = lo + (i' - lo) := by omega
      have e2 : i' * inf.size = lo * inf.size + (i' - lo) * inf.size := by rw [<- Nat.add_mul, <- this]
      omega
     rw [e1, splice_in hle' (by have := (List.getElem?_eq_some_iff.1 hu).1; exact this)]
     exact hu
    ·rename_i h1 h2
     refine oldcell hx' (.inr ?_)
     have : (lo + ys.length) * inf.size <= i' * inf.size := Nat.mul_le_mul_right _ (by omega)
     rw [Nat.add_mul] at this
     omega
theorem src_of_sub (hp : Hp P H m S w) {id lo hi : Nat} {e : TypeId} {nl : Bool} {xs : List PV} (hl : live H id (.buf e nl xs)) {i : TypeInfo} (hi' : P.info? e = some i) {v : Value} (hr : Rd P H m S w (.sub id lo hi) v) :
  Src S w i.size ((xs.take hi).drop lo) v /\ lo <= hi /\ hi <= xs.length := by
 obtain ⟨i', us, h1, _, ho, hz, hru, _⟩ := hp.obj id _ hl
 rw [hi'] at h1
 injection h1 with h1
 subst h1
 cases hr with
 | sub _ _ _ a l c hid h =>
  obtain ⟨i2, a0, l0, c0, g1, g2, g3, g4, rfl, rfl, gn, ga⟩ := h _ _ _ hl
  rw [hi'] at g1
  injection g1 with g1
  subst g1
  have hlen : ((xs.take hi).drop lo).length = hi - lo := by simp; omega
  have hz2 : ∀ x ∈ (xs.take hi).drop lo, x.cells.length = i.size := fun x hx => hz x (List.mem_of_mem_take (List.mem_of_mem_drop hx))
  refine ⟨⟨hz2, ?_⟩, g3, g4⟩
  rcases ho.2 with ⟨hv, h0⟩ | ⟨g, cap, cur, hv, _, hh, hcap, _⟩
  ·refine .inl ⟨List.eq_nil_of_length_eq_zero (by omega), ?_⟩
   rw [show hi - lo = 0 by omega]
   exact ⟨_, _, rfl⟩
  ·rw [g2] at hv
   injection hv with hv1 hv2 hv3
   subst hv1; subst hv3
   by_cases hc : c0 = lo
   ·refine .inl ⟨List.eq_nil_of_length_eq_zero (by omega), ?_⟩
    rw [show hi - lo = 0 by omega]
    exact ⟨_, _, rfl⟩
   ·have ga := ga hc
    subst ga
    have hm : hi * i.size <= xs.length * i.size := Nat.mul_le_mul_right _ g4
    have hm2 : lo * i.size <= hi * i.size := Nat.mul_le_mul_right _ g3
    have hus := ho.1
    have hcell := ho.cells (by rw [g2]; rfl)
    have key : ∀ k, (flat ((xs.take hi).drop lo))[k]? = if k < (hi - lo) * i.size then (flat xs)[lo * i.size + k]? else none := by
     intro k
     split
     ·rename_i hk
      obtain ⟨c, hc⟩ : ∃ c, (flat ((xs.take hi).drop lo))[k]? = some c := ⟨_, List.getElem?_eq_getElem (by rw [flat_length hz2, hlen]; exact hk)⟩
      obtain ⟨q, j, x, rfl, hj, hx, hcx⟩ := flat_inv hz2 hc
      rw [hc]
      rw [List.getElem?_drop, List.getElem?_take] at hx
      split at hx
      ·have := flat_at hz _ _ hx _ _ hcx
       rw [Nat.add_mul] at this
       rw [<- this]; congr 1; omega
      ·cases hx
     ·rename_i hk
      exact List.getElem?_eq_none (by rw [flat_length hz2, hlen]; omega)
    refine .inr ⟨⟨g, lo * i.size, none⟩, c0 - lo, (us.drop (lo * i.size)).take ((hi - lo) * i.size), ?_, ?_, fun j u hj => ?_, fun k c hk => ?_⟩
    ·rw [hlen]
     show Value.slice (some ((⟨g, 0, none⟩ : Addr).add (lo * i.size))) _ _ = _
     rw [add_lit, Nat.zero_add]
    ·rw [List.length_take, List.length_drop, hus, hlen, Nat.sub_mul]; omega
    ·rw [List.getElem?_take] at hj
     split at hj
     ·rw [List.getElem?_drop] at hj
      have := hcell _ _ hj
      rw [add_lit, Nat.zero_add] at this
      rw [add_lit]
      exact this
     ·cases hj
    ·rw [key] at hk
     split at hk
     ·rename_i hlt
      obtain ⟨u, h1, h2, h3⟩ := hru _ _ hk
      exact ⟨u, by rw [List.getElem?_take, if_pos hlt, List.getElem?_drop]; exact h1, h2, h3⟩
     ·cases hk
def wpSrc2 (H : AH) (e : TypeId) (sz : Nat) (x : AV) (k : List PV -> Prop) : Prop := match x with
 | .p (.list _ ys) => SzA ys sz (k ys)
 | .buf id2 => match H[id2]? with
  | some (some (.buf e2 _ ys)) => match Nat.beq e e2 with
   | true => k ys
   | false => False
  | some (some (.frz _ ys)) => SzA ys sz (k ys)
  | _ => False
 | .sub id2 lo hi => match H[id2]? with
  | some (some (.buf e2 _ ys)) => match Nat.beq e e2 with
   | true => k ((ys.take hi).drop lo)
   | false => False
  | _ => False
 | _ => False
def wpDst (H : AH) (e : TypeId) (x : AV) (k : Nat -> Bool -> List PV -> Nat -> Nat -> Prop) : Prop := match x with
 | .buf id => match H[id]? with
  | some (some (.buf e2 nl xs)) => match Nat.beq e e2 with
   | true => k id nl xs 0 xs.length
   | false => False
  | _ => False
 | .sub id lo hi => match H[id]? with
  | some (some (.buf e2 nl xs)) => match Nat.beq e e2 with
   | true => k id nl xs lo hi
   | false => False
  | _ => False
 | _ => False
theorem src_take {sz n : Nat} {ys : List PV} {v : Value} (h : Src S w sz ys v) (hn : n <= ys.length) (h0 : 0 < n) : ∃ (a : Addr) (c : Nat) (news : List Value), v = .slice (some a) ys.length c /\ news.length = n * sz /\ (∀ (j : Nat) (u : Value), news[j]? = some u -> w.cell? (a.add j) = some u) /\
  (∀ (k : Nat) (c : PV), (flat (ys.take n))[k]? = some c -> ∃ u : Value, news[k]? = some u /\ RdP S w c u /\ u.oneCell' = true) := by
 rcases h.at_ with ⟨rfl, _⟩ | ⟨a, c, news, h1, h2, h3, h4⟩
 ·simp at hn; omega
 ·have hm : n * sz <= ys.length * sz := Nat.mul_le_mul_right _ hn
  refine ⟨a, c, news.take (n * sz), h1, by rw [List.length_take]; omega, fun j u hj => ?_, fun k c hk => ?_⟩
  ·rw [List.getElem?_take] at hj
   split at hj
   ·exact h3 j u hj
   ·cases hj
  ·have hlt : k < n * sz := by
    have := (List.getElem?_eq_some_iff.1 hk).1
    rw [flat_length (fun x hx => h.ok x (List.mem_of_mem_take hx)), List.length_take] at this
    rwa [show min n ys.length = n by omega] at this
   have e1 : flat ys = flat (ys.take n) ++ flat (ys.drop n) := by rw [<- flat_append, List.take_append_drop]
   have : (flat ys)[k]? = some c := by rw [e1, List.getElem?_append_left (List.getElem?_eq_some_iff.1 hk).1]; exact hk
   obtain ⟨u, h5, h6, h7⟩ := h4 k c this
   exact ⟨u, by rw [List.getElem?_take, if_pos hlt]; exact h5, h6, h7⟩
theorem run_copyN (dT sT ty elem : TypeId) (inf : TypeInfo) (g o dLen dCap : Nat) (a : Addr) (sLen sCap n : Nat) (cur : Array Value) (t : TypeId) (cs : List Value)
  (hu : P.underlying dT = some (.slice elem)) (hi : P.info? elem = some inf) (hg : w.heap[g]? = some (.cells cur t (0, 0))) (hn : n = Nat.min sLen dLen) (hl : cs.length = n * inf.size)
  (hsrc : ∀ j v, cs[j]? = some v -> w.cell? (a.add j) = some v) (hfit : o + cs.length <= cur.size) (h1 : ∀ v ∈ cs, v.oneCell' = true) :
  (Builtin.copy_ #[dT, sT] ty #[.slice (some ⟨g, o, none⟩) dLen dCap, .slice (some a) sLen sCap]).run P w = .ok (.int .i64 n) (w.setRow g (Abs.splice cur.toList o cs).toArray) := by
 have hld := run_loadCells_list (P := P) w a cs hsrc
 have hst := run_storeCells_at P g o t cs 0 cur w hg (by simpa using hfit) h1
 rw [hl] at hld
 simp [Builtin.copy_, run_underlying hu, Builtin.lenOf, Builtin.firstCells, sizeOf, typeInfo, hi, <- hn, hld, hst, goInt, Abs.splice, List.append_assoc]
theorem run_copy0 (dT sT ty elem : TypeId) (inf : TypeInfo) (d a : Option Addr) (dLen dCap sLen sCap : Nat) (hu : P.underlying dT = some (.slice elem)) (hi : P.info? elem = some inf) (hn : 0 = Nat.min sLen dLen) :
  (Builtin.copy_ #[dT, sT] ty #[.slice d dLen dCap, .slice a sLen sCap]).run P w = .ok (.int .i64 0) w := by
 have hld : ∀ a : Addr, (loadCells a 0).run P w = .ok #[] w := fun a => run_loadCells_list (P := P) w a [] (by simp)
 cases d <;> cases a <;> simp [Builtin.copy_, run_underlying hu, Builtin.lenOf, Builtin.firstCells, sizeOf, typeInfo, hi, <- hn, goInt, hld, storeCells]
def wpCopy (ti : TypeId -> Option TI) (H : AH) (t : TypeId) (x y : AV) (k : AV -> AH -> Prop) : Prop := match ti t with
 | some ⟨.sl e, _, _, _⟩ => match ti e with
  | some ⟨_, sz + 1, _, _⟩ => wpDst H e x fun id nl xs lo hi => wpSrc2 H e (sz + 1) y fun ys => CpA xs ys lo hi fun n zs => k (.p (.v (.int .i64 n))) (H.set id (some (.buf e nl zs)))
  | _ => False
 | _ => False
def wpClear (ti : TypeId -> Option TI) (H : AH) (t : TypeId) (x : AV) (k : AV -> AH -> Prop) : Prop := match ti t with
 | some ⟨.sl e, _, _, _⟩ => match ti e with
  | some ⟨_, _ + 1, _, z⟩ => wpDst H e x fun id nl xs lo hi => IsL (xs.take lo ++ List.replicate (hi - lo) (pz z) ++ xs.drop hi) fun zs => k (.tup []) (H.set id (some (.buf e nl zs)))
  | _ => False
 | _ => False
theorem src_of_buf (hp : Hp P H m S w) {id : Nat} {e : TypeId} {nl : Bool} {ys : List PV} (hl : live H id (.buf e nl ys)) {i : TypeInfo} (hi : P.info? e = some i) : Src S w i.size ys (m id) := by
 obtain ⟨i', us, h1, _, ho, hz, hr, _⟩ := hp.obj id _ hl
 rw [hi] at h1
 injection h1 with h1
 subst h1
 refine ⟨hz, ?_⟩
 rcases ho.2 with ⟨hv, h0⟩ | ⟨g, cap, cur, hv, _⟩
 ·exact .inl ⟨List.eq_nil_of_length_eq_zero h0, _, _, hv⟩
 ·exact .inr ⟨_, _, us, hv, ho.1, ho.cells (by rw [hv]; rfl), hr⟩
theorem wpSrc2_sound (hp : Hp P H m S w) {e : TypeId} {x : AV} {vx : Value} {k : List PV -> Prop} {i : TypeInfo} (hi : P.info? e = some i) (h : wpSrc2 H e i.size x k) (hx : Rd P H m S w x vx) : ∃ ys, k ys /\ Src S w i.size ys vx := by
 unfold wpSrc2 at h
 split at h
 ·cases hx with | p _ _ hr => exact ⟨_, h.2, src_of_list hr h.1⟩
 ·rename_i id2
  split at h
  ·rename_i e2 nl2 ys hH
   split at h
   ·rename_i hbe
    obtain rfl := Nat.eq_of_beq_eq_true hbe
    have hv := hx.bufAt hH
    subst hv
    exact ⟨_, h, src_of_buf hp hH hi⟩
   ·cases h
  ·rename_i nl2 ys hH
   have hv := hx.bufAt hH
   subst hv
   exact ⟨_, h.2, src_of_list (hp.obj _ _ hH) h.1⟩
  ·cases h
 ·rename_i id2 lo hi2
  split at h
  ·rename_i e2 nl2 ys hH
   split at h
   ·rename_i hbe
    obtain rfl := Nat.eq_of_beq_eq_true hbe
    exact ⟨_, h, (src_of_sub hp hH hi hx).1⟩
   ·cases h
  ·cases h
 ·cases h
structure Dst (P : Program) (H : AH) (m : Nat -> Value) (e : TypeId) (inf : TypeInfo) (id : Nat) (nl : Bool) (xs : List PV) (lo hi : Nat) (v : Value) : Prop where
 live : live H id (.buf e nl xs)
 le : lo <= hi /\ hi <= xs.length
 at_ : ∃ a c, v = .slice a (hi - lo) c /\ ∀ g c0, m id = .slice (some ⟨g, 0, none⟩) xs.length c0 -> xs.length <= c0 -> lo < hi -> a = some ⟨g, lo * inf.size, none⟩
theorem wpDst_sound (hp : Hp P H m S w) {e : TypeId} {x : AV} {vx : Value} {k : Nat -> Bool -> List PV -> Nat -> Nat -> Prop} {i : TypeInfo} (hi : P.info? e = some i) (h : wpDst H e x k) (hx : Rd P H m S w x vx) : ∃ id nl xs lo hi, k id nl xs lo hi /\ Dst P H m e i id nl xs lo hi vx := by
 unfold wpDst at h
 split at h
 ·rename_i id
  split at h
  ·rename_i e2 nl2 xs hH
   split at h
   ·rename_i hbe
    obtain rfl := Nat.eq_of_beq_eq_true hbe
    have hv := hx.bufAt hH
    subst hv
    refine ⟨_, _, _, _, _, h, hH, ⟨Nat.zero_le _, Nat.le_refl _⟩, ?_⟩
    obtain ⟨i', us, h1, _, ho, hz, hr, _⟩ := hp.obj id _ hH
    rcases ho.2 with ⟨hv, h0⟩ | ⟨g, cap, cur, hv, _⟩
    ·refine ⟨none, 0, by rw [hv, h0], fun g c0 h2 h3 h4 => ?_⟩
     omega
    ·refine ⟨_, cap, hv, fun g' c0 h2 h3 h4 => ?_⟩
     rw [hv] at h2
     injection h2 with h2
     rw [h2, Nat.zero_mul]
   ·cases h
  ·cases h
 ·rename_i id lo hi2
  split at h
  ·rename_i e2 nl2 xs hH
   split at h
   ·rename_i hbe
    obtain rfl := Nat.eq_of_beq_eq_true hbe
    have hs := src_of_sub hp hH hi hx
    refine ⟨_, _, _, _, _, h, hH, hs.2, ?_⟩
    cases hx with
    | sub _ _ _ a l c hid h =>
     obtain ⟨i2, a0, l0, c0, g1, g2, g3, g4, rfl, rfl, gn, ga⟩ := h _ _ _ hH
     rw [hi] at g1
     injection g1 with g1
     subst g1
     refine ⟨_, _, rfl, fun g c0' h2 h3 h4 => ?_⟩
     rw [g2] at h2
     injection h2 with h5 h6 h7
     subst h5; subst h7
     rw [ga (by omega)]
     show some ((⟨g, 0, none⟩ : Addr).add (lo * i.size)) = _
     rw [add_lit, Nat.zero_add]
   ·cases h
  ·cases h
 ·cases h
theorem set_same {id : Nat} {o : AO} (h : live H id o) : H.set id (some o) = H := by
 apply List.ext_getElem?
 intro j
 rw [List.getElem?_set]
 split
 ·rename_i hj
  subst hj
  unfold Abs.live at h
  rw [h]
  rw [if_pos (List.getElem?_eq_some_iff.1 h).1]
 ·rfl
theorem wpCopy_sound (hT : TabOK P ti) (hp : Hp P H m S w) {t t' ty : TypeId} {x y : AV} {vx vy : Value} {k : AV -> AH -> Prop} (h : wpCopy ti H t x y k) (hx : Rd P H m S w x vx) (hy : Rd P H m S w y vy) :
  ∃ av H' v w', k av H' /\ (Builtin.copy_ #[t, t'] ty #[vx, vy]).run P w = .ok v w' /\ Stp P H m S w H' m S w' /\ Rd P H' m S w' av v := by
 unfold wpCopy at h
 split at h
 ·rename_i e s1 b1 z1 hti
  have hu := slice_of (hT.ok _ _ hti) rfl
  split at h
  ·rename_i ke sz by_ z hte
   obtain ⟨inf, d, hinf, hd, hz, hsz, hby, _, hzs, _⟩ := tiOf_spec (hT.ok _ _ hte)
   simp only at hsz
   obtain ⟨id, nl, xs, lo, hi, h, hdl, hdle, a, c, rfl, hda⟩ := wpDst_sound hp hinf h hx
   rw [show sz + 1 = inf.size from hsz.symm] at h
   obtain ⟨ys, ⟨n, zs, hn, rfl, hk⟩, hsrc⟩ := wpSrc2_sound hp hinf h hy
   rcases Nat.eq_zero_or_pos n with h0 | h0
   ·subst h0
    have hzs2 : xs.take lo ++ ys.take 0 ++ xs.drop (lo + 0) = xs := by simp
    rw [hzs2, set_same hdl] at hk
    have hvy : ∃ a l c, vy = .slice a l c /\ l = ys.length := by
     rcases hsrc.at_ with ⟨rfl, a, c, rfl⟩ | ⟨a, c, news, rfl, _⟩
     ·exact ⟨_, _, _, rfl, rfl⟩
     ·exact ⟨_, _, _, rfl, rfl⟩
    obtain ⟨a2, l2, c2, rfl, hl2⟩ := hvy
    exact ⟨_, _, _, _, hk, run_copy0 t t' ty e inf a a2 _ _ _ _ hu hinf (by show 0 = min l2 (hi - lo); omega), Stp.refl hp, Rd.mk rfl⟩
   ·obtain ⟨a2, c2, news, rfl, hnl, hnat, hnr⟩ := src_take hsrc (show n <= ys.length by omega) h0
    have htl : (ys.take n).length = n := by rw [List.length_take]; omega
    obtain ⟨g, cap, cur, hm, hcap, hh, hfit, hst⟩ := Stp.splice hp hdl hinf (lo := lo) (ys := ys.take n) (vs := news) (by rw [htl]; omega) (by omega) (fun q hq => hsrc.ok q (List.mem_of_mem_take hq)) (by rw [htl]; exact hnl) hnr
    rw [htl] at hst
    obtain rfl := hda g cap hm hcap (by omega)
    have h1 : ∀ v ∈ news, v.oneCell' = true := by
     intro v hv
     obtain ⟨j, hj, rfl⟩ := List.getElem_of_mem hv
     have hf : j < (flat (ys.take n)).length := by rw [flat_length (sz := inf.size) (fun q hq => hsrc.ok q (List.mem_of_mem_take hq)), htl, <- hnl]; exact hj
     obtain ⟨u, h2, _, h3⟩ := hnr j _ (List.getElem?_eq_getElem hf)
     rw [List.getElem?_eq_getElem hj] at h2
     injection h2 with h2
     rw [h2]; exact h3
    refine ⟨_, _, _, _, hk, run_copyN t t' ty e inf g (lo * inf.size) _ _ a2 _ _ n cur e news hu hinf hh (by show n = min ys.length (hi - lo); omega) hnl hnat hfit h1, hst, Rd.mk rfl⟩
  ·cases h
 ·cases h
theorem run_clearN (t e : TypeId) (inf : TypeInfo) (ty : TypeId) (z : Value) (g o n c : Nat) (cur : Array Value) (T : TypeId) (hu : P.underlying t = some (.slice e)) (hi : P.info? e = some inf) (hz : inf.zero = some z) (hzs : z.cells.size = inf.size) (hg : w.heap[g]? = some (.cells cur T (0, 0))) (h0 : 0 < n)
  (hfit : o + n * inf.size <= cur.size) (h1 : ∀ v ∈ z.cells, v.oneCell' = true) :
  (Builtin.clear_ #[t] ty #[.slice (some ⟨g, o, none⟩) n c]).run P w = .ok (.tuple #[]) (w.setRow g (Abs.splice cur.toList o (Builtin.zeroCells z.cells n).toList).toArray) := by
 have hlen : (Builtin.zeroCells z.cells n).toList.length = n * inf.size := by simp [Builtin.zeroCells, hzs]
 have hst := run_storeCells_at P g o T (Builtin.zeroCells z.cells n).toList 0 cur w hg (by rw [hlen]; omega) (fun v hv => by
  rw [Builtin.zeroCells, Array.toList_map] at hv
  obtain ⟨k, hk, rfl⟩ := List.mem_map.1 hv
  have hk' : k < n * z.cells.size := by simpa using hk
  have hp : 0 < z.cells.size := by
   rcases Nat.eq_zero_or_pos z.cells.size with h | h
   ·rw [h] at hk'; omega
   ·exact h
  have hml := Nat.mod_lt k hp
  have e1 : z.cells[k % z.cells.size]! = z.cells[k % z.cells.size] := by simp [hml]
  rw [e1]
  exact h1 _ (Array.getElem_mem hml))
 obtain ⟨n, rfl⟩ : ∃ k, n = k + 1 := ⟨n - 1, by omega⟩
 simp [Builtin.clear_, run_underlying hu, zeroValue, typeInfo, hi, hz, hst, Abs.splice, List.append_assoc]
theorem wpClear_sound (hT : TabOK P ti) (hp : Hp P H m S w) {t ty : TypeId} {x : AV} {vx : Value} {k : AV -> AH -> Prop} (h : wpClear ti H t x k) (hx : Rd P H m S w x vx) :
  ∃ av H' v w', k av H' /\ (Builtin.clear_ #[t] ty #[vx]).run P w = .ok v w' /\ Stp P H m S w H' m S w' /\ Rd P H' m S w' av v := by
 unfold wpClear at h
 split at h
 ·rename_i e s1 b1 z1 hti
  have hu := slice_of (hT.ok _ _ hti) rfl
  split at h
  ·rename_i ke sz by_ z hte
   obtain ⟨inf, d, hinf, hd, hz, hsz, hby, _, hzs, hz1⟩ := tiOf_spec (hT.ok _ _ hte)
   simp only at hsz hz hzs hz1
   obtain ⟨id, nl, xs, lo, hi, h, hdl, hdle, a, c, rfl, hda⟩ := wpDst_sound hp hinf h hx
   obtain ⟨_, rfl, hk⟩ := h
   rcases Nat.eq_zero_or_pos (hi - lo) with h0 | h0
   ·have hzs2 : xs.take lo ++ List.replicate (hi - lo) (pz z) ++ xs.drop hi = xs := by
     rw [h0, show hi = lo by omega]; simp
    rw [hzs2, set_same hdl] at hk
    refine ⟨_, _, .tuple #[], _, hk, ?_, Stp.refl hp, .tup [] #[] rfl (by simp)⟩
    rw [h0]
    cases a <;> simp [Builtin.clear_, run_underlying hu]
   ·have hl : (List.replicate (hi - lo) (pz z)).length = hi - lo := by simp
    have hpc : (pz z).cells.length = inf.size := by rw [pz_cells]; simp [hzs, hsz]
    have hz0 : 0 < z.cells.size := by omega
    have hcl : (Builtin.zeroCells z.cells (hi - lo)).toList.length = (hi - lo) * inf.size := by simp [Builtin.zeroCells, hzs, hsz]
    obtain ⟨g, cap, cur, hm, hcap, hh, hfit, hst⟩ := Stp.splice hp hdl hinf (lo := lo) (ys := List.replicate (hi - lo) (pz z)) (vs := (Builtin.zeroCells z.cells (hi - lo)).toList) (by rw [hl]; omega) (by rw [hl]; exact h0) (fun q hq => by rw [List.eq_of_mem_replicate hq]; exact hpc) (by rw [hl]; exact hcl) (fun j cc hj => by
     obtain ⟨h1, h2⟩ := flat_replicate _ _ _ _ hj
     rw [hpc] at h1 h2
     rw [pz_cells, List.getElem?_map, Option.map_eq_some_iff] at h1
     obtain ⟨u, hu1, rfl⟩ := h1
     have hml : j % inf.size < z.cells.size := by have := (List.getElem?_eq_some_iff.1 hu1).1; simpa using this
     have e1 : z.cells[j % inf.size] = u := by
      have := hu1
      simpa [hml] using this
     refine ⟨u, ?_, ?_, ?_⟩
     ·have hjl : j < (hi - lo) * z.cells.size := by rw [show z.cells.size = inf.size by omega]; exact h2
      have e2 : z.cells.size = inf.size := by omega
      have e3 : z.cells[j % inf.size]! = u := by rw [getElem!_pos z.cells _ hml]; exact e1
      simp [Builtin.zeroCells, e2, h2, e3]
     ·exact ofCell_sound (by rw [<- e1]; exact hz1 _ (Array.getElem_mem hml))
     ·rw [<- e1]; exact hz1 _ (Array.getElem_mem hml))
    rw [hl, show lo + (hi - lo) = hi by omega] at hst
    obtain rfl := hda g cap hm hcap (by omega)
    exact ⟨_, _, _, _, hk, run_clearN t e inf ty z g (lo * inf.size) _ _ cur e hu hinf hz (by omega) hh h0 (by rw [hcl] at hfit; exact hfit) hz1, hst, .tup [] #[] rfl (by simp)⟩
  ·cases h
 ·cases h
inductive ApSub (xs ys : List PV) (lo hi by_ : Nat) (k : Nat -> List PV -> Prop) : Prop
 | mk (hh : hi = xs.length) (hy : 0 < ys.length) (hb : xs.length + ys.length <= maxLen /\ (xs.length + ys.length) * by_ <= 140737488355328) (hk : ∀ lo' zs, lo' <= zs.length -> zs.drop lo' = xs.drop lo ++ ys -> zs.length <= xs.length + ys.length -> k lo' zs) : ApSub xs ys lo hi by_ k
theorem Rd.bufSub (hp : Hp P H m S w) {id : Nat} {e : TypeId} {nl : Bool} {xs : List PV} (hl : live H id (.buf e nl xs)) {v : Value} (hr : Rd P H m S w (.buf id) v) : Rd P H m S w (.sub id 0 xs.length) v := by
 have hv := hr.bufAt hl
 obtain ⟨inf, us, hinf, _, ho, _, _, _⟩ := hp.obj id _ hl
 obtain ⟨a, c, hm, _⟩ := buf_form hp hl
 rw [hv, hm]
 refine .sub _ _ _ _ _ _ (List.getElem?_eq_some_iff.1 hl).1 (fun e2 nl2 xs2 hl2 => ?_) (fun _ _ _ he => by rw [hm] at he; cases he)
 unfold Abs.live at hl hl2
 rw [hl] at hl2
 injection hl2 with hl2; injection hl2 with hl2; injection hl2 with he _ hxs
 subst he; subst hxs
 refine ⟨inf, a, _, c, hinf, hm, Nat.zero_le _, Nat.le_refl _, rfl, rfl, Iff.rfl, fun _ => ?_⟩
 cases a with
 | none => rfl
 | some x => show some x = some (x.add (0 * inf.size)); rw [Nat.zero_mul]; rfl
theorem Stp.kill (hp : Hp P H m S w) (id : Nat) : Stp P H m S w (H.set id none) m S w := by
 have hlv : ∀ {j o}, live (H.set id none) j o -> j ≠ id /\ live H j o := fun {j o} h => by
  rcases live_set h with ⟨_, he⟩ | h
  ·cases he
  ·exact h
 exact Stp.at_ (fun j => j = id) hp ⟨by simp, fun j hj o' h => ⟨rfl, o', (hlv h).2, fun _ _ _ e => ⟨_, _, e, Nat.le_refl _⟩, fun _ _ l e => ⟨l, e⟩, fun _ h => h⟩⟩ (fun j o hj h => ⟨(hlv h).2, rfl⟩) rfl rfl rfl (Nat.le_refl _) (fun _ _ _ => rfl) (fun j o hj h _ => absurd hj (hlv h).1) (fun j o b hj h _ => absurd hj (hlv h).1) (fun i j _ _ _ hi hj _ _ _ _ => hi.trans hj.symm)
theorem Stp.appendCap (hp : Hp P H m S w) {t ty e : TypeId} {i : TypeInfo} {z : Value} (ht : P.underlying t = some (.slice e)) (hi : P.info? e = some i) (hz : i.zero = some z) (hzs : z.cells.size = i.size) (hsz : 0 < i.size)
  {nl : Bool} {xs ys : List PV} {v vs : Value} (hr : Rd P H m S w (.cap nl xs) v) (hzx : ∀ x ∈ xs, x.cells.length = i.size) (hs : Src S w i.size ys vs) (hy : 0 < ys.length) (h63 : xs.length + ys.length <= maxLen) (hbytes : (xs.length + ys.length) * i.bytes <= 140737488355328) :
  ∃ v' w', (Builtin.append_ #[t, t] ty #[v, vs]).run P w = .ok v' w' /\ Stp P H m S w (H ++ [some (.buf e false (xs ++ ys))]) (upd m H.length v') S w' /\ Rd P (H ++ [some (.buf e false (xs ++ ys))]) (upd m H.length v') S w' (.buf H.length) v' := by
 have hye : ys.isEmpty = false := by cases ys with
  | nil => simp at hy
  | cons => rfl
 have hcap : ∀ a l c, v = .slice a l c -> c = l := by
  cases hr with
  | cap _ _ a l h => intro a l c he; injection he with _ h1 h2; omega
 have hr0 : RdP S w (.list nl xs) v := by cases hr with | cap _ _ a l h => exact h
 clear hr
 cases hr0 with
 | nil =>
  have whole := Stp.append (ty := ty) hp ht hi hz hzs hsz (ob := none) (v := .slice none 0 0) (nl := true) (xs := []) (.inl ⟨rfl, rfl, rfl, rfl⟩) hs h63 hbytes
  rw [hye, Bool.false_and] at whole
  exact whole
 | list _ a cap sz us hS hc hm hz' hu hr =>
  obtain rfl := hcap _ _ _ rfl
  rcases hs.at_ with ⟨rfl, _⟩ | ⟨a2, c2, news, rfl, hnlen, hnat, hnr⟩
  ·simp at hy
  have hfl := flat_length hzx
  obtain ⟨v', w', h2, h3, h4⟩ := run_append_arg_grows (P := P) w t ty e i z i.size i.bytes ht hi hz rfl rfl hzs hsz a xs.length xs.length ((List.range (flat xs).length).map us) (by simp [hfl]) (fun j u hj => by
   simp only [List.getElem?_map, Option.map_eq_some_iff] at hj
   obtain ⟨j', hj', rfl⟩ := hj
   have hlt : j < (flat xs).length := by have := (List.getElem?_eq_some_iff.1 hj').1; simpa using this
   have : j' = j := by simpa [hlt] using hj'.symm
   subst this
   exact (hu j' _ (List.getElem?_eq_getElem hlt)).1) a2 ys.length c2 news hnlen hnat (by omega) h63 hbytes
  have hpush : Stp P H m S w (H ++ [some (.buf e false (xs ++ ys))]) (upd m H.length v') S w' := by
   refine Stp.push hp h4.os h4.tape h4.output h4.size (fun b hb => h4.block b hb (by simp)) (fun hk => ⟨i, (List.range (flat xs).length).map us ++ news, hi, hsz, ?_, fun x hx => (List.mem_append.1 hx).elim (hzx x) (hs.ok x), fun k c hk' => ?_, ?_⟩) (fun b hb => (h3.lt b ((own_iff rfl).1 hb)).1)
   ·rw [List.length_append]; exact ⟨h3.1, h3.2.imp (fun q => q) fun ⟨g, cap, cur, q1, q2, q3, q4, q5, q6, q7⟩ => ⟨g, cap, cur, q1, Nat.zero_le _, q3, q4, q5, q6, q7⟩⟩
   ·rw [flat_append] at hk'
    by_cases hkl : k < (flat xs).length
    ·rw [List.getElem?_append_left hkl] at hk'
     exact ⟨us k, by rw [List.getElem?_append_left (by simpa using hkl)]; simp [hkl], (hr k c hk').mono hk (fun _ h => h), (hu k c hk').2⟩
    ·rw [List.getElem?_append_right (by omega)] at hk'
     obtain ⟨u, hu', q1, q2⟩ := hnr _ c hk'
     exact ⟨u, by rw [List.getElem?_append_right (by simp; omega)]; simpa using hu', q1.mono hk (fun _ h => h), q2⟩
   ·constructor
    ·intro h; cases h
    ·intro h
     rcases h3.2 with ⟨_, q⟩ | ⟨g', cap', cur', q, _⟩
     ·omega
     ·rw [h] at q; cases q
  refine ⟨v', w', h2, hpush, ?_⟩
  obtain ⟨a', l', c', rfl⟩ : ∃ a' l' c', v' = .slice a' l' c' := by
   rcases h3.2 with ⟨q, _⟩ | ⟨g', cap', cur', q, _⟩
   ·exact ⟨_, _, _, q⟩
   ·exact ⟨_, _, _, q⟩
  exact .buf _ _ _ _ (by simp) fun o hl => if_pos rfl
theorem Stp.appendSub (hp : Hp P H m S w) {t ty e : TypeId} {i : TypeInfo} {z : Value} (ht : P.underlying t = some (.slice e)) (hi : P.info? e = some i) (hz : i.zero = some z) (hzs : z.cells.size = i.size) (hsz : 0 < i.size)
  {id lo hi' : Nat} {nl : Bool} {xs ys : List PV} (hl : live H id (.buf e nl xs)) {v vs : Value} (hr : Rd P H m S w (.sub id lo hi') v) (hh : hi' = xs.length) (hs : Src S w i.size ys vs) (hy : 0 < ys.length) (h63 : xs.length + ys.length <= maxLen) (hbytes : (xs.length + ys.length) * i.bytes <= 140737488355328) :
  ∃ lo' zs v' w' m', lo' <= zs.length /\ zs.drop lo' = xs.drop lo ++ ys /\ zs.length <= xs.length + ys.length /\ (Builtin.append_ #[t, t] ty #[v, vs]).run P w = .ok v' w' /\
   Stp P H m S w (Abs.kill H (some id) ++ [some (.buf e false zs)]) m' S w' /\ Rd P (Abs.kill H (some id) ++ [some (.buf e false zs)]) m' S w' (.sub H.length lo' zs.length) v' := by
 obtain ⟨inf, us, hinf, _, ho, hzx, hrx, hnl⟩ := hp.obj id _ hl
 rw [hi] at hinf
 injection hinf with hinf
 subst hinf
 subst hh
 have hye : ys.isEmpty = false := by cases ys with
  | nil => simp at hy
  | cons => rfl
 have hlen' : (Abs.kill H (some id)).length = H.length := kill_length H _
 have hlvN : ∀ zs, live (Abs.kill H (some id) ++ [some (.buf e false zs)]) H.length (.buf e false zs) := by
  intro zs
  unfold Abs.live
  rw [List.getElem?_append_right (by omega), hlen']
  simp
 have whole := fun (ty : TypeId) => Stp.append (ty := ty) hp ht hi hz hzs hsz (ob := some id) (v := m id) (nl := nl) (xs := xs) (.inr ⟨id, rfl, hl, rfl⟩) hs h63 hbytes
 rw [hye, Bool.false_and] at whole
 cases hr with
 | sub _ _ _ a l c hid h =>
  obtain ⟨i2, a0, l0, c0, g1, g2, g3, _, rfl, rfl, gn, ga⟩ := h _ _ _ hl
  rw [hi] at g1
  injection g1 with g1
  subst g1
  rcases hs.at_ with ⟨rfl, _⟩ | ⟨a2, c2, news, rfl, hnlen, hnat, hnr⟩
  ·simp at hy
  have h1 : ∀ u ∈ news, u.oneCell' = true := by
   intro u hu
   obtain ⟨j, hj, rfl⟩ := List.getElem_of_mem hu
   have hf : j < (flat ys).length := by rw [flat_length hs.ok, <- hnlen]; exact hj
   obtain ⟨u, h2, _, h3⟩ := hnr j _ (List.getElem?_eq_getElem hf)
   rw [List.getElem?_eq_getElem hj] at h2
   injection h2 with h2
   rw [h2]; exact h3
  rcases ho.2 with ⟨hv, h0⟩ | ⟨g, cap, cur, hv, _, hh, hcap, hmax, hcs, htk⟩
  ·rw [g2] at hv
   injection hv with e1 e2 e3
   subst e1; subst e3
   obtain rfl := gn.2 rfl
   obtain rfl : lo = 0 := by omega
   have hxs : xs = [] := List.eq_nil_of_length_eq_zero h0
   subst hxs
   obtain ⟨v', w', h2, h3, h4⟩ := whole ty
   rw [g2] at h2
   subst e2
   exact ⟨0, _, v', w', _, Nat.zero_le _, rfl, by simp, h2, h3, Rd.bufSub h3.hp (hlvN _) h4⟩
  ·rw [g2] at hv
   injection hv with e1 e2 e3
   subst e1; subst e2; subst e3
   have grow : ∀ b : Addr, a = some b -> (c0 ≠ lo -> b = ⟨g, lo * i.size, none⟩) -> ¬ xs.length + ys.length <= c0 -> ∃ lo' zs v' w' m', lo' <= zs.length /\ zs.drop lo' = xs.drop lo ++ ys /\ zs.length <= xs.length + ys.length /\ (Builtin.append_ #[t, t] ty #[.slice a (xs.length - lo) (c0 - lo), .slice (some a2) ys.length c2]).run P w = .ok v' w' /\
     Stp P H m S w (Abs.kill H (some id) ++ [some (.buf e false zs)]) m' S w' /\ Rd P (Abs.kill H (some id) ++ [some (.buf e false zs)]) m' S w' (.sub H.length lo' zs.length) v' := by
    intro b hb hat hroom
    subst hb
    have hdl : (xs.drop lo).length = xs.length - lo := List.length_drop ..
    have hmul : lo * i.size <= xs.length * i.size := Nat.mul_le_mul_right _ g3
    have hz' : ∀ x ∈ xs.drop lo ++ ys, x.cells.length = i.size := fun x hx => (List.mem_append.1 hx).elim (fun h => hzx x (List.mem_of_mem_drop h)) (hs.ok x)
    have hcell := ho.cells (by rw [g2]; rfl)
    obtain ⟨v', w', h2, h3, h4⟩ := run_append_arg_grows (P := P) w t ty e i z i.size i.bytes ht hi hz rfl rfl hzs hsz b (xs.length - lo) (c0 - lo) (us.drop (lo * i.size)) (by rw [List.length_drop, ho.1, Nat.sub_mul]) (fun j u hj => by
     rw [List.getElem?_drop] at hj
     have hjl := (List.getElem?_eq_some_iff.1 hj).1
     rw [ho.1] at hjl
     have hne : c0 ≠ lo := by
      intro he
      have : xs.length = lo := by omega
      rw [this] at hjl
      omega
     have := hcell _ _ hj
     rw [add_lit, Nat.zero_add] at this
     rw [hat hne, add_lit]
     exact this) a2 ys.length c2 news hnlen hnat (by omega) (by omega) (Nat.le_trans (Nat.mul_le_mul_right _ (by omega)) hbytes)
    have hk0 := Stp.kill hp id
    have hflat : flat xs = flat (xs.take lo) ++ flat (xs.drop lo) := by rw [<- flat_append, List.take_append_drop]
    have hft : (flat (xs.take lo)).length = lo * i.size := by rw [flat_length (fun x hx => hzx x (List.mem_of_mem_take hx)), List.length_take]; congr 1; omega
    have hfd : (flat (xs.drop lo)).length = (xs.length - lo) * i.size := by rw [flat_length (fun x hx => hzx x (List.mem_of_mem_drop hx)), hdl]
    have hul : (us.drop (lo * i.size)).length = (xs.length - lo) * i.size := by rw [List.length_drop, ho.1, Nat.sub_mul]
    have hpush : Stp P (H.set id none) m S w (H.set id none ++ [some (.buf e false (xs.drop lo ++ ys))]) (upd m (H.set id none).length v') S w' := by
     refine Stp.push hk0.hp h4.os h4.tape h4.output h4.size (fun b hb => h4.block b hb (by simp)) (fun hk => ⟨i, us.drop (lo * i.size) ++ news, hi, hsz, ?_, hz', fun k c hk' => ?_, ?_⟩) (fun b hb => (h3.lt b ((own_iff rfl).1 hb)).1)
     ·rw [List.length_append, hdl]; exact ⟨h3.1, h3.2.imp (fun q => q) fun ⟨g, cap, cur, q1, q2, q3, q4, q5, q6, q7⟩ => ⟨g, cap, cur, q1, Nat.zero_le _, q3, q4, q5, q6, q7⟩⟩
     ·rw [flat_append] at hk'
      by_cases hkl : k < (flat (xs.drop lo)).length
      ·rw [List.getElem?_append_left hkl] at hk'
       obtain ⟨u, hu, q1, q2⟩ := hrx (lo * i.size + k) c (by rw [hflat, List.getElem?_append_right (by omega), hft, Nat.add_sub_cancel_left]; exact hk')
       exact ⟨u, by rw [List.getElem?_append_left (by omega), List.getElem?_drop]; exact hu, q1.mono hk (fun _ h => h), q2⟩
      ·rw [List.getElem?_append_right (by omega)] at hk'
       obtain ⟨u, hu, q1, q2⟩ := hnr _ c hk'
       exact ⟨u, by rw [List.getElem?_append_right (by omega), hul, <- hfd]; exact hu, q1.mono hk (fun _ h => h), q2⟩
     ·constructor
      ·intro h; cases h
      ·intro h
       rcases h3.2 with ⟨_, q⟩ | ⟨g', cap', cur', q, _⟩
       ·omega
       ·rw [h] at q; cases q
    have hst := hk0.trans hpush
    refine ⟨0, xs.drop lo ++ ys, v', w', _, Nat.zero_le _, rfl, by rw [List.length_append, hdl]; omega, h2, hst, ?_⟩
    have hmv : upd m (H.set id none).length v' H.length = v' := by
     show (if H.length = (H.set id none).length then v' else m H.length) = v'
     rw [if_pos (by simp)]
    refine Rd.bufSub hst.hp (hlvN _) ?_
    obtain ⟨a', l', c', rfl⟩ : ∃ a' l' c', v' = .slice a' l' c' := by
     rcases h3.2 with ⟨q, _⟩ | ⟨g', cap', cur', q, _⟩
     ·exact ⟨_, _, _, q⟩
     ·exact ⟨_, _, _, q⟩
    exact .buf _ _ _ _ (by simp [hlen']) fun o hlo => hmv
   by_cases hroom : xs.length + ys.length <= c0
   ·have ga := ga (by omega)
    obtain rfl : a = some ⟨g, lo * i.size, none⟩ := by rw [ga]; show some ((⟨g, 0, none⟩ : Addr).add (lo * i.size)) = _; rw [add_lit, Nat.zero_add]
    obtain ⟨v', w', h2, h3, h4⟩ := whole ty
    rw [g2] at h2
    have hmu : (xs.length + ys.length) * i.size <= c0 * i.size := Nat.mul_le_mul_right _ hroom
    rw [Nat.add_mul] at hmu
    have hlow : lo * i.size + (xs.length - lo) * i.size = xs.length * i.size := by rw [<- Nat.add_mul]; congr 1; omega
    have hcells : ∀ j, j < news.length -> (w.cell? ⟨g, xs.length * i.size + j, none⟩).isSome = true := by
     intro j hj
     rw [cell_of_row w g _ cur e (0, 0) hh]
     rw [Array.getElem?_eq_getElem (by omega)]
     rfl
    have hfro : ∀ j, j < news.length -> w.frozen? ⟨g, xs.length * i.size + j, none⟩ = false := by
     intro j hj
     simp [World.frozen?, hh]
    have r1 := run_append_room_cells (P := P) w t ty e i ht hi g 0 xs.length c0 a2 ys.length c2 news hnlen hnat h1 hroom (by simpa using hcells) (by simpa using hfro)
    have r2 := run_append_room_cells (P := P) w t ty e i ht hi g (lo * i.size) (xs.length - lo) (c0 - lo) a2 ys.length c2 news hnlen hnat h1 (by omega) (by rw [hlow]; exact hcells) (by rw [hlow]; exact hfro)
    rw [h2] at r1
    injection r1 with r3 r4
    rw [hlow] at r2
    rw [Nat.zero_add] at r4
    refine ⟨lo, xs ++ ys, _, w', _, by rw [List.length_append]; omega, by rw [List.drop_append_of_le_length g3], by rw [List.length_append]; exact Nat.le_refl _, by rw [r2, r4], h3, ?_⟩
    have hmv : upd m H.length v' H.length = v' := if_pos rfl
    refine .sub _ _ _ _ _ _ (by simp [hlen']) (fun e2 nl2 xs2 hl2 => ?_) (fun _ _ _ he => by rw [hmv, r3] at he; cases he)
    have hl3 := hlvN (xs ++ ys)
    unfold Abs.live at hl2 hl3
    rw [hl3] at hl2
    injection hl2 with hl2; injection hl2 with hl2; injection hl2 with he _ hxs
    subst he; subst hxs
    refine ⟨i, some ⟨g, 0, none⟩, _, c0, hi, hmv.trans r3, by rw [List.length_append]; omega, Nat.le_refl _, by rw [List.length_append]; omega, rfl, by simp, fun _ => ?_⟩
    show some (_ : Addr) = some ((⟨g, 0, none⟩ : Addr).add (lo * i.size))
    rw [add_lit, Nat.zero_add]
   ·cases a with
    | none => exact absurd (gn.1 rfl) (by simp)
    | some b =>
     refine grow b rfl (fun hne => ?_) hroom
     have := ga hne
     injection this with this
     rw [this]
     show (⟨g, 0, none⟩ : Addr).add (lo * i.size) = _
     rw [add_lit, Nat.zero_add]
end
end Go.Abs
