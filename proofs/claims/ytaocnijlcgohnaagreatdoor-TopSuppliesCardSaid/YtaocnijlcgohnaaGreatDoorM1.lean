/- Whatever the list of numbers, TopSupplies returns true, and its argument reads as it did; its package variables are tied to the program's text. Part 1 of 9. -/
import Derived.WalkKit
import Derived.Maps.AppendAt
import Derived.Deep.Quiet
import Derived.StillTail
import Derived.Laws.StructEq
import Derived.Laws.MakeOwn
import Derived.Great.BuildSlice
import Derived.MapFrom
set_option linter.unusedVariables false
set_option linter.unusedSimpArgs false
namespace Go.Abs
open Go.RowKit
inductive PV where
 | v (x : Value)
 | list (nl : Bool) (xs : List PV)
 | agg (cs : List PV)
def PV.cells : PV -> List PV
 | .agg cs => cs
 | .v x => [.v x]
 | .list nl xs => [.list nl xs]
def flat (xs : List PV) : List PV := xs.flatMap PV.cells
inductive RdP (S : Nat -> Prop) (w : World) : PV -> Value -> Prop
 | v (x : Value) (h : x.oneCell' = true) : RdP S w (.v x) x
 | nil : RdP S w (.list true []) (.slice none 0 0)
 | list (xs : List PV) (a : Addr) (cap sz : Nat) (us : Nat -> Value) (hS : xs ≠ [] -> S a.block) (hc : xs.length <= cap) (hm : cap <= maxLen)
   (hz : ∀ x ∈ xs, x.cells.length = sz)
   (hu : ∀ k c, (flat xs)[k]? = some c -> w.cell? (a.add k) = some (us k) /\ (us k).oneCell' = true)
   (hr : ∀ k c, (flat xs)[k]? = some c -> RdP S w c (us k)) :
   RdP S w (.list false xs) (.slice (some a) xs.length cap)
 | agg (cs : List PV) (vs : Array Value) (hl : vs.size = cs.length) (ho : ∀ k c, cs[k]? = some c -> (vs.getD k undef).oneCell' = true)
   (hr : ∀ k c, cs[k]? = some c -> RdP S w c (vs.getD k undef)) :
   RdP S w (.agg cs) (.agg vs)
theorem cm (a : Addr) (n : Nat) : (a.add n).block = a.block := by unfold Addr.add; split <;> rfl
theorem add_add (a : Addr) (i j : Nat) : (a.add i).add j = a.add (i + j) := by
 unfold Addr.add
 by_cases hi : i = 0 <;> by_cases hj : j = 0 <;> simp [hi, hj, Nat.add_assoc]
theorem add_lit (b o n : Nat) : (⟨b, o, none⟩ : Addr).add n = ⟨b, o + n, none⟩ := by
 unfold Addr.add
 by_cases h : n = 0 <;> simp [h]
def b8 (S : Nat -> Prop) (w w' : World) : Prop := ∀ b, S b -> w'.heap[b]? = w.heap[b]?
theorem b8.cell {S : Nat -> Prop} {w w' : World} (h : b8 S w w') {p : Addr} (hp : S p.block) : w'.cell? p = w.cell? p := World.cell?_of_block (h p.block hp)
theorem RdP.mono {S S' : Nat -> Prop} {w w' : World} (hk : b8 S w w') (hs : ∀ b, S b -> S' b) {x : PV} {v : Value} (h : RdP S w x v) : RdP S' w' x v := by
 induction h with
 | v x h => exact .v x h
 | nil => exact .nil
 | list xs a cap sz us hS hc hm hz hu hr ih =>
  refine .list xs a cap sz us (fun h => hs _ (hS h)) hc hm hz (fun k c h => ⟨?_, (hu k c h).2⟩) ih
  rw [hk.cell (by rw [cm]; exact hS (by rintro rfl; simp [flat] at h))]
  exact (hu k c h).1
 | agg cs vs hl ho hr ih => exact .agg cs vs hl ho ih
def gl (g : Nat) : Option (List PV) := match Nat.beq g 0 with
 | true => some [.v (.string ⟨#[]⟩), .v (.string ⟨#[99, 108, 111, 99, 107, 45, 102, 114, 101, 113, 117, 101, 110, 99, 121]⟩), .v (.string ⟨#[100, 105, 118, 105, 115, 111, 114, 115]⟩), .v (.string ⟨#[102, 97, 99, 116, 111, 114, 115]⟩)]
 | false => match Nat.beq g 1 with
  | true => some [.v (.int .i64 0), .v (.int .i64 1)]
  | false => none
def Glb (S : Nat -> Prop) (w : World) : Prop := ∀ g cs, gl g = some cs -> S g /\ ∃ us : Nat -> Value, (∀ k c, cs[k]? = some c -> w.cell? ((⟨g, 0, none⟩ : Addr).add k) = some (us k) /\ (us k).oneCell' = true) /\ ∀ k c, cs[k]? = some c -> RdP S w c (us k)
theorem Glb.mono {S S' : Nat -> Prop} {w w' : World} (h : Glb S w) (hk : b8 S w w') (hs : ∀ b, S b -> S' b) : Glb S' w' := by
 intro g cs hg
 obtain ⟨h1, us, h2, h3⟩ := h g cs hg
 refine ⟨hs _ h1, us, fun k c hc => ⟨?_, (h2 k c hc).2⟩, fun k c hc => (h3 k c hc).mono hk hs⟩
 rw [hk.cell (by rw [cm]; exact h1)]
 exact (h2 k c hc).1
inductive AV where
 | p (x : PV)
 | ptr (id off : Nat)
 | buf (id : Nat)
 | sub (id lo hi : Nat)
 | bp (id ix off : Nat)
 | aN (cs : List PV)
 | agg (cs : List AV)
 | tup (xs : List AV)
 | clo (fn : Fn) (caps : List AV)
 | mp (id : Nat)
 | cap (nl : Bool) (xs : List PV)
 | bN (id off : Nat)
 | dead
inductive AO where
 | cells (cs : List AV)
 | buf (e : TypeId) (nl : Bool) (xs : List PV)
 | frz (nl : Bool) (xs : List PV)
 | map (es : List (Value × Value))
 | arr (xs : List PV)
 | bn (e : TypeId) (xs : List PV) (l : List AV)
abbrev AH := List (Option AO)
def live (H : AH) (id : Nat) (o : AO) : Prop := H[id]? = some (some o)
inductive Rd (P : Program) (H : AH) (m : Nat -> Value) (S : Nat -> Prop) (w : World) : AV -> Value -> Prop
 | p (x : PV) (v : Value) (h : RdP S w x v) : Rd P H m S w (.p x) v
 | ptr (id off : Nat) (a : Addr) (hid : id < H.length) (h : ∀ o, live H id o -> ∃ b, m id = .pointer (some ⟨b, 0, none⟩) /\ a = ⟨b, off, none⟩) : Rd P H m S w (.ptr id off) (.pointer (some a))
 | buf (id : Nat) (a : Option Addr) (l c : Nat) (hid : id < H.length) (h : ∀ o, live H id o -> m id = .slice a l c) : Rd P H m S w (.buf id) (.slice a l c)
 | sub (id lo hi : Nat) (a : Option Addr) (l c : Nat) (hid : id < H.length)
   (h : ∀ e nl xs, live H id (.buf e nl xs) -> ∃ i a0 l0 c0, P.info? e = some i /\ m id = .slice a0 l0 c0 /\ lo <= hi /\ hi <= xs.length /\ l = hi - lo /\ c = c0 - lo /\ (a = none ↔ a0 = none) /\ (c0 ≠ lo -> a = a0.map (·.add (lo * i.size))))
   (h2 : ∀ o p, live H id o -> m id = .pointer (some p) -> lo = 0 /\ a = some p /\ l = hi /\ hi <= c /\ c <= maxLen) :
   Rd P H m S w (.sub id lo hi) (.slice a l c)
 | bp (id ix off : Nat) (a : Addr) (hid : id < H.length)
   (h : ∀ e nl xs, live H id (.buf e nl xs) -> ∃ i g l c, P.info? e = some i /\ m id = .slice (some ⟨g, 0, none⟩) l c /\ a = ⟨g, ix * i.size + off, none⟩) : Rd P H m S w (.bp id ix off) (.pointer (some a))
 | aN (cs : List PV) (a : Addr) (us : Nat -> Value) (hS : S a.block) (hu : ∀ k c, cs[k]? = some c -> w.cell? (a.add k) = some (us k) /\ (us k).oneCell' = true)
   (hr : ∀ k c, cs[k]? = some c -> RdP S w c (us k)) : Rd P H m S w (.aN cs) (.pointer (some a))
 | agg (cs : List AV) (vs : Array Value) (hl : vs.size = cs.length) (ho : ∀ k c, cs[k]? = some c -> (vs.getD k undef).oneCell' = true)
   (hr : ∀ k c, cs[k]? = some c -> Rd P H m S w c (vs.getD k undef)) : Rd P H m S w (.agg cs) (.agg vs)
 | tup (cs : List AV) (vs : Array Value) (hl : vs.size = cs.length) (hr : ∀ k c, cs[k]? = some c -> Rd P H m S w c (vs.getD k undef)) : Rd P H m S w (.tup cs) (.tuple vs)
 | clo (fn : Fn) (caps : List AV) (vs : Array Value) (hl : vs.size = caps.length) (hr : ∀ k c, caps[k]? = some c -> Rd P H m S w c (vs.getD k undef)) :
   Rd P H m S w (.clo fn caps) (.func fn #[] vs)
 | mp (id b : Nat) (hid : id < H.length) (h : ∀ o, live H id o -> m id = .map (some b)) : Rd P H m S w (.mp id) (.map (some b))
 | cap (nl : Bool) (xs : List PV) (a : Option Addr) (l : Nat) (h : RdP S w (.list nl xs) (.slice a l l)) : Rd P H m S w (.cap nl xs) (.slice a l l)
 | bN (id off : Nat) (a : Addr) (hid : id < H.length)
   (h : ∀ e xs l, live H id (.bn e xs l) -> ∃ i g l0 c, P.info? e = some i /\ m id = .slice (some ⟨g, 0, none⟩) l0 c /\ a = ⟨g, xs.length * i.size + off, none⟩) : Rd P H m S w (.bN id off) (.pointer (some a))
 | dead (v : Value) : Rd P H m S w .dead v
structure aW (H H' : AH) (m m' : Nat -> Value) : Prop where
 len : H.length <= H'.length
 at_ : ∀ id, id < H.length -> ∀ o', live H' id o' -> m' id = m id /\ ∃ o, live H id o /\ (∀ e nl xs, o' = .buf e nl xs -> ∃ nl0 xs0, o = .buf e nl0 xs0 /\ xs0.length <= xs.length) /\ ∀ e xs l, o' = .bn e xs l -> ∃ l0, o = .bn e xs l0
theorem aW.refl (H : AH) (m : Nat -> Value) : aW H H m m := ⟨Nat.le_refl _, fun _ _ o' h => ⟨rfl, o', h, fun _ _ _ e => ⟨_, _, e, Nat.le_refl _⟩, fun _ _ l e => ⟨l, e⟩⟩⟩
theorem aW.trans {H H' H'' : AH} {m m' m'' : Nat -> Value} (h : aW H H' m m') (k : aW H' H'' m' m'') : aW H H'' m m'' := by
 refine ⟨Nat.le_trans h.len k.len, fun id hid o'' hl => ?_⟩
 obtain ⟨hm, o', ho', hb, hL⟩ := k.at_ id (Nat.lt_of_lt_of_le hid h.len) o'' hl
 obtain ⟨hm', o, ho, hb', hL'⟩ := h.at_ id hid o' ho'
 refine ⟨hm.trans hm', o, ho, fun e nl xs he => ?_, fun e xs l he => ?_⟩
 ·obtain ⟨nl1, xs1, he1, hle1⟩ := hb e nl xs he
  obtain ⟨nl0, xs0, he0, hle0⟩ := hb' e nl1 xs1 he1
  exact ⟨nl0, xs0, he0, Nat.le_trans hle0 hle1⟩
 ·obtain ⟨l1, he1⟩ := hL e xs l he
  exact hL' e xs l1 he1
section
variable {P : Program} {H H' : AH} {m m' : Nat -> Value} {S S' : Nat -> Prop} {w w' : World}
theorem Rd.mono (hk : b8 S w w') (hs : ∀ b, S b -> S' b) (ho : aW H H' m m') {x : AV} {v : Value} (h : Rd P H m S w x v) : Rd P H' m' S' w' x v := by
 induction h with
 | p x v h => exact .p x v (h.mono hk hs)
 | ptr id off a hid h =>
  refine .ptr id off a (Nat.lt_of_lt_of_le hid ho.len) fun o' hl => ?_
  obtain ⟨hm, o, hlo, _⟩ := ho.at_ id hid o' hl
  rw [hm]
  exact h o hlo
 | buf id a l c hid h =>
  refine .buf id a l c (Nat.lt_of_lt_of_le hid ho.len) fun o' hl => ?_
  obtain ⟨hm, o, hlo, _⟩ := ho.at_ id hid o' hl
  rw [hm]
  exact h o hlo
 | sub id lo hi a l c hid h hp =>
  refine .sub id lo hi a l c (Nat.lt_of_lt_of_le hid ho.len) (fun e nl xs hl => ?_) fun o' p hl he => ?_
  ·obtain ⟨hm, o, hlo, hb, _⟩ := ho.at_ id hid _ hl
   obtain ⟨nl0, xs0, rfl, hle⟩ := hb e nl xs rfl
   obtain ⟨i, a0, l0, c0, h1, h2, h3, h4, h5⟩ := h e nl0 xs0 hlo
   exact ⟨i, a0, l0, c0, h1, hm.trans h2, h3, Nat.le_trans h4 hle, h5⟩
  ·obtain ⟨hm, o, hlo, _⟩ := ho.at_ id hid _ hl
   exact hp o p hlo (hm.symm.trans he)
 | bp id ix off a hid h =>
  refine .bp id ix off a (Nat.lt_of_lt_of_le hid ho.len) fun e nl xs hl => ?_
  obtain ⟨hm, o, hlo, hb, _⟩ := ho.at_ id hid _ hl
  obtain ⟨nl0, xs0, rfl, hle⟩ := hb e nl xs rfl
  obtain ⟨i, g, l, c, h1, h2, h3⟩ := h e nl0 xs0 hlo
  exact ⟨i, g, l, c, h1, hm.trans h2, h3⟩
 | aN cs a us hS hu hr =>
  refine .aN cs a us (hs _ hS) (fun k c h => ⟨?_, (hu k c h).2⟩) fun k c h => (hr k c h).mono hk hs
  rw [hk.cell (by rw [cm]; exact hS)]
  exact (hu k c h).1
 | agg cs vs hl ho' hr ih => exact .agg cs vs hl ho' ih
 | tup cs vs hl hr ih => exact .tup cs vs hl ih
 | clo fn caps vs hl hr ih => exact .clo fn caps vs hl ih
 | mp id b hid h =>
  refine .mp id b (Nat.lt_of_lt_of_le hid ho.len) fun o' hl => ?_
  obtain ⟨hm, o, hlo, _⟩ := ho.at_ id hid o' hl
  rw [hm]
  exact h o hlo
 | cap nl xs a l h => exact .cap nl xs a l (h.mono hk hs)
 | bN id off a hid h =>
  refine .bN id off a (Nat.lt_of_lt_of_le hid ho.len) fun e xs l hl => ?_
  obtain ⟨hm, o, hlo, _, hL⟩ := ho.at_ id hid _ hl
  obtain ⟨l0, rfl⟩ := hL e xs l rfl
  obtain ⟨i, g, l1, c, h1, h2, h3⟩ := h e xs l0 hlo
  exact ⟨i, g, l1, c, h1, hm.trans h2, h3⟩
 | dead v => exact .dead v
end
def OK (P : Program) (H : AH) (m : Nat -> Value) (S : Nat -> Prop) (w : World) (mv : Value) : AO -> Prop
 | .cells cs => ∃ (b : Nat) (T : TypeId) (vs : Array Value), mv = .pointer (some ⟨b, 0, none⟩) /\ w.heap[b]? = some (.cells vs T (0, 0)) /\ cs.length <= vs.size /\
   (∀ k c, cs[k]? = some c -> Rd P H m S w c (vs.getD k undef) /\ (vs.getD k undef).oneCell' = true)
 | .buf e nl xs => ∃ (i : TypeInfo) (us : List Value), P.info? e = some i /\ 0 < i.size /\ w.ownsRow 0 e i.size mv xs.length us /\ (∀ x ∈ xs, x.cells.length = i.size) /\
   (∀ (k : Nat) (c : PV), (flat xs)[k]? = some c -> ∃ u : Value, us[k]? = some u /\ RdP S w c u /\ u.oneCell' = true) /\ (nl = true ↔ mv = .slice none 0 0)
 | .frz nl xs => RdP S w (.list nl xs) mv
 | .map ks => ∃ (b : Nat) (es : Array MapEntry) (c : Nat), mv = .map (some b) /\ w.heap[b]? = some (.map es c) /\ es.toList.map (fun e => (e.key, e.val)) = ks /\ ∀ e ∈ ks, e.2.oneCell' = true
 | .arr xs => ∃ (b : Nat) (T : TypeId) (vs : Array Value), mv = .pointer (some ⟨b, 0, none⟩) /\ w.heap[b]? = some (.cells vs T (0, 0)) /\ xs.length <= vs.size /\
   (∀ k c, xs[k]? = some c -> RdP S w c (vs.getD k undef) /\ (vs.getD k undef).oneCell' = true)
 | .bn e xs l => ∃ (i : TypeInfo) (us : List Value), P.info? e = some i /\ 0 < i.size /\ w.ownsRow 0 e i.size mv (xs.length + 1) us /\ (∀ x ∈ xs, x.cells.length = i.size) /\ l.length = i.size /\
   (∀ (k : Nat) (c : PV), (flat xs)[k]? = some c -> ∃ u : Value, us[k]? = some u /\ RdP S w c u /\ u.oneCell' = true) /\
   (∀ (k : Nat) (c : AV), l[k]? = some c -> ∃ u : Value, us[xs.length * i.size + k]? = some u /\ Rd P H m S w c u /\ u.oneCell' = true)
def blk (mv : Value) : AO -> Option Nat
 | .cells _ => match mv with | .pointer (some a) => some a.block | _ => none
 | .buf _ _ _ => mv.ownBlock
 | .frz _ _ => none
 | .map _ => match mv with | .map (some b) => some b | _ => none
 | .arr _ => match mv with | .pointer (some a) => some a.block | _ => none
 | .bn _ _ _ => mv.ownBlock
structure Hp (P : Program) (H : AH) (m : Nat -> Value) (S : Nat -> Prop) (w : World) : Prop where
 obj : ∀ id o, live H id o -> OK P H m S w (m id) o
 inj : ∀ i j oi oj b, live H i oi -> live H j oj -> blk (m i) oi = some b -> blk (m j) oj = some b -> i = j
 sub : ∀ b, S b -> b < w.heap.size
 out : ∀ i o b, live H i o -> blk (m i) o = some b -> ¬ S b
 glb : Glb S w
theorem aJ {xs : List PV} {sz : Nat} (h : ∀ x ∈ xs, x.cells.length = sz) : (flat xs).length = xs.length * sz := by
 induction xs with
 | nil => simp [flat]
 | cons x xs ih =>
  have h1 := ih fun y hy => h y (List.mem_cons_of_mem _ hy)
  simp only [flat, List.flatMap_cons, List.length_append, List.length_cons] at *
  rw [h1, h x (List.mem_cons_self ..), Nat.succ_mul]
  omega
theorem gh {xs : List PV} {sz : Nat} (h : ∀ x ∈ xs, x.cells.length = sz) : ∀ (i : Nat) (x : PV), xs[i]? = some x -> ∀ (j : Nat) (c : PV), x.cells[j]? = some c -> (flat xs)[i * sz + j]? = some c := by
 induction xs with
 | nil => intro i x hi; simp at hi
 | cons y xs ih =>
  intro i x hi j c hj
  have hy := h y (List.mem_cons_self ..)
  have ih' := ih (fun z hz => h z (List.mem_cons_of_mem _ hz))
  simp only [flat, List.flatMap_cons]
  cases i with
  | zero =>
   simp at hi
   subst hi
   rw [List.getElem?_append_left (by have := (List.getElem?_eq_some_iff.1 hj).1; omega)]
   simpa using hj
  | succ i =>
   simp at hi
   have hle : y.cells.length <= (i + 1) * sz + j := by rw [hy, Nat.succ_mul]; omega
   rw [List.getElem?_append_right hle, hy]
   have he : (i + 1) * sz + j - sz = i * sz + j := by rw [Nat.succ_mul]; omega
   rw [he]
   exact ih' i x hi j c hj
section
variable {P : Program} {H : AH} {m : Nat -> Value} {S : Nat -> Prop} {w : World} {mv : Value}
theorem OK.bE {o : AO} {b : Nat} (h : OK P H m S w mv o) (hb : blk mv o = some b) : b < w.heap.size := by
 cases o with
 | cells cs =>
  obtain ⟨b', T, vs, rfl, hh, _⟩ := h
  simp [blk] at hb
  subst hb
  exact (Array.getElem?_eq_some_iff.1 hh).1
 | buf e nl xs =>
  obtain ⟨i, us, _, _, ho, _⟩ := h
  exact (ho.lt b hb).2
 | frz nl xs => simp [blk] at hb
 | map ks =>
  obtain ⟨b', es, c, rfl, hh, _⟩ := h
  simp [blk] at hb
  subst hb
  exact (Array.getElem?_eq_some_iff.1 hh).1
 | arr xs =>
  obtain ⟨b', T, vs, rfl, hh, _⟩ := h
  simp [blk] at hb
  subst hb
  exact (Array.getElem?_eq_some_iff.1 hh).1
 | bn e xs l =>
  obtain ⟨i, us, _, _, ho, _⟩ := h
  exact (ho.lt b hb).2
end
end Go.Abs
namespace Go.Abs
open Go.RowKit
inductive TK where
 | sl (e : TypeId)
 | st (fs : List (TypeId × Nat))
 | ar (n : Nat) (e : TypeId)
 | int (k : IntKind)
 | bool
 | str
 | map (k e : TypeId)
 | other
structure TI where
 k : TK
 size : Nat
 bytes : Nat
 zero : Value
def kindOf : TypeDesc -> TK
 | .slice e => .sl e
 | .struct fs => .st (fs.toList.map fun f => (f.type, f.offset))
 | .array n e => .ar n e
 | .int k => .int k
 | .bool => .bool
 | .string => .str
 | .map k e => .map k e
 | _ => .other
def vP (P : Program) (t : TypeId) : TypeDesc -> Bool
 | .struct fs => !P.stoodInHeld t && !P.eqGuardType P.depth t && fs.all (fun f => f.name != "_")
 | _ => true
def cA (P : Program) (t : TypeId) : Option TI :=
 match P.info? t, P.underlying t with
 | some i, some d => match i.zero with
  | some z => if (z.cells.size == i.size && z.cells.all (·.oneCell') && vP P t d) = true then some { k := kindOf d, size := i.size, bytes := i.bytes, zero := z } else none
  | none => none
 | _, _ => none
theorem aE {P : Program} {t : TypeId} {i : TI} (h : cA P t = some i) :
  ∃ inf d, P.info? t = some inf /\ P.underlying t = some d /\ inf.zero = some i.zero /\ inf.size = i.size /\ inf.bytes = i.bytes /\ kindOf d = i.k /\ i.zero.cells.size = i.size /\ ∀ c ∈ i.zero.cells, c.oneCell' = true := by
 unfold cA at h
 split at h
 ·rename_i inf d h1 h2
  split at h
  ·rename_i z hz
   split at h
   ·rename_i hc
    simp only [Bool.and_eq_true, beq_iff_eq] at hc
    injection h with h
    subst h
    exact ⟨inf, d, h1, h2, hz, rfl, rfl, rfl, hc.1.1, fun c hm => by have := Array.all_eq_true'.1 hc.1.2 c hm; simpa using this⟩
   ·cases h
  ·cases h
 ·cases h
theorem m6 {P : Program} {t : TypeId} {i : TI} (h : cA P t = some i) {fs : Array Field} (hd : P.underlying t = some (.struct fs)) : P.stoodInHeld t = false /\ P.eqGuardType P.depth t = false /\ ∀ f ∈ fs, f.name ≠ "_" := by
 unfold cA at h
 rw [hd] at h
 split at h
 ·rename_i inf d h1 h2
  cases h2
  split at h
  ·split at h
   ·rename_i hc
    simp only [Bool.and_eq_true, vP, Bool.not_eq_true', Array.all_eq_true', bne_iff_ne] at hc
    exact ⟨hc.2.1.1, hc.2.1.2, hc.2.2⟩
   ·cases h
  ·cases h
 ·cases h
structure aK (P : Program) (ti : TypeId -> Option TI) : Prop where
 ok : ∀ t i, ti t = some i -> cA P t = some i
def vJ (tab : List (TypeId × TI)) (t : TypeId) : Option TI :=
 match tab with
 | [] => none
 | (u, i) :: r => match Nat.beq u t with
  | true => some i
  | false => vJ r t
theorem zb (P : Program) (tab : List (TypeId × TI)) (h : tab.map (fun p => cA P p.1) = tab.map (fun p => some p.2)) : aK P (vJ tab) := by
 refine ⟨fun t i hl => ?_⟩
 induction tab with
 | nil => cases hl
 | cons p r ih =>
  simp only [List.map_cons, List.cons.injEq] at h
  unfold vJ at hl
  split at hl
  ·rename_i hb
   have hu : p.1 = t := Nat.eq_of_beq_eq_true hb
   injection hl with hl
   rw [<- hu, h.1, hl]
  ·exact ih h.2 hl
def TK.isAgg : TK -> Bool
 | .st _ => true
 | .ar _ _ => true
 | _ => false
theorem cj {P : Program} {t : TypeId} {d : TypeDesc} (hd : P.underlying t = some d) (w : World) : (isAgg t).run P w = .ok (kindOf d).isAgg w := by
 simp only [isAgg, Sem.run_bind, run_underlying hd, Result.andThen_ok]
 cases d <;> rfl
def cX : Value -> PV
 | .slice none 0 0 => .list true []
 | x => .v x
def pz : Value -> PV
 | .agg cs => .agg (cs.toList.map cX)
 | x => cX x
def lG : List AV -> Option (List PV)
 | [] => some []
 | .p x :: r => match lG r with
  | some l => some (x :: l)
  | none => none
 | _ :: _ => none
def eK (cs : List AV) : AV := match lG cs with
 | some ps => .p (.agg ps)
 | none => .agg cs
def AV.cells : AV -> List AV
 | .agg cs => cs
 | .p (.agg cs) => cs.map .p
 | x => [x]
def AV.one : AV -> Bool
 | .p (.v _) => true
 | .p (.list _ _) => true
 | .ptr _ _ => true
 | .buf _ => true
 | .sub _ _ _ => true
 | .bp _ _ _ => true
 | .aN _ => true
 | .clo _ _ => true
 | .mp _ => true
 | .bN _ _ => true
 | _ => false
end Go.Abs
namespace Go.Abs
open Go.RowKit
inductive bO (xs : List PV) (i : Int) (k : PV -> Prop) : Prop
 | mk (x : PV) (h0 : 0 <= i) (hx : xs[i.toNat]? = some x) (hk : k x) : bO xs i k
inductive CZ (cs : List PV) (sz : Nat) (i : Int) (k : List PV -> Prop) : Prop
 | mk (zs : List PV) (h : (cs.drop (i.toNat * sz)).take sz = zs) (hl : Nat.ble (i.toNat * sz + sz) cs.length = true) (hk : k zs) : CZ cs sz i k
inductive NW (kd : IntKind) (n : Int) (k : Int -> Prop) : Prop
 | mk (n' : Int) (h : kd.wrap n = n') (hk : k n') : NW kd n k
inductive IsL (xs : List PV) (k : List PV -> Prop) : Prop
 | mk (ys : List PV) (h : xs = ys) (hk : k ys) : IsL xs k
inductive cq (xs : List PV) (k : Nat -> Prop) : Prop
 | mk (n : Nat) (h : xs.length = n) (hk : n <= maxLen -> k n) : cq xs k
inductive bx (xs ys : List PV) (by_ : Nat) (k : List PV -> Prop) : Prop
 | mk (zs : List PV) (h : xs ++ ys = zs) (hb : zs.length <= maxLen /\ zs.length * by_ <= 140737488355328) (hk : k zs) : bx xs ys by_ k
inductive InA (xs : List PV) (i : Int) (k : Nat -> Prop) : Prop
 | mk (n : Nat) (hn : i = n) (h : n < xs.length) (hk : k n) : InA xs i k
inductive oZ (nl : Bool) (xs : List PV) (k : Prop) : Prop
 | mk (h : (nl = true -> xs = []) -> k) : oZ nl xs k
inductive SzA (xs : List PV) (sz : Nat) (k : Prop) : Prop
 | mk (h : ∀ x ∈ xs, x.cells.length = sz) (hk : k) : SzA xs sz k
inductive aX (xs : List PV) (l : Int) (ho : Option Int) (k : List PV -> Prop) : Prop
 | mk (ys : List PV) (hb : 0 <= l /\ l <= ho.getD xs.length /\ ho.getD xs.length <= xs.length) (h : (xs.take (ho.getD xs.length).toNat).drop l.toNat = ys) (hk : k ys) : aX xs l ho k
inductive sf (b v : Int) (k : Int -> Prop) : Prop
 | mk (n : Int) (h : b ≠ 0) (e : v = n) (hk : k n) : sf b v k
inductive fA (v : Int) (k : Int -> Prop) : Prop
 | mk (n : Int) (e : v = n) (hk : k n) : fA v k
def gQ : IntKind -> IntKind -> Bool
 | .i8, .i8 => true
 | .i16, .i16 => true
 | .i32, .i32 => true
 | .i64, .i64 => true
 | .u8, .u8 => true
 | .u16, .u16 => true
 | .u32, .u32 => true
 | .u64, .u64 => true
 | _, _ => false
theorem ny : ∀ {a b : IntKind}, gQ a b = true -> a = b := by
 intro a b h
 cases a <;> cases b <;> first | rfl | (simp [gQ] at h)
def br (b : Bool) (X Y : Prop) : Prop := match b with
 | true => X
 | false => Y
theorem fK {b : Bool} {X Y : Prop} (h1 : b = true -> X) (h2 : b = false -> Y) : br b X Y := by
 cases b
 ·exact h2 rfl
 ·exact h1 rfl
theorem CN {b : Bool} {X Y : Prop} (h : b = true) (hk : X) : br b X Y := by subst h; exact hk
theorem Ao {a b : Bool} {X Y : Prop} (h : br a X Y) : (match cond true a b with
 | true => X
 | false => Y) := h
theorem Ap {a b : Bool} {X Y : Prop} (h : br b X Y) : (match cond false a b with
 | true => X
 | false => Y) := h
def mR (op : BinOp) (kd : IntKind) (a b : Int) (k : AV -> Prop) : Prop := match op with
 | .add => NW kd (a + b) fun n => k (.p (.v (.int kd n)))
 | .sub => NW kd (a - b) fun n => k (.p (.v (.int kd n)))
 | .mul => NW kd (a * b) fun n => k (.p (.v (.int kd n)))
 | .quo => sf b (a.tdiv b) fun n => NW kd n fun n => k (.p (.v (.int kd n)))
 | .rem => sf b (a.tmod b) fun n => k (.p (.v (.int kd n)))
 | .and => NW kd ((BitVec.ofInt kd.bits a &&& BitVec.ofInt kd.bits b).toNat : Int) fun n => k (.p (.v (.int kd n)))
 | .or => NW kd ((BitVec.ofInt kd.bits a ||| BitVec.ofInt kd.bits b).toNat : Int) fun n => k (.p (.v (.int kd n)))
 | .xor => NW kd ((BitVec.ofInt kd.bits a ^^^ BitVec.ofInt kd.bits b).toNat : Int) fun n => k (.p (.v (.int kd n)))
 | .andNot => NW kd ((BitVec.ofInt kd.bits a &&& ~~~(BitVec.ofInt kd.bits b)).toNat : Int) fun n => k (.p (.v (.int kd n)))
 | .eql => k (.p (.v (.bool (a == b))))
 | .neq => k (.p (.v (.bool (a != b))))
 | .lss => k (.p (.v (.bool (decide (a < b)))))
 | .leq => k (.p (.v (.bool (decide (a <= b)))))
 | .gtr => k (.p (.v (.bool (decide (a > b)))))
 | .geq => k (.p (.v (.bool (decide (a >= b)))))
 | _ => False
def jM (op : BinOp) (kd : IntKind) (a b : Int) (k : AV -> Prop) : Prop := match op with
 | .shl => 0 <= b /\ NW kd (a * 2 ^ (min b.toNat kd.bits)) fun n => k (.p (.v (.int kd n)))
 | .shr => 0 <= b /\ fA (a.fdiv (2 ^ (min b.toNat kd.bits))) fun n => k (.p (.v (.int kd n)))
 | _ => False
def mH : BinOp -> Bool
 | .shl => true
 | .shr => true
 | _ => false
def oI (ti : TypeId -> Option TI) : List (TypeId × Nat) -> List PV -> List PV -> Option Bool
 | [], _, _ => some true
 | (t, off) :: fs, xs, ys =>
  match ti t, xs[off]?, ys[off]?, oI ti fs xs ys with
  | some i, some (.v x), some (.v y), some r => match i.k, x, y with
   | .int _, .int ka a, .int kb b => match gQ ka kb with
    | true => some (a == b && r)
    | false => none
   | .bool, .bool a, .bool b => some ((a == b) && r)
   | .str, .string a, .string b => some ((a.toList == b.toList) && r)
   | _, _, _ => none
  | _, _, _, _ => none
inductive BA (a b : ByteArray) (X : Prop) : Prop
 | mk (h : a.size + b.size <= 9223372036854775807) (hk : X)
def su (ti : TypeId -> Option TI) (H : AH) (op : BinOp) (t : TypeId) (x y : AV) (k : AV -> Prop) : Prop :=
 match x, y with
 | .p (.v (.int ka a)), .p (.v (.int kb b)) => match mH op with
  | true => jM op ka a b k
  | false => match gQ ka kb with
   | true => mR op ka a b k
   | false => False
 | .p (.v (.bool a)), .p (.v (.bool b)) => match ti t, op with
  | some ⟨.bool, _, _, _⟩, .eql => k (.p (.v (.bool (a == b))))
  | some ⟨.bool, _, _, _⟩, .neq => k (.p (.v (.bool (!(a == b)))))
  | _, _ => False
 | .p (.v (.string a)), .p (.v (.string b)) => match op with
  | .eql => k (.p (.v (.bool (a.toList == b.toList))))
  | .neq => k (.p (.v (.bool (!(a.toList == b.toList)))))
  | .add => BA a b (k (.p (.v (.string (a ++ b)))))
  | .lss => k (.p (.v (.bool (Op.bytesLess a.toList b.toList))))
  | .leq => k (.p (.v (.bool (Op.bytesLess a.toList b.toList || a.toList == b.toList))))
  | .gtr => k (.p (.v (.bool (!(Op.bytesLess a.toList b.toList || a.toList == b.toList)))))
  | .geq => k (.p (.v (.bool (!Op.bytesLess a.toList b.toList))))
  | _ => False
 | .p (.list nl xs), .p (.list true []) => match ti t, op with
  | some ⟨.sl _, _, _, _⟩, .eql => oZ nl xs (k (.p (.v (.bool nl))))
  | some ⟨.sl _, _, _, _⟩, .neq => oZ nl xs (k (.p (.v (.bool (!nl)))))
  | _, _ => False
 | .buf id, .p (.list true []) => match ti t, op, H[id]? with
  | some ⟨.sl _, _, _, _⟩, .eql, some (some (.buf _ nl xs)) => oZ nl xs (k (.p (.v (.bool nl))))
  | some ⟨.sl _, _, _, _⟩, .neq, some (some (.buf _ nl xs)) => oZ nl xs (k (.p (.v (.bool (!nl)))))
  | some ⟨.sl _, _, _, _⟩, .eql, some (some (.frz nl xs)) => oZ nl xs (k (.p (.v (.bool nl))))
  | some ⟨.sl _, _, _, _⟩, .neq, some (some (.frz nl xs)) => oZ nl xs (k (.p (.v (.bool (!nl)))))
  | _, _, _ => False
 | .p (.agg xs), .p (.agg ys) => match ti t with
  | some ⟨.st fs, _, _, _⟩ => match oI ti fs xs ys, op with
   | some r, .eql => k (.p (.v (.bool r)))
   | some r, .neq => k (.p (.v (.bool (!r))))
   | _, _ => False
  | _ => False
 | _, _ => False
section
variable {P : Program} {ti : TypeId -> Option TI} {H : AH} {m : Nat -> Value} {S : Nat -> Prop} {w : World}
def Ag (w w' : World) : Prop := ∀ b, b < w.heap.size -> w'.heap[b]? = w.heap[b]?
theorem Ag.refl (w : World) : Ag w w := fun _ _ => rfl
theorem Ag.size {w w' : World} (h : Ag w w') : w.heap.size <= w'.heap.size := by
 rcases Nat.eq_zero_or_pos w.heap.size with h0 | h0
 ·omega
 ·have h1 := h (w.heap.size - 1) (by omega)
  have hlt : w.heap.size - 1 < w.heap.size := by omega
  have := (Array.getElem?_eq_some_iff.1 (h1.trans (Array.getElem?_eq_getElem hlt))).1
  omega
theorem Ag.keeps {w w' : World} (h : Ag w w') (hp : Hp P H m S w) : b8 S w w' := fun b hb => h b (hp.sub b hb)
theorem Ag.cell {w w' : World} (h : Ag w w') {p : Addr} {v : Value} (hc : w.cell? p = some v) : w'.cell? p = some v :=
 (World.cell?_of_block (h p.block (World.block_lt_of_cell? w p hc))).trans hc
theorem zm (op : BinOp) (kd : IntKind) (t : TypeId) (a b : Int) {k : AV -> Prop} (hs : mH op = false) (h : mR op kd a b k) :
  ∃ r, k (.p (.v r)) /\ r.oneCell' = true /\ ∀ (w : World), (binOp op t (.int kd a) (.int kd b)).run P w = .ok r w := by
 cases op <;> simp only [mR, mH] at h hs <;> first | (cases h; done) | (cases hs; done) | skip
 case add => obtain ⟨n', hn, hk⟩ := h; exact ⟨_, hk, rfl, fun w => by simp [binOp, Op.intArith, hn]⟩
 case sub => obtain ⟨n', hn, hk⟩ := h; exact ⟨_, hk, rfl, fun w => by simp [binOp, Op.intArith, hn]⟩
 case mul => obtain ⟨n', hn, hk⟩ := h; exact ⟨_, hk, rfl, fun w => by simp [binOp, Op.intArith, hn]⟩
 case quo => obtain ⟨_, hb, rfl, n', hn, hk⟩ := h; exact ⟨_, hk, rfl, fun w => by simp [binOp, Op.intDiv, hb, hn]⟩
 case rem => obtain ⟨_, hb, rfl, hk⟩ := h; exact ⟨_, hk, rfl, fun w => by simp [binOp, Op.intDiv, hb]⟩
 case and => obtain ⟨n', hn, hk⟩ := h; exact ⟨_, hk, rfl, fun w => by simp only [binOp, Op.intBits]; rw [if_neg (by simp)]; show (pure _ : Sem Value).run P w = _; rw [hn]; rfl⟩
 case or => obtain ⟨n', hn, hk⟩ := h; exact ⟨_, hk, rfl, fun w => by simp only [binOp, Op.intBits]; rw [if_neg (by simp)]; show (pure _ : Sem Value).run P w = _; rw [hn]; rfl⟩
 case xor => obtain ⟨n', hn, hk⟩ := h; exact ⟨_, hk, rfl, fun w => by simp only [binOp, Op.intBits]; rw [if_neg (by simp)]; show (pure _ : Sem Value).run P w = _; rw [hn]; rfl⟩
 case andNot => obtain ⟨n', hn, hk⟩ := h; exact ⟨_, hk, rfl, fun w => by simp only [binOp, Op.intBits]; rw [if_neg (by simp)]; show (pure _ : Sem Value).run P w = _; rw [hn]; rfl⟩
 all_goals exact ⟨_, h, rfl, fun w => by simp [binOp, Op.intCmp]⟩
theorem wZ (op : BinOp) (kd kb : IntKind) (t : TypeId) (a b : Int) {k : AV -> Prop} (h : jM op kd a b k) :
  ∃ r, k (.p (.v r)) /\ r.oneCell' = true /\ ∀ (w : World), (binOp op t (.int kd a) (.int kb b)).run P w = .ok r w := by
 cases op <;> simp only [jM] at h <;> first | (cases h; done) | skip
 case shl => obtain ⟨hb, n', hn, hk⟩ := h; exact ⟨_, hk, rfl, fun w => by simp only [binOp, Op.shift]; rw [if_neg (by omega)]; show (pure _ : Sem Value).run P w = _; rw [hn]; rfl⟩
 case shr => obtain ⟨hb, _, rfl, hk⟩ := h; exact ⟨_, hk, rfl, fun w => by simp only [binOp, Op.shift]; rw [if_neg (by omega)]; rfl⟩
end
end Go.Abs
namespace Go.Abs
open Go.RowKit
section
variable {P : Program} {ti : TypeId -> Option TI} {H : AH} {m : Nat -> Value} {S : Nat -> Prop} {w : World}
theorem Rd.pv {x : Value} {v : Value} (h : Rd P H m S w (.p (.v x)) v) : v = x /\ x.oneCell' = true := by
 cases h with | p _ _ h => cases h with | v _ h => exact ⟨rfl, h⟩
theorem Rd.ff {v : Value} (h : Rd P H m S w (.p (.list true [])) v) : v = .slice none 0 0 := by
 cases h with | p _ _ h => cases h; rfl
theorem Rd.mk {x : Value} (h : x.oneCell' = true) : Rd P H m S w (.p (.v x)) x := .p _ _ (.v _ h)
theorem Rd.iI {nl : Bool} {xs : List PV} {v : Value} (h : Rd P H m S w (.p (.list nl xs)) v) : ∃ a c, v = .slice a xs.length c /\ (nl = true ↔ a = none) /\ xs.length <= c /\ c <= maxLen := by
 cases h with
 | p _ _ h => cases h with
  | nil => exact ⟨none, 0, rfl, by simp, Nat.le_refl _, by simp [maxLen]⟩
  | list xs a cap sz us hS hc hm => exact ⟨some a, cap, rfl, by simp, hc, hm⟩
theorem Rd.sZ {nl : Bool} {xs : List PV} {v : Value} (h : Rd P H m S w (.p (.list nl xs)) v) : nl = true -> xs = [] := by
 intro hn
 cases h with
 | p _ _ h => cases h with
  | nil => rfl
  | list => cases hn
theorem kL (hp : Hp P H m S w) {id : Nat} {e : TypeId} {nl : Bool} {xs : List PV} (h : live H id (.buf e nl xs)) : nl = true -> xs = [] := by
 obtain ⟨i, us, hi, hsz, ho, _, _, hn⟩ := hp.obj id _ h
 intro hn'
 have hv := hn.1 hn'
 rcases ho.2 with ⟨_, h0⟩ | ⟨g, cap, cur, hv', _⟩
 ·exact List.eq_nil_of_length_eq_zero h0
 ·rw [hv] at hv'; cases hv'
theorem ky (hp : Hp P H m S w) {id : Nat} {nl : Bool} {xs : List PV} (h : live H id (.frz nl xs)) : nl = true -> xs = [] :=
 Rd.sZ (P := P) (H := H) (m := m) (.p _ _ (hp.obj id _ h))
theorem cv (hp : Hp P H m S w) {id : Nat} {e : TypeId} {nl : Bool} {xs : List PV} (h : live H id (.buf e nl xs)) :
  ∃ a c, m id = .slice a xs.length c /\ (nl = true ↔ a = none) /\ xs.length <= c /\ c <= maxLen := by
 obtain ⟨i, us, hi, hsz, ho, _, _, hn⟩ := hp.obj id _ h
 rcases ho.2 with ⟨hv, h0⟩ | ⟨g, cap, cur, hv, _, _, hc, hm, _⟩
 ·exact ⟨none, 0, by rw [hv, h0], by rw [hn, hv]; simp, by omega, by simp [maxLen]⟩
 ·exact ⟨_, cap, hv, by rw [hn, hv]; simp, hc, hm⟩
theorem od (hp : Hp P H m S w) {id : Nat} {nl : Bool} {xs : List PV} (h : live H id (.frz nl xs)) :
  ∃ a c, m id = .slice a xs.length c /\ (nl = true ↔ a = none) /\ xs.length <= c /\ c <= maxLen :=
 Rd.iI (P := P) (H := H) (m := m) (.p _ _ (hp.obj id _ h))
theorem Rd.bX {id : Nat} {v : Value} {o : AO} (h : Rd P H m S w (.buf id) v) (hl : live H id o) : v = m id := by
 cases h with | buf id a l c hid h => exact (h o hl).symm
theorem mo (d : Nat) (t e : TypeId) (a : Option Addr) (l c : Nat) (ht : P.underlying t = some (.slice e)) (w : World) :
  (Op.equalIn (d + 1) t (.slice a l c) (.slice none 0 0)).run P w = .ok a.isNone w := by
 cases a <;> simp [Op.equalIn, run_underlying ht]
theorem nE (t e : TypeId) (a : Option Addr) (l c : Nat) (ht : P.underlying t = some (.slice e)) (w : World) :
  (binOp .eql t (.slice a l c) (.slice none 0 0)).run P w = .ok (.bool a.isNone) w /\ (binOp .neq t (.slice a l c) (.slice none 0 0)).run P w = .ok (.bool (!a.isNone)) w := by
 have h : (Op.equal t (.slice a l c) (.slice none 0 0)).run P w = .ok a.isNone w := mo 9999 t e a l c ht w
 refine ⟨?_, ?_⟩
 ·simp only [binOp]
  simp [h]
 ·simp only [binOp]
  simp [h]
theorem jZ (hT : aK P ti) {xs ys : List PV} {vs us : Array Value} {w : World} (hlx : vs.size = xs.length) (hx : ∀ k c, xs[k]? = some c -> RdP S w c (vs.getD k undef)) (hly : us.size = ys.length)
  (hy : ∀ k c, ys[k]? = some c -> RdP S w c (us.getD k undef)) : ∀ (l : List Field), (∀ f ∈ l, f.name ≠ "_") -> ∀ r, oI ti (l.map fun f => (f.type, f.offset)) xs ys = some r -> ∀ w' : World, (Op.eqFields 9999 vs us l).run P w' = .ok r w' := by
 intro l
 induction l with
 | nil => intro _ r hr w'; cases hr; rfl
 | cons f l ih =>
  intro hn r hr w'
  have at_ : ∀ {zs : List PV} {ws : Array Value}, ws.size = zs.length -> (∀ k c, zs[k]? = some c -> RdP S w c (ws.getD k undef)) -> ∀ {x : Value}, zs[f.offset]? = some (.v x) -> ws[f.offset]? = some x := by
   intro zs ws hl hz x h
   have h1 := hz _ _ h
   have h2 : f.offset < ws.size := by have := (List.getElem?_eq_some_iff.1 h).1; omega
   generalize hv : ws.getD f.offset undef = v at h1
   cases h1
   simp [h2] at hv ⊢
   exact hv
  unfold oI at hr
  simp only [List.map_cons] at hr
  split at hr
  ·rename_i i x y r' hi hxs hys hr'
   have hvx := at_ hlx hx hxs
   have hvy := at_ hly hy hys
   obtain ⟨inf, d, _, hd, _, _, _, hk, _⟩ := aE (hT.ok _ _ hi)
   have rest := ih (fun g hg => hn g (List.mem_cons_of_mem _ hg)) r' hr' w'
   have fin : ∀ e : Bool, (Op.equalIn 9999 f.type x y).run P w' = .ok e w' -> (∀ {ws : Array Value} {z : Value}, ws[f.offset]? = some z -> (part f.type ws f.offset).run P w' = .ok z w') -> (Op.eqFields 9999 vs us (f :: l)).run P w' = .ok (e && r') w' := by
    intro e he hp
    simp only [Op.eqFields, if_pos (hn f (List.mem_cons_self ..)), Sem.run_bind, hp hvx, hp hvy, Result.andThen_ok, he, Sem.run_ite]
    cases e <;> simp [rest]
   split at hr
   ·rename_i ka a kb b hki
    split at hr
    case h_2 => cases hr
    rename_i hkk
    obtain rfl := ny hkk
    injection hr with hr
    subst hr
    rw [hki] at hk
    cases d <;> simp [kindOf] at hk
    exact fin _ (run_equalIn_int w' 9998 f.type _ _ _ _ hd) fun hz => by simp [part, isAgg, run_underlying hd, hz]
   ·rename_i a b hki
    injection hr with hr
    subst hr
    rw [hki] at hk
    cases d <;> simp [kindOf] at hk
    exact fin _ (run_equalIn_bool' w' 9998 f.type _ _ hd) fun hz => by simp [part, isAgg, run_underlying hd, hz]
   ·rename_i a b hki
    injection hr with hr
    subst hr
    rw [hki] at hk
    cases d <;> simp [kindOf] at hk
    exact fin _ (run_equalIn_string w' 9998 f.type _ _ hd) fun hz => by simp [part, isAgg, run_underlying hd, hz]
   ·cases hr
  ·cases hr
theorem sr (hT : aK P ti) (hp : Hp P H m S w) {op : BinOp} {t : TypeId} {x y : AV} {vx vy : Value} {k : AV -> Prop} (h : su ti H op t x y k)
  (hx : Rd P H m S w x vx) (hy : Rd P H m S w y vy) :
  ∃ av v, k av /\ Rd P H m S w av v /\ ∀ (w' : World) (ox oy : Operand), (do eqGuard op t ox oy vx vy; binOp op t vx vy : Sem Value).run P w' = .ok v w' := by
 have nilcase : ∀ (nl : Bool) (a : Option Addr) (l c : Nat) (e : TypeId), P.underlying t = some (.slice e) -> (nl = true ↔ a = none) -> vx = .slice a l c -> vy = .slice none 0 0 ->
   (op = .eql -> k (.p (.v (.bool nl)))) -> (op = .neq -> k (.p (.v (.bool (!nl))))) -> (op = .eql \/ op = .neq) ->
   ∃ av v, k av /\ Rd P H m S w av v /\ ∀ (w' : World) (ox oy : Operand), (do eqGuard op t ox oy vx vy; binOp op t vx vy : Sem Value).run P w' = .ok v w' := by
  intro nl a l c e hu hn rfl rfl h1 h2 hop
  have hb : a.isNone = nl := by cases a <;> cases nl <;> simp_all
  rcases hop with rfl | rfl
  ·exact ⟨_, _, h1 rfl, Rd.mk rfl, fun w' ox oy => by simp [eqGuard, (nE t e a l c hu w').1, hb]⟩
  ·exact ⟨_, _, h2 rfl, Rd.mk rfl, fun w' ox oy => by simp [eqGuard, (nE t e a l c hu w').2, hb]⟩
 have slOf : ∀ {e : TypeId} {s b : Nat} {z : Value}, ti t = some ⟨.sl e, s, b, z⟩ -> P.underlying t = some (.slice e) := by
  intro e s b z hti
  obtain ⟨inf, d, _, hd, _, _, _, hk, _⟩ := aE (hT.ok _ _ hti)
  cases d <;> simp [kindOf] at hk
  subst hk
  exact hd
 unfold su at h
 split at h
 ·rename_i ka a kb b
  obtain ⟨rfl, _⟩ := hx.pv
  obtain ⟨rfl, _⟩ := hy.pv
  split at h
  ·obtain ⟨r, hk, ho, hr⟩ := wZ (P := P) op ka kb t a b h
   exact ⟨_, _, hk, Rd.mk ho, fun w' ox oy => by simp [eqGuard, hr w']⟩
  ·rename_i hs
   split at h
   ·rename_i hkk
    obtain rfl := ny hkk
    obtain ⟨r, hk, ho, hr⟩ := zm (P := P) op ka t a b hs h
    exact ⟨_, _, hk, Rd.mk ho, fun w' ox oy => by simp [eqGuard, hr w']⟩
   ·cases h
 ·rename_i a b
  obtain ⟨rfl, _⟩ := hx.pv
  obtain ⟨rfl, _⟩ := hy.pv
  split at h
  ·rename_i s bb z hti
   obtain ⟨inf, d, _, hd, _, _, _, hk, _⟩ := aE (hT.ok _ _ hti)
   cases d <;> simp [kindOf] at hk
   exact ⟨_, _, h, Rd.mk rfl, fun w' ox oy => by simp [eqGuard, run_eql_bool w' t a b hd]⟩
  ·rename_i s bb z hti
   obtain ⟨inf, d, _, hd, _, _, _, hk, _⟩ := aE (hT.ok _ _ hti)
   cases d <;> simp [kindOf] at hk
   exact ⟨_, _, h, Rd.mk rfl, fun w' ox oy => by simp [eqGuard, run_neq_bool w' t a b hd]⟩
  ·cases h
 ·rename_i a b
  obtain ⟨rfl, _⟩ := hx.pv
  obtain ⟨rfl, _⟩ := hy.pv
  split at h
  ·exact ⟨_, _, h, Rd.mk rfl, fun w' ox oy => by simp [eqGuard, binOp, Op.stringOp]⟩
  ·exact ⟨_, _, h, Rd.mk rfl, fun w' ox oy => by simp [eqGuard, binOp, Op.stringOp]⟩
  ·obtain ⟨hle, h⟩ := h
   exact ⟨_, _, h, Rd.mk rfl, fun w' ox oy => by
    have hn : ¬ (((a.size + b.size : Nat) : Int) > IntKind.i64.max) := by
     have : IntKind.i64.max = 9223372036854775807 := by decide
     omega
    simp [eqGuard, binOp, Op.stringOp]
    omega⟩
  ·exact ⟨_, _, h, Rd.mk rfl, fun w' ox oy => by simp [eqGuard, binOp, Op.stringOp]⟩
  ·exact ⟨_, _, h, Rd.mk rfl, fun w' ox oy => by simp [eqGuard, binOp, Op.stringOp]⟩
  ·exact ⟨_, _, h, Rd.mk rfl, fun w' ox oy => by simp [eqGuard, binOp, Op.stringOp]⟩
  ·exact ⟨_, _, h, Rd.mk rfl, fun w' ox oy => by simp [eqGuard, binOp, Op.stringOp]⟩
  ·cases h
 ·rename_i nl xs
  have hne := hx.sZ
  obtain ⟨a, c, hv, hn, _⟩ := hx.iI
  have hv' := hy.ff
  split at h
  ·rename_i hti; exact nilcase nl a _ c _ (slOf hti) hn hv hv' (fun _ => h.1 hne) (fun e => by cases e) (.inl rfl)
  ·rename_i hti; exact nilcase nl a _ c _ (slOf hti) hn hv hv' (fun e => by cases e) (fun _ => h.1 hne) (.inr rfl)
  ·cases h
 ·rename_i id
  have hv' := hy.ff
  split at h
  ·rename_i hti hH
   have hne := kL hp hH
   obtain ⟨a, c, hv, hn, _⟩ := cv hp hH
   exact nilcase _ a _ c _ (slOf hti) hn ((hx.bX hH).trans hv) hv' (fun _ => h.1 hne) (fun e => by cases e) (.inl rfl)
  ·rename_i hti hH
   have hne := kL hp hH
   obtain ⟨a, c, hv, hn, _⟩ := cv hp hH
   exact nilcase _ a _ c _ (slOf hti) hn ((hx.bX hH).trans hv) hv' (fun e => by cases e) (fun _ => h.1 hne) (.inr rfl)
  ·rename_i hti hH
   have hne := ky hp hH
   obtain ⟨a, c, hv, hn, _⟩ := od hp hH
   exact nilcase _ a _ c _ (slOf hti) hn ((hx.bX hH).trans hv) hv' (fun _ => h.1 hne) (fun e => by cases e) (.inl rfl)
  ·rename_i hti hH
   have hne := ky hp hH
   obtain ⟨a, c, hv, hn, _⟩ := od hp hH
   exact nilcase _ a _ c _ (slOf hti) hn ((hx.bX hH).trans hv) hv' (fun e => by cases e) (fun _ => h.1 hne) (.inr rfl)
  ·cases h
 ·rename_i xs ys
  split at h
  ·rename_i fs s b z hti
   have hi := hT.ok _ _ hti
   obtain ⟨inf, d, _, hd, _, _, _, hk, _⟩ := aE hi
   cases d <;> simp [kindOf] at hk
   rename_i F
   obtain ⟨hsi, heg, hnm⟩ := m6 hi hd
   have hF : P.fieldsOf t = F := by simp [Program.fieldsOf, hd]
   cases hx with | p _ _ hx => cases hx with | agg _ vs hlx _ hrx =>
   cases hy with | p _ _ hy => cases hy with | agg _ us hly _ hry =>
   have key : ∀ r, oI ti fs xs ys = some r -> ∀ w' : World, (Op.eqFields 9999 vs us (P.fieldsOf t).toList).run P w' = .ok r w' := by
    intro r hr w'
    rw [hF]
    rw [<- hk] at hr
    exact jZ hT hlx hrx hly hry _ (fun f hf => hnm f (by simpa using hf)) r hr w'
   split at h
   ·rename_i _ r hr
    refine ⟨_, _, h, Rd.mk rfl, fun w' ox oy => ?_⟩
    rw [Sem.run_bind, run_eqGuard_agg w' _ _ _ _ _ _ heg, Result.andThen_ok, run_eql_struct, run_equalIn_struct w' 9999 t vs us (by rw [hF]; exact hd) hsi, key r hr w']
    rfl
   ·rename_i _ r hr
    refine ⟨_, _, h, Rd.mk rfl, fun w' ox oy => ?_⟩
    rw [Sem.run_bind, run_eqGuard_agg w' _ _ _ _ _ _ heg, Result.andThen_ok, run_neq_struct, run_equalIn_struct w' 9999 t vs us (by rw [hF]; exact hd) hsi, key r hr w']
    rfl
   ·cases h
  ·cases h
 ·cases h
def iC (i : TI) (cs : List PV) (k : AV -> Prop) : Prop := match i.k.isAgg with
 | true => match Nat.ble i.size cs.length with
  | true => k (.p (.agg (cs.take i.size)))
  | false => False
 | false => match cs with
  | c :: _ => k (.p c)
  | [] => False
theorem fx {t : TypeId} {i : TI} (hi : cA P t = some i) {cs : List PV} {k : AV -> Prop} (h : iC i cs k) (a : Addr) (us : Nat -> Value)
  (hc : ∀ j c, cs[j]? = some c -> w.cell? (a.add j) = some (us j) /\ (us j).oneCell' = true) (hr : ∀ j c, cs[j]? = some c -> RdP S w c (us j)) :
  ∃ av v, k av /\ Rd P H m S w av v /\ ∀ w', (∀ j v, w.cell? (a.add j) = some v -> w'.cell? (a.add j) = some v) -> (Instr.loadAt t (.pointer (some a))).run P w' = .ok v w' := by
 obtain ⟨inf, d, hinf, hd, _, hs, _, hk, _⟩ := aE hi
 unfold iC at h
 split at h
 ·rename_i hag
  split at h
  ·rename_i hle
   have hle := Nat.le_of_ble_eq_true hle
   let vs := (List.range i.size).map us
   have hvl : vs.length = i.size := by simp [vs]
   refine ⟨_, .agg vs.toArray, h, .p _ _ (.agg _ _ (by simp [vs, Nat.min_eq_left hle]) (fun j c hj => ?_) fun j c hj => ?_), fun w' hw => ?_⟩
   ·rw [List.getElem?_take] at hj
    split at hj
    ·rename_i hlt; simp [vs, hlt]; exact (hc j c hj).2
    ·cases hj
   ·rw [List.getElem?_take] at hj
    split at hj
    ·rename_i hlt; simp [vs, hlt]; exact hr j c hj
    ·cases hj
   ·have hl : (loadCells a vs.length).run P w' = .ok vs.toArray w' := by
     refine run_loadCells_list w' a vs fun j v hj => ?_
     have hlt : j < i.size := by have := (List.getElem?_eq_some_iff.1 hj).1; omega
     have hjc : cs[j]? = some (cs[j]'(by omega)) := List.getElem?_eq_getElem (by omega)
     have hv : us j = v := by simpa [vs, hlt] using hj
     rw [<- hv]
     exact hw j _ (hc j _ hjc).1
    rw [hvl] at hl
    simp [Instr.loadAt, Instr.sureAddr, loadVar, cj hd, hk, hag, sizeOf, typeInfo, hinf, hs, hl]
  ·cases h
 ·rename_i hag
  cases cs with
  | nil => cases h
  | cons c r =>
   have h0 := hc 0 c rfl
   refine ⟨_, us 0, h, .p _ _ (hr 0 c rfl), fun w' hw => ?_⟩
   have hcell := hw 0 _ h0.1
   have ha : a.add 0 = a := by simp [Addr.add]
   rw [ha] at hcell
   simp [Instr.loadAt, Instr.sureAddr, loadVar, cj hd, hk, hag, run_load, hcell]
end
end Go.Abs
namespace Go.Abs
open Go.RowKit
def dV (i : TI) (cs : List AV) (off : Nat) (k : AV -> Prop) : Prop := match i.k.isAgg with
 | true => match Nat.ble (off + i.size) cs.length with
  | true => k (eK ((cs.drop off).take i.size))
  | false => False
 | false => match cs[off]? with
  | some c => k c
  | none => False
inductive Ef (xs : List PV) (off : Nat) (k : PV -> Prop) : Prop
 | mk (n : Nat) (y : PV) (hn : off = n) (hy : xs[n]? = some y) (hk : k y)
inductive sd (xs : List PV) (n : Nat) (X : Prop) : Prop
 | mk (h : xs.length = n) (hk : X)
def de (ti : TypeId -> Option TI) (H : AH) (t : TypeId) (x : AV) (k : AV -> Prop) : Prop := match ti t with
 | none => False
 | some i => match x with
  | .aN cs => iC i cs k
  | .ptr id off => match H[id]? with
   | some (some (.cells cs)) => dV i cs off k
   | some (some (.arr xs)) => match i.k.isAgg with
    | false => Ef xs off fun y => k (.p y)
    | true => match off with
     | 0 => sd xs i.size (k (.p (.agg xs)))
     | _ + 1 => False
   | _ => False
  | .bp id ix off => match H[id]? with
   | some (some (.buf _ _ xs)) => bO xs ix fun y => iC i (y.cells.drop off) k
   | _ => False
  | .bN id off => match H[id]? with
   | some (some (.bn _ _ l)) => dV i l off k
   | _ => False
  | _ => False
def dA (ti : TypeId -> Option TI) (s : TypeId) (x : AV) (f : Nat) (k : AV -> Prop) : Prop := match ti s with
 | some ⟨.st fs, _, _, _⟩ => match fs[f]? with
  | some (ft, off) => match ti ft with
   | some ⟨_, _ + 1, _, _⟩ => match x with
    | .ptr id o => k (.ptr id (o + off))
    | .bp id ix o => k (.bp id ix (o + off))
    | .bN id o => k (.bN id (o + off))
    | .aN cs => k (.aN (cs.drop off))
    | _ => False
   | _ => False
  | none => False
 | _ => False
def dz (ti : TypeId -> Option TI) (H : AH) (t : TypeId) (x y : AV) (k : AV -> Prop) : Prop := match y with
 | .p (.v (.int _ i)) => match ti t with
  | some ⟨.sl e, _, _, _⟩ => match x with
   | .p (.list _ xs) => match ti e with
    | some ie => bO xs i fun z => match Nat.beq z.cells.length ie.size with
     | true => k (.aN z.cells)
     | false => False
    | none => False
   | .buf id => match H[id]? with
    | some (some (.buf e' _ xs)) => match Nat.beq e e' with
     | true => InA xs i fun n => k (.bp id n 0)
     | false => False
    | some (some (.frz _ xs)) => match ti e with
     | some ie => bO xs i fun z => match Nat.beq z.cells.length ie.size with
      | true => k (.aN z.cells)
      | false => False
     | none => False
    | some (some (.bn e' xs _)) => match Nat.beq e e' with
     | true => i = (xs.length : Int) /\ k (.bN id 0)
     | false => False
    | _ => False
   | .sub id lo hi => match H[id]? with
    | some (some (.buf e' _ _)) => match Nat.beq e e' with
     | true => (0 <= i /\ i < ((hi - lo : Nat) : Int)) /\ k (.bp id (lo + i.toNat) 0)
     | false => False
    | some (some (.cells _)) => match ti e with
     | some ie => (0 <= i /\ i < ((hi - lo : Nat) : Int)) /\ k (.ptr id (i.toNat * ie.size))
     | none => False
    | _ => False
   | _ => False
  | some ⟨.ar n e, _, _, _⟩ => match ti e, x with
   | some ie, .ptr id o => (0 <= i /\ i < n) /\ k (.ptr id (o + i.toNat * ie.size))
   | some ie, .aN cs => (0 <= i /\ i < n) /\ k (.aN (cs.drop (i.toNat * ie.size)))
   | _, _ => False
  | _ => False
 | _ => False
def sq (ti : TypeId -> Option TI) (H : AH) (t : TypeId) (x : AV) (k : AV -> Prop) : Prop := match ti t with
 | some ⟨.sl _, _, _, _⟩ => match x with
  | .p (.list _ xs) => cq xs fun n => k (.p (.v (.int .i64 n)))
  | .buf id => match H[id]? with
   | some (some (.buf _ _ xs)) => cq xs fun n => k (.p (.v (.int .i64 n)))
   | some (some (.frz _ xs)) => cq xs fun n => k (.p (.v (.int .i64 n)))
   | _ => False
  | .sub id lo hi => match H[id]? with
   | some (some (.buf _ _ xs)) => cq xs fun _ => k (.p (.v (.int .i64 ((hi - lo : Nat) : Int))))
   | some (some (.cells _)) => k (.p (.v (.int .i64 ((hi - lo : Nat) : Int))))
   | _ => False
  | _ => False
 | some ⟨.ar n _, _, _, _⟩ => k (.p (.v (.int .i64 n)))
 | some ⟨.str, _, _, _⟩ => match x with
  | .p (.v (.string s)) => k (.p (.v (.int .i64 s.size)))
  | _ => False
 | _ => False
def kW (ti : TypeId -> Option TI) (t : TypeId) (cs : List AV) (off : Nat) (k : AV -> Prop) : Prop := match ti t with
 | some i => dV i cs off k
 | none => False
def jS (ti : TypeId -> Option TI) (s : TypeId) (x : AV) (f : Nat) (k : AV -> Prop) : Prop := match ti s with
 | some ⟨.st fs, _, _, _⟩ => match fs[f]? with
  | some (ft, off) => match x with
   | .agg cs => kW ti ft cs off k
   | .p (.agg cs) => kW ti ft (cs.map .p) off k
   | _ => False
  | none => False
 | _ => False
def Au (ie : TI) (cs : List PV) (i : Int) (k : AV -> Prop) : Prop := match ie.k.isAgg, Nat.beq ie.size 1 with
 | false, true => bO cs i fun y => k (.p y)
 | true, _ => CZ cs ie.size i fun zs => k (.p (.agg zs))
 | _, _ => dV ie (cs.map .p) (i.toNat * ie.size) k
def jQ (ti : TypeId -> Option TI) (t : TypeId) (x y : AV) (k : AV -> Prop) : Prop := match y with
 | .p (.v (.int _ i)) => match ti t with
  | some ⟨.ar n e, _, _, _⟩ => match ti e with
   | some ie => match x with
    | .agg cs => (0 <= i /\ i < n) /\ dV ie cs (i.toNat * ie.size) k
    | .p (.agg cs) => (0 <= i /\ i < n) /\ Au ie cs i k
    | _ => False
   | none => False
  | some ⟨.str, _, _, _⟩ => match x with
   | .p (.v (.string s)) => ∃ b, 0 <= i /\ s[i.toNat]? = some b /\ k (.p (.v (.int .u8 b.toNat)))
   | _ => False
  | _ => False
 | _ => False
def asI : AV -> Option Int
 | .p (.v (.int _ n)) => some n
 | _ => none
def lM (ti : TypeId -> Option TI) (H : AH) (t : TypeId) (x : AV) (l : Int) (ho : Option Int) (k : AV -> Prop) : Prop := match ti t with
 | some ⟨.sl e, _, _, _⟩ => match ti e with
  | some ie => match x with
   | .p (.list nl xs) => SzA xs ie.size (aX xs l ho fun ys => k (.p (.list nl ys)))
   | .buf id => match H[id]? with
    | some (some (.buf e' _ xs)) => match Nat.beq e e' with
     | true => (0 <= l /\ l <= ho.getD xs.length /\ ho.getD xs.length <= xs.length) /\ k (.sub id l.toNat (ho.getD xs.length).toNat)
     | false => False
    | some (some (.frz nl xs)) => SzA xs ie.size (aX xs l ho fun ys => k (.p (.list nl ys)))
    | _ => False
   | .sub id lo hi => match H[id]? with
    | some (some (.buf e' _ xs)) => match Nat.beq e e' with
     | true => (0 <= l /\ l <= ho.getD ((hi - lo : Nat) : Int) /\ ho.getD ((hi - lo : Nat) : Int) <= ((hi - lo : Nat) : Int)) /\ k (.sub id (lo + l.toNat) (lo + (ho.getD ((hi - lo : Nat) : Int)).toNat))
     | false => False
    | _ => False
   | _ => False
  | none => False
 | some ⟨.str, _, _, _⟩ => match x with
  | .p (.v (.string s)) => (0 <= l /\ l <= ho.getD s.size /\ ho.getD s.size <= s.size) /\ k (.p (.v (.string (s.extract l.toNat (ho.getD s.size).toNat))))
  | _ => False
 | _ => False
def dn (ti : TypeId -> Option TI) (H : AH) (t : TypeId) (x : AV) (lo hi mx : Option AV) (k : AV -> Prop) : Prop := match lo, hi, mx with
 | none, none, none => lM ti H t x 0 none k
 | some l, none, none => match asI l with
  | some l => lM ti H t x l none k
  | none => False
 | none, some h, none => match asI h with
  | some h => lM ti H t x 0 (some h) k
  | none => False
 | some l, some h, none => match asI l, asI h with
  | some l, some h => lM ti H t x l (some h) k
  | _, _ => False
 | _, _, _ => False
def jn (ti : TypeId -> Option TI) (src dst : TypeId) (x : AV) (k : AV -> Prop) : Prop := match ti src, ti dst, x with
 | some ⟨.int _, _, _, _⟩, some ⟨.int kd, _, _, _⟩, .p (.v (.int _ n)) => NW kd n fun n' => k (.p (.v (.int kd n')))
 | some ⟨.str, _, _, _⟩, some ⟨.str, _, _, _⟩, .p (.v (.string s)) => k (.p (.v (.string s)))
 | _, _, _ => False
def yZ (op : UnOp) (x : AV) (k : AV -> Prop) : Prop := match op, x with
 | .not, .p (.v (.bool b)) => k (.p (.v (.bool (!b))))
 | .neg, .p (.v (.int kd n)) => NW kd (0 - n) fun n' => k (.p (.v (.int kd n')))
 | _, _ => False
def setAt (cs : List AV) (off : Nat) : List AV -> List AV
 | [] => cs
 | c :: r => setAt (cs.set off c) (off + 1) r
def dJ (place : Nat -> Option (Nat × Nat)) (cells : List AV) : List (Nat × AV) -> Option (List AV)
 | [] => some cells
 | (i, x) :: rest => match place i with
  | none => none
  | some (off, size) => match Nat.beq x.cells.length size && Nat.ble (off + size) cells.length && x.cells.all AV.one with
   | true => dJ place (setAt cells off x.cells) rest
   | false => none
def placesOf (ti : TypeId -> Option TI) : List (TypeId × Nat) -> Option (List (Nat × Nat))
 | [] => some []
 | (t, off) :: r => match ti t, placesOf ti r with
  | some i, some l => some ((off, i.size) :: l)
  | _, _ => none
def zeroCells (i : TI) : List AV := i.zero.cells.toList.map fun c => .p (cX c)
def jU (ti : TypeId -> Option TI) (t : TypeId) (parts : List (Nat × AV)) (k : AV -> Prop) : Prop := match ti t with
 | some i => match i.k with
  | .st fs => match placesOf ti fs with
   | some ps => match dJ (ps[·]?) (zeroCells i) parts with
    | some cs => k (eK cs)
    | none => False
   | none => False
  | .ar _ e => match ti e with
   | some ie => match dJ (fun j => some (j * ie.size, ie.size)) (zeroCells i) parts with
    | some cs => k (eK cs)
    | none => False
   | none => False
  | _ => False
 | none => False
def ct (mx : Bool) : AV -> List AV -> (AV -> Prop) -> Prop
 | x, [], k => k x
 | .p (.v (.int kd a)), .p (.v (.int kd' b)) :: r, k => match gQ kd kd' with
  | true => match mx with
   | true => ct mx (.p (.v (.int kd (if b > a then b else a)))) r k
   | false => ct mx (.p (.v (.int kd (if b < a then b else a)))) r k
  | false => False
 | _, _, _ => False
end Go.Abs
namespace Go.Abs
open Go.RowKit
section
variable {P : Program} {ti : TypeId -> Option TI} {H : AH} {m : Nat -> Value} {S : Nat -> Prop} {w : World}
theorem ep : ∀ {cs : List AV} {ps : List PV}, lG cs = some ps -> cs = ps.map .p
 | [], ps, h => by simp [lG] at h; subst h; rfl
 | x :: r, ps, h => by
  cases x <;> simp only [lG] at h <;> try (cases h; done)
  split at h
  ·rename_i l hl
   injection h with h
   subst h
   rw [ep hl]
   rfl
  ·cases h
theorem Rd.eK {cs : List AV} {vs : Array Value} (hl : vs.size = cs.length) (hr : ∀ k c, cs[k]? = some c -> Rd P H m S w c (vs.getD k undef) /\ (vs.getD k undef).oneCell' = true) : Rd P H m S w (eK cs) (.agg vs) := by
 unfold Abs.eK
 split
 ·rename_i ps hps
  have he := ep hps
  subst he
  refine .p _ _ (.agg ps vs (by simpa using hl) (fun k c hk => ?_) fun k c hk => ?_)
  ·exact (hr k (.p c) (by simp [hk])).2
  ·have h1 := (hr k (.p c) (by simp [hk])).1
   cases h1 with | p _ _ h => exact h
 ·exact .agg cs vs hl (fun k c hk => (hr k c hk).2) fun k c hk => (hr k c hk).1
theorem e7 {i : TI} {cs : List AV} {off : Nat} {k : AV -> Prop} (h : dV i cs off k) {vs : Array Value} (hl : cs.length <= vs.size)
  (hr : ∀ k c, cs[k]? = some c -> Rd P H m S w c (vs.getD k undef) /\ (vs.getD k undef).oneCell' = true) :
  ∃ av v, k av /\ Rd P H m S w av v /\ ((i.k.isAgg = true /\ off + i.size <= vs.size /\ v = .agg (vs.extract off (off + i.size))) \/ (i.k.isAgg = false /\ vs[off]? = some v)) := by
 unfold dV at h
 split at h
 ·rename_i hag
  split at h
  ·rename_i hle
   have hle := Nat.le_of_ble_eq_true hle
   refine ⟨_, _, h, Rd.eK (vs := vs.extract off (off + i.size)) (by simp; omega) fun k c hk => ?_, .inl ⟨hag, by omega, rfl⟩⟩
   rw [List.getElem?_take] at hk
   split at hk
   ·rename_i hlt
    rw [List.getElem?_drop] at hk
    have h1 := hr _ c hk
    have he : (vs.extract off (off + i.size)).getD k undef = vs.getD (off + k) undef := by
     simp only [Array.getD_eq_getD_getElem?]
     rw [Array.getElem?_extract, if_pos (by omega)]
    rw [he]
    exact h1
   ·cases hk
  ·cases h
 ·rename_i hag
  split at h
  ·rename_i x hx
   have hlt : off < vs.size := Nat.lt_of_lt_of_le (List.getElem?_eq_some_iff.1 hx).1 hl
   refine ⟨x, vs.getD off undef, h, (hr off x hx).1, .inr ⟨hag, ?_⟩⟩
   simp [Array.getD, hlt]
  ·cases h
theorem lU {t : TypeId} {i : TI} (hi : cA P t = some i) {vs : Array Value} {off : Nat} {v : Value}
  (h : (i.k.isAgg = true /\ off + i.size <= vs.size /\ v = .agg (vs.extract off (off + i.size))) \/ (i.k.isAgg = false /\ vs[off]? = some v)) (w' : World) : (part t vs off).run P w' = .ok v w' := by
 obtain ⟨inf, d, hinf, hd, _, hs, _, hk, _⟩ := aE hi
 rcases h with ⟨hag, _, rfl⟩ | ⟨hag, hv⟩
 ·simp [part, cj hd, hk, hag, sizeOf, typeInfo, hinf, hs]
 ·simp [part, cj hd, hk, hag, hv]
theorem fo {b o : Nat} {vs : Array Value} {T : TypeId} {fr : Nat × Nat} (hh : w.heap[b]? = some (.cells vs T fr)) : w.cell? ⟨b, o, none⟩ = vs[o]? := cell_of_row w b o vs T fr hh
theorem e_ {t : TypeId} {i : TI} (hi : cA P t = some i) {b off : Nat} {vs : Array Value} {T : TypeId} {fr : Nat × Nat} (hh : w.heap[b]? = some (.cells vs T fr)) {v : Value}
  (h : (i.k.isAgg = true /\ off + i.size <= vs.size /\ v = .agg (vs.extract off (off + i.size))) \/ (i.k.isAgg = false /\ vs[off]? = some v)) :
  (Instr.loadAt t (.pointer (some ⟨b, off, none⟩))).run P w = .ok v w := by
 obtain ⟨inf, d, hinf, hd, _, hs, _, hk, _⟩ := aE hi
 rcases h with ⟨hag, hle, rfl⟩ | ⟨hag, hv⟩
 ·have hl : (loadCells ⟨b, off, none⟩ ((vs.extract off (off + i.size)).toList).length).run P w = .ok ((vs.extract off (off + i.size)).toList).toArray w := by
   refine run_loadCells_list w _ _ fun j v hj => ?_
   rw [add_lit, fo hh]
   have hlt : j < i.size := by have := (List.getElem?_eq_some_iff.1 hj).1; simp at this; omega
   simp [hlt] at hj
   rw [<- hj]
  have hlen : ((vs.extract off (off + i.size)).toList).length = i.size := by simp; omega
  rw [hlen, Array.toArray_toList] at hl
  simp [Instr.loadAt, Instr.sureAddr, loadVar, cj hd, hk, hag, sizeOf, typeInfo, hinf, hs, hl]
 ·simp [Instr.loadAt, Instr.sureAddr, loadVar, cj hd, hk, hag, run_load, fo hh, hv]
theorem lD (hp : Hp P H m S w) {id : Nat} {e : TypeId} {xs : List PV} {l : List AV} (h : live H id (.bn e xs l)) :
  ∃ (i : TypeInfo) (g cap : Nat) (cur : Array Value), P.info? e = some i /\ 0 < i.size /\ m id = .slice (some ⟨g, 0, none⟩) (xs.length + 1) cap /\ w.heap[g]? = some (.cells cur e (0, 0)) /\ xs.length + 1 <= cap /\ cap <= maxLen /\ cur.size = cap * i.size /\ l.length = i.size /\ (∀ x ∈ xs, x.cells.length = i.size) /\
   (∀ (k : Nat) (c : PV), (flat xs)[k]? = some c -> ∃ u : Value, cur.toList[k]? = some u /\ RdP S w c u /\ u.oneCell' = true) /\
   ∀ (k : Nat) (c : AV), l[k]? = some c -> ∃ u : Value, cur.toList[xs.length * i.size + k]? = some u /\ Rd P H m S w c u /\ u.oneCell' = true := by
 obtain ⟨i, us, h1, h2, ho, hz, hll, hr, hrl⟩ := hp.obj id _ h
 obtain ⟨hlen, ho⟩ := ho
 rcases ho with ⟨_, hx⟩ | ⟨g, cap, cur, hm, _, hh, hc1, hc2, hcs, htk⟩
 ·omega
 have tk : ∀ {k : Nat} {u : Value}, us[k]? = some u -> cur.toList[k]? = some u := by
  intro k u hu
  rw [<- htk, List.getElem?_take] at hu
  split at hu
  ·exact hu
  ·cases hu
 exact ⟨i, g, cap, cur, h1, h2, hm, hh, hc1, hc2, hcs, hll, hz, fun k c hk => (hr k c hk).imp fun u hu => ⟨tk hu.1, hu.2⟩, fun k c hk => (hrl k c hk).imp fun u hu => ⟨tk hu.1, hu.2⟩⟩
theorem wQ {i : TI} {l : List AV} {off : Nat} {k : AV -> Prop} (pre : List AV) (h : dV i l off k) : dV i (pre ++ l) (pre.length + off) k := by
 unfold dV at h ⊢
 split at h
 ·split at h
  ·rename_i hle
   have := Nat.le_of_ble_eq_true hle
   rw [show Nat.ble (pre.length + off + i.size) (pre ++ l).length = true from Nat.ble_eq_true_of_le (by rw [List.length_append]; omega)]
   have hd : (pre ++ l).drop (pre.length + off) = l.drop off := by rw [<- List.drop_drop, List.drop_left]
   rw [hd]
   exact h
  ·cases h
 ·rw [List.getElem?_append_right (by omega), Nat.add_sub_cancel_left]
  exact h
theorem yD (hp : Hp P H m S w) {id : Nat} {e : TypeId} {nl : Bool} {xs : List PV} (h : live H id (.buf e nl xs)) {ix : Nat} {y : PV} (hy : xs[ix]? = some y) :
  ∃ (i : TypeInfo) (g c : Nat) (us : Nat -> Value), P.info? e = some i /\ m id = .slice (some ⟨g, 0, none⟩) xs.length c /\ g < w.heap.size /\
   y.cells.length = i.size /\ ∀ j c, y.cells[j]? = some c -> w.cell? ⟨g, ix * i.size + j, none⟩ = some (us j) /\ (us j).oneCell' = true /\ RdP S w c (us j) := by
 obtain ⟨i, us, hi, hsz, ho, hz, hr, hn⟩ := hp.obj id _ h
 have hlt : ix < xs.length := (List.getElem?_eq_some_iff.1 hy).1
 have hmem : y ∈ xs := by rw [<- (List.getElem?_eq_some_iff.1 hy).2]; exact List.getElem_mem ..
 rcases ho.2 with ⟨hv, h0⟩ | ⟨g, cap, cur, hv, _, hh, hc, hm, hcs, htk⟩
 ·omega
 ·refine ⟨i, g, cap, fun j => (us[ix * i.size + j]?).getD undef, hi, hv, (Array.getElem?_eq_some_iff.1 hh).1, hz y hmem, fun j c hj => ?_⟩
  obtain ⟨u, hu, hru, h1⟩ := hr _ c (gh hz _ _ hy _ _ hj)
  refine ⟨?_, by simp [hu, h1], by simpa [hu] using hru⟩
  have := ho.cells (g := g) (by rw [hv]; rfl) _ u hu
  rw [add_lit] at this
  simpa [hu] using this
theorem fq (hT : aK P ti) {t : TypeId} {cs : List PV} {vx : Value} {k : AV -> Prop} (h : de ti H t (.aN cs) k) (hx : Rd P H m S w (.aN cs) vx) :
  ∃ av v, k av /\ Rd P H m S w av v /\ ∀ w', b8 S w w' -> (Instr.loadAt t vx).run P w' = .ok v w' := by
 unfold de at h
 split at h
 ·cases h
 ·rename_i i hti
  have hi := hT.ok _ _ hti
  cases hx with
  | aN _ a us hS hu hr =>
   obtain ⟨av, v, h1, h2, h3⟩ := fx hi h a us hu hr
   exact ⟨av, v, h1, h2, fun w' hw => h3 w' fun j u hj => by rw [hw.cell (by rw [cm]; exact hS)]; exact hj⟩
theorem jO (hT : aK P ti) (hp : Hp P H m S w) {t : TypeId} {x : AV} {vx : Value} {k : AV -> Prop} (h : de ti H t x k) (hx : Rd P H m S w x vx) :
  ∃ av v, k av /\ Rd P H m S w av v /\ ∀ w', Ag w w' -> (Instr.loadAt t vx).run P w' = .ok v w' := by
 unfold de at h
 split at h
 ·cases h
 ·rename_i i hti
  have hi := hT.ok _ _ hti
  split at h
  ·rename_i cs
   cases hx with
   | aN _ a us hS hu hr =>
    obtain ⟨av, v, h1, h2, h3⟩ := fx hi h a us hu hr
    exact ⟨av, v, h1, h2, fun w' hw => h3 w' fun j u hj => hw.cell hj⟩
  ·rename_i id off
   split at h
   ·rename_i cs hH
    cases hx with
    | ptr _ _ a hid hpt =>
     obtain ⟨b, hm1, rfl⟩ := hpt _ hH
     obtain ⟨b', T, vs, hm2, hh, hl, hr⟩ := hp.obj id _ hH
     rw [hm1] at hm2
     obtain rfl : b = b' := by injection hm2 with h2; injection h2 with h2; injection h2
     obtain ⟨av, v, hk, hrd, hv⟩ := e7 h hl hr
     refine ⟨av, v, hk, hrd, fun w' hw => ?_⟩
     exact e_ hi ((hw b (Array.getElem?_eq_some_iff.1 hh).1).trans hh) hv
   ·rename_i xs hH
    cases hx with
    | ptr _ _ a hid hpt =>
     obtain ⟨b, hm1, rfl⟩ := hpt _ hH
     obtain ⟨b', T, vs, hm2, hh, hl, hr⟩ := hp.obj id _ hH
     rw [hm1] at hm2
     obtain rfl : b = b' := by injection hm2 with h2; injection h2 with h2; injection h2
     split at h
     ·rename_i hag
      obtain ⟨n, y, rfl, hy, hk⟩ := h
      obtain ⟨h1, h2⟩ := hr _ y hy
      have hlt : off < vs.size := Nat.lt_of_lt_of_le (List.getElem?_eq_some_iff.1 hy).1 hl
      exact ⟨_, _, hk, .p _ _ h1, fun w' hw => e_ hi ((hw b (Array.getElem?_eq_some_iff.1 hh).1).trans hh) (.inr ⟨hag, by simp [Array.getD, hlt]⟩)⟩
     ·rename_i hag
      split at h
      ·obtain ⟨hw0, hk⟩ := h
       have hx2 : ∀ k c, xs[k]? = some c -> (vs.extract 0 (0 + i.size)).getD k undef = vs.getD k undef := fun k c hc => by
        have h5 := (List.getElem?_eq_some_iff.1 hc).1
        simp only [Array.getD_eq_getD_getElem?]
        rw [Array.getElem?_extract, if_pos (by omega), Nat.zero_add]
       refine ⟨_, _, hk, .p _ _ (.agg xs (vs.extract 0 (0 + i.size)) (by rw [Array.size_extract]; omega) (fun k c hc => ?_) fun k c hc => ?_), fun w' hw => e_ hi ((hw b (Array.getElem?_eq_some_iff.1 hh).1).trans hh) (.inl ⟨hag, by omega, rfl⟩)⟩
       ·rw [hx2 k c hc]; exact (hr k c hc).2
       ·rw [hx2 k c hc]; exact (hr k c hc).1
      ·cases h
   ·cases h
  ·rename_i id ix off
   split at h
   ·rename_i e nl xs hH
    cases hx with
    | bp _ _ _ a hid hb =>
     obtain ⟨y, h0, hy, hk⟩ := h
     simp only [Int.toNat_natCast] at hy
     obtain ⟨i1, g, c, us, hi1, hm1, hg, hyl, hcell⟩ := yD hp hH hy
     obtain ⟨i2, g2, l2, c2, hi2, hm2, rfl⟩ := hb e nl xs hH
     rw [hi1] at hi2
     injection hi2 with hi2
     subst hi2
     rw [hm1] at hm2
     obtain rfl : g = g2 := by injection hm2 with h2; injection h2 with h2; injection h2
     refine (fun h => Exists.elim h fun av h => Exists.elim h fun v h => ⟨av, v, h.1, h.2.1, fun w' hw => h.2.2 w' fun j u hj => hw.cell hj⟩) (fx hi hk _ (fun j => us (off + j)) (fun j c hj => ?_) fun j c hj => ?_)
     ·rw [List.getElem?_drop] at hj
      obtain ⟨h1, h2, _⟩ := hcell _ c hj
      rw [add_lit, Nat.add_assoc]
      exact ⟨h1, h2⟩
     ·rw [List.getElem?_drop] at hj
      exact (hcell _ c hj).2.2
   ·cases h
  ·rename_i id off
   split at h
   ·rename_i e xs l hH
    cases hx with
    | bN _ _ a hid hpt =>
     obtain ⟨i1, g, cap, cur, hi1, _, hm1, hg, hc1, _, hcs, hll, hz, hr1, hr2⟩ := lD hp hH
     obtain ⟨i2, g2, l0, c0, hi2, hm2, rfl⟩ := hpt _ _ _ hH
     rw [hi1] at hi2
     injection hi2 with hi2
     subst hi2
     rw [hm1] at hm2
     obtain rfl : g = g2 := by injection hm2 with h2; injection h2 with h2; injection h2
     have hmul : (xs.length + 1) * i1.size <= cap * i1.size := Nat.mul_le_mul_right _ hc1
     rw [Nat.succ_mul] at hmul
     have hfl := aJ hz
     have h' := wQ ((flat xs).map AV.p) h
     rw [List.length_map, hfl] at h'
     obtain ⟨av, v, hk, hrd, hv⟩ := e7 (P := P) (H := H) (m := m) (S := S) (w := w) h' (vs := cur) (by rw [List.length_append, List.length_map, hfl, hll, hcs]; exact hmul) fun k c hk => by
      by_cases hkl : k < ((flat xs).map AV.p).length
      ·rw [List.getElem?_append_left hkl, List.getElem?_map, Option.map_eq_some_iff] at hk
       obtain ⟨y, hy, rfl⟩ := hk
       obtain ⟨u, hu, h3, h4⟩ := hr1 k y hy
       have : cur.getD k undef = u := by rw [Array.getElem?_toList] at hu; simp [Array.getD_eq_getD_getElem?, hu]
       rw [this]
       exact ⟨.p _ _ h3, h4⟩
      ·rw [List.getElem?_append_right (by omega)] at hk
       obtain ⟨u, hu, h3, h4⟩ := hr2 _ c hk
       rw [List.length_map, hfl] at hu hkl
       rw [show xs.length * i1.size + (k - xs.length * i1.size) = k by omega] at hu
       have : cur.getD k undef = u := by rw [Array.getElem?_toList] at hu; simp [Array.getD_eq_getD_getElem?, hu]
       rw [this]
       exact ⟨h3, h4⟩
     exact ⟨av, v, hk, hrd, fun w' hw => e_ hi ((hw g (Array.getElem?_eq_some_iff.1 hg).1).trans hg) hv⟩
   ·cases h
  ·cases h
end
end Go.Abs
namespace Go.Abs
open Go.RowKit
section
variable {P : Program} {ti : TypeId -> Option TI} {H : AH} {m : Nat -> Value} {S : Nat -> Prop} {w : World}
theorem k8 {t : TypeId} {i : TI} {fs : List (TypeId × Nat)} (hi : cA P t = some i) (hk : i.k = .st fs) : ∃ F : Array Field, P.underlying t = some (.struct F) /\ fs = F.toList.map fun f => (f.type, f.offset) := by
 obtain ⟨inf, d, hinf, hd, _, _, _, hkk, _⟩ := aE hi
 rw [hk] at hkk
 cases d <;> simp [kindOf] at hkk
 rename_i F
 exact ⟨F, hd, hkk.symm⟩
theorem bF {t : TypeId} {i : TI} {e : TypeId} (hi : cA P t = some i) (hk : i.k = .sl e) : P.underlying t = some (.slice e) := by
 obtain ⟨inf, d, hinf, hd, _, _, _, hkk, _⟩ := aE hi
 rw [hk] at hkk
 cases d <;> simp [kindOf] at hkk
 subst hkk
 exact hd
theorem kO {t : TypeId} {i : TI} {n : Nat} {e : TypeId} (hi : cA P t = some i) (hk : i.k = .ar n e) : P.underlying t = some (.array n e) := by
 obtain ⟨inf, d, hinf, hd, _, _, _, hkk, _⟩ := aE hi
 rw [hk] at hkk
 cases d <;> simp [kindOf] at hkk
 obtain ⟨rfl, rfl⟩ := hkk
 exact hd
theorem gO {t : TypeId} {i : TI} (hi : cA P t = some i) (hk : i.k = .str) : P.underlying t = some .string := by
 obtain ⟨inf, d, hinf, hd, _, _, _, hkk, _⟩ := aE hi
 rw [hk] at hkk
 cases d <;> simp [kindOf] at hkk
 exact hd
theorem n9 {t : TypeId} {i : TI} {kd : IntKind} (hi : cA P t = some i) (hk : i.k = .int kd) : P.underlying t = some (.int kd) := by
 obtain ⟨inf, d, hinf, hd, _, _, _, hkk, _⟩ := aE hi
 rw [hk] at hkk
 cases d <;> simp [kindOf] at hkk
 subst hkk
 exact hd
theorem cV {t : TypeId} {i : TI} (hi : cA P t = some i) : ∃ inf, P.info? t = some inf /\ inf.size = i.size := by
 obtain ⟨inf, d, hinf, hd, _, hs, _⟩ := aE hi
 exact ⟨inf, hinf, hs⟩
theorem sN {s ft : TypeId} {i j : TI} {fs : List (TypeId × Nat)} {f off : Nat} (hi : cA P s = some i) (hk : i.k = .st fs) (hf : fs[f]? = some (ft, off)) (hj : cA P ft = some j) (h0 : j.size ≠ 0) (a : Addr) (w : World) :
  (Instr.fieldAt s (.pointer (some a)) f).run P w = .ok (.pointer (some (a.add off))) w := by
 obtain ⟨F, hu, rfl⟩ := k8 hi hk
 obtain ⟨inf, hinf, hs⟩ := cV hj
 simp only [List.getElem?_map, Option.map_eq_some_iff] at hf
 obtain ⟨fd, hfd, he⟩ := hf
 injection he with h1 h2
 subst h1; subst h2
 have hfd' : F[f]? = some fd := by simpa using hfd
 have hs' : ¬ inf.size = 0 := by omega
 simp [Instr.fieldAt, run_underlying hu, hfd', Instr.sureAddr, fieldPlace, sizeOf, typeInfo, hinf, hs']
theorem jR (hT : aK P ti) (_hp : Hp P H m S w) {s : TypeId} {x : AV} {f : Nat} {vx : Value} {k : AV -> Prop} (h : dA ti s x f k) (hx : Rd P H m S w x vx) :
  ∃ av v, k av /\ Rd P H m S w av v /\ ∀ w', True -> (Instr.fieldAt s vx f).run P w' = .ok v w' := by
 unfold dA at h
 split at h
 ·rename_i fs sz by_ z hti
  have hi := hT.ok _ _ hti
  split at h
  ·rename_i ft off hf
   split at h
   ·rename_i k1 n b1 z1 htj
    have hj := hT.ok _ _ htj
    have run := fun (a : Addr) (w : World) => sN (P := P) hi rfl hf hj (by simp) a w
    split at h
    ·rename_i id o
     cases hx with
     | ptr _ _ a hid hb =>
      refine ⟨_, _, h, .ptr _ _ _ hid fun o' hl => ?_, fun w' _ => run a w'⟩
      obtain ⟨b, hm, rfl⟩ := hb o' hl
      exact ⟨b, hm, by rw [add_lit]⟩
    ·rename_i id ix o
     cases hx with
     | bp _ _ _ a hid hb =>
      refine ⟨_, _, h, .bp _ _ _ _ hid fun e nl xs hl => ?_, fun w' _ => run a w'⟩
      obtain ⟨i, g, l, c, h1, h2, rfl⟩ := hb e nl xs hl
      exact ⟨i, g, l, c, h1, h2, by rw [add_lit, Nat.add_assoc]⟩
    ·rename_i id o
     cases hx with
     | bN _ _ a hid hb =>
      refine ⟨_, _, h, .bN _ _ _ hid fun e xs l hl => ?_, fun w' _ => run a w'⟩
      obtain ⟨i, g, l0, c, h1, h2, rfl⟩ := hb e xs l hl
      exact ⟨i, g, l0, c, h1, h2, by rw [add_lit, Nat.add_assoc]⟩
    ·rename_i cs
     cases hx with
     | aN _ a us hS hu hr =>
      refine ⟨_, _, h, .aN _ (a.add off) (fun j => us (off + j)) (by rw [cm]; exact hS) (fun j c hj => ?_) (fun j c hj => ?_), fun w' _ => run a w'⟩
      ·rw [List.getElem?_drop] at hj
       rw [add_add]
       exact hu _ c hj
      ·rw [List.getElem?_drop] at hj
       exact hr _ c hj
    ·cases h
   ·cases h
  ·cases h
 ·cases h
theorem j4 {t e : TypeId} {ie : TI} (hu : P.underlying t = some (.slice e)) (he : cA P e = some ie) {nl : Bool} {xs : List PV} {v : Value} (hr : RdP S w (.list nl xs) v) {kd : IntKind} {i : Int} {z : PV} (h0 : 0 <= i) (hz : xs[i.toNat]? = some z)
  (hzl : z.cells.length = ie.size) : ∃ v', Rd P H m S w (.aN z.cells) v' /\ ∀ w', (Instr.indexAt t v (.int kd i)).run P w' = .ok v' w' := by
 obtain ⟨inf, hinf, hs⟩ := cV he
 cases hr with
 | nil => simp at hz
 | list _ a cap sz us hS hc hm hsz hu' hr' =>
  have hlt : i.toNat < xs.length := (List.getElem?_eq_some_iff.1 hz).1
  have hmem : z ∈ xs := by rw [<- (List.getElem?_eq_some_iff.1 hz).2]; exact List.getElem_mem ..
  have hsz' : sz = ie.size := by rw [<- hsz z hmem]; exact hzl
  subst hsz'
  refine ⟨_, .aN _ (a.add (i.toNat * ie.size)) (fun j => us (i.toNat * ie.size + j)) (by rw [cm]; exact hS (by rintro rfl; simp at hlt)) (fun j c hj => ?_) (fun j c hj => ?_), fun w' => ?_⟩
  ·rw [add_add]
   exact hu' _ c (gh hsz _ _ hz _ _ hj)
  ·exact hr' _ c (gh hsz _ _ hz _ _ hj)
  ·have hi : i < (xs.length : Int) := by omega
   simp [Instr.indexAt, asIntOf, run_underlying hu, h0, hi, sizeOf, typeInfo, hinf, hs]
theorem run_indexAt_slice {t e : TypeId} {inf : TypeInfo} (hu : P.underlying t = some (.slice e)) (hinf : P.info? e = some inf) (a : Addr) (l c : Nat) (kd : IntKind) (i : Int) (h0 : 0 <= i) (h1 : i < l) (w' : World) :
  (Instr.indexAt t (.slice (some a) l c) (.int kd i)).run P w' = .ok (.pointer (some (a.add (i.toNat * inf.size)))) w' := by
 simp [Instr.indexAt, asIntOf, run_underlying hu, h0, h1, sizeOf, typeInfo, hinf]
theorem tM (hp : Hp P H m S w) {id : Nat} {e : TypeId} {nl : Bool} {xs : List PV} (h : live H id (.buf e nl xs)) (h0 : 0 < xs.length) :
  ∃ (i : TypeInfo) (g c : Nat), P.info? e = some i /\ m id = .slice (some ⟨g, 0, none⟩) xs.length c := by
 obtain ⟨i, us, hi, hsz, ho, _⟩ := hp.obj id _ h
 rcases ho.2 with ⟨hv, h1⟩ | ⟨g, cap, cur, hv, _⟩
 ·omega
 ·exact ⟨i, g, cap, hi, hv⟩
theorem jP (hT : aK P ti) (hp : Hp P H m S w) {t : TypeId} {x y : AV} {vx vy : Value} {k : AV -> Prop} (h : dz ti H t x y k) (hx : Rd P H m S w x vx) (hy : Rd P H m S w y vy) :
  ∃ av v, k av /\ Rd P H m S w av v /\ ∀ w', True -> (Instr.indexAt t vx vy).run P w' = .ok v w' := by
 unfold dz at h
 split at h
 ·rename_i kd i
  obtain ⟨rfl, _⟩ := hy.pv
  split at h
  ·rename_i e s1 b1 z1 hti
   have hu := bF (hT.ok _ _ hti) rfl
   have lst : ∀ {nl : Bool} {xs : List PV} {v : Value}, RdP S w (.list nl xs) v -> (match ti e with
     | some ie => bO xs i fun z => match Nat.beq z.cells.length ie.size with
      | true => k (.aN z.cells)
      | false => False
     | none => False) -> ∃ av v', k av /\ Rd P H m S w av v' /\ ∀ w', True -> (Instr.indexAt t v (.int kd i)).run P w' = .ok v' w' := by
    intro nl xs v hr h
    split at h
    ·rename_i ie hie
     obtain ⟨z, h0, hz, hk⟩ := h
     split at hk
     ·rename_i hb
      obtain ⟨v', h1, h2⟩ := j4 (P := P) (H := H) (m := m) hu (hT.ok _ _ hie) hr h0 hz (Nat.eq_of_beq_eq_true hb)
      exact ⟨_, v', hk, h1, fun w' _ => h2 w'⟩
     ·cases hk
    ·cases h
   split at h
   ·rename_i nl xs
    cases hx with | p _ _ hr => exact lst hr h
   ·rename_i id
    split at h
    ·rename_i e' nl xs hH
     split at h
     ·rename_i hb
      obtain rfl := Nat.eq_of_beq_eq_true hb
      obtain ⟨n, rfl, h1, hk⟩ := h
      obtain ⟨inf, g, c, hinf, hm⟩ := tM hp hH (by omega)
      have hv := hx.bX hH
      rw [hm] at hv
      subst hv
      have hid : id < H.length := (List.getElem?_eq_some_iff.1 hH).1
      refine ⟨_, _, hk, .bp _ _ _ _ hid fun e2 nl2 xs2 hl => ?_, fun w' _ => run_indexAt_slice hu hinf _ _ _ kd _ (by omega) (by omega) w'⟩
      unfold live at hl
      rw [hH] at hl
      injection hl with hl; injection hl with hl; injection hl with he _ _
      subst he
      exact ⟨inf, g, _, c, hinf, hm, by rw [add_lit, Nat.zero_add, Nat.add_zero, Int.toNat_natCast]⟩
     ·cases h
    ·rename_i nl xs hH
     have hv := hx.bX hH
     subst hv
     exact lst (hp.obj id _ hH) h
    ·rename_i e' xs l hH
     split at h
     ·rename_i hb
      obtain rfl := Nat.eq_of_beq_eq_true hb
      obtain ⟨rfl, hk⟩ := h
      obtain ⟨inf, g, c, cur, hinf, _, hm, _⟩ := lD hp hH
      have hv := hx.bX hH
      rw [hm] at hv
      subst hv
      have hid : id < H.length := (List.getElem?_eq_some_iff.1 hH).1
      refine ⟨_, _, hk, .bN _ _ _ hid fun e2 xs2 l2 hl => ?_, fun w' _ => run_indexAt_slice hu hinf _ _ _ kd _ (by omega) (by omega) w'⟩
      unfold live at hl
      rw [hH] at hl
      injection hl with hl; injection hl with hl; injection hl with he hx2 _
      subst he
      subst hx2
      exact ⟨inf, g, _, c, hinf, hm, by rw [add_lit, Nat.zero_add, Nat.add_zero, Int.toNat_natCast]⟩
     ·cases h
    ·cases h
   ·rename_i id lo hi
    split at h
    ·rename_i e' nl xs hH
     split at h
     ·rename_i hb
      obtain rfl := Nat.eq_of_beq_eq_true hb
      obtain ⟨⟨h0, h1⟩, hk⟩ := h
      cases hx with
      | sub _ _ _ a l c hid hs _ =>
       obtain ⟨inf, a0, l0, c0, hinf, hm, hlo, hhi, hl, hc, ha⟩ := hs _ nl xs hH
       obtain ⟨inf', g, c', hinf', hm'⟩ := tM hp hH (by omega)
       rw [hm] at hm'
       injection hm' with e1 e2 e3
       subst e1; subst e2; subst e3
       obtain ⟨_, _, hm2, _, hlc, _⟩ := cv hp hH
       rw [hm] at hm2
       injection hm2 with _ _ e5
       have ha := ha.2 (by omega)
       subst ha
       refine ⟨_, _, hk, .bp _ _ _ _ hid fun e2 nl2 xs2 hl2 => ?_, fun w' _ => run_indexAt_slice hu hinf _ _ _ kd i h0 (by omega) w'⟩
       unfold live at hl2
       rw [hH] at hl2
       injection hl2 with hl2; injection hl2 with hl2; injection hl2 with he _ _
       subst he
       exact ⟨inf, g, _, _, hinf, hm, by show ((⟨g, 0, none⟩ : Addr).add (lo * inf.size)).add (i.toNat * inf.size) = _; rw [add_lit, add_lit, Nat.zero_add, Nat.add_zero, Nat.add_mul]⟩
     ·cases h
    ·rename_i cs hH
     split at h
     ·rename_i ie hie
      obtain ⟨⟨h0, h1⟩, hk⟩ := h
      obtain ⟨inf, hinf, hsz⟩ := cV (hT.ok _ _ hie)
      obtain ⟨b, T, vs, hm, hh, hl, hr⟩ := hp.obj id _ hH
      cases hx with
      | sub _ _ _ a l c hid hs hs2 =>
       obtain ⟨rfl, rfl, rfl, hc1, hc2⟩ := hs2 _ _ hH hm
       refine ⟨_, _, hk, .ptr _ _ _ hid fun o' hl' => ⟨b, hm, ?_⟩, fun w' _ => run_indexAt_slice hu hinf _ _ _ kd i h0 (by omega) w'⟩
       rw [add_lit, Nat.zero_add, hsz]
     ·cases h
    ·cases h
   ·cases h
  ·rename_i n e s1 b1 z1 hti
   have hu := kO (hT.ok _ _ hti) rfl
   split at h
   ·rename_i ie id o hie
    obtain ⟨inf, hinf, hs⟩ := cV (hT.ok _ _ hie)
    obtain ⟨⟨h0, h1⟩, hk⟩ := h
    cases hx with
    | ptr _ _ a hid hb =>
     refine ⟨_, .pointer (some (a.add (i.toNat * ie.size))), hk, .ptr _ _ _ hid fun o' hl => ?_, fun w' _ => ?_⟩
     ·obtain ⟨b, hm, rfl⟩ := hb o' hl
      exact ⟨b, hm, by rw [add_lit]⟩
     ·simp [Instr.indexAt, asIntOf, run_underlying hu, h0, h1, sizeOf, typeInfo, hinf, hs, Instr.sureAddr]
   ·rename_i ie cs hie
    obtain ⟨inf, hinf, hs⟩ := cV (hT.ok _ _ hie)
    obtain ⟨⟨h0, h1⟩, hk⟩ := h
    cases hx with
    | aN _ a us hS hu' hr =>
     refine ⟨_, .pointer (some (a.add (i.toNat * ie.size))), hk, .aN _ (a.add (i.toNat * ie.size)) (fun j => us (i.toNat * ie.size + j)) (by rw [cm]; exact hS) (fun j c hj => ?_) (fun j c hj => ?_), fun w' _ => ?_⟩
     ·rw [List.getElem?_drop] at hj
      rw [add_add]
      exact hu' _ c hj
     ·rw [List.getElem?_drop] at hj
      exact hr _ c hj
     ·simp [Instr.indexAt, asIntOf, run_underlying hu, h0, h1, sizeOf, typeInfo, hinf, hs, Instr.sureAddr]
   ·cases h
  ·cases h
 ·cases h
end
end Go.Abs
namespace Go.Abs
open Go.RowKit
section
variable {P : Program} {ti : TypeId -> Option TI} {H : AH} {m : Nat -> Value} {S : Nat -> Prop} {w : World}
theorem run_len_slice {t e : TypeId} (hu : P.underlying t = some (.slice e)) (ty : TypeId) (a : Option Addr) (l c : Nat) (w' : World) : (Builtin.len_ #[t] ty #[.slice a l c]).run P w' = .ok (.int .i64 l) w' := by
 simp [Builtin.len_, run_underlying hu, goInt]
theorem sn (hT : aK P ti) (hp : Hp P H m S w) {t : TypeId} {x : AV} {vx : Value} {k : AV -> Prop} (h : sq ti H t x k) (hx : Rd P H m S w x vx) (ty : TypeId) :
  ∃ av v, k av /\ Rd P H m S w av v /\ ∀ w', True -> (Builtin.len_ #[t] ty #[vx]).run P w' = .ok v w' := by
 unfold sq at h
 split at h
 ·rename_i e s1 b1 z1 hti
  have hu := bF (hT.ok _ _ hti) rfl
  split at h
  ·rename_i nl xs
   obtain ⟨a, c, rfl, _, h1, h2⟩ := hx.iI
   obtain ⟨n, rfl, h⟩ := h
   exact ⟨_, _, h (Nat.le_trans h1 h2), Rd.mk rfl, fun w' _ => run_len_slice hu ty _ _ _ w'⟩
  ·rename_i id
   split at h
   ·rename_i e' nl xs hH
    have hv := hx.bX hH
    obtain ⟨a, c, hm, _, h1, h2⟩ := cv hp hH
    rw [hm] at hv
    subst hv
    obtain ⟨n, rfl, h⟩ := h
    exact ⟨_, _, h (Nat.le_trans h1 h2), Rd.mk rfl, fun w' _ => run_len_slice hu ty _ _ _ w'⟩
   ·rename_i nl xs hH
    have hv := hx.bX hH
    obtain ⟨a, c, hm, _, h1, h2⟩ := od hp hH
    rw [hm] at hv
    subst hv
    obtain ⟨n, rfl, h⟩ := h
    exact ⟨_, _, h (Nat.le_trans h1 h2), Rd.mk rfl, fun w' _ => run_len_slice hu ty _ _ _ w'⟩
   ·cases h
  ·rename_i id lo hi
   split at h
   ·rename_i e' nl xs hH
    cases hx with
    | sub _ _ _ a l c hid hs =>
     obtain ⟨inf, a0, l0, c0, hinf, hm, hlo, hhi, hl, hc, ha⟩ := hs _ nl xs hH
     obtain ⟨_, _, _, _, h1, h2⟩ := cv hp hH
     subst hl
     obtain ⟨n, rfl, h⟩ := h
     exact ⟨_, _, h (Nat.le_trans h1 h2), Rd.mk rfl, fun w' _ => run_len_slice hu ty _ _ _ w'⟩
   ·rename_i cs hH
    cases hx with
    | sub _ _ _ a l c hid hs hq =>
     obtain ⟨b, T, us, h3, _⟩ := hp.obj id _ hH
     obtain ⟨rfl, _, rfl, _⟩ := hq _ _ hH h3
     exact ⟨_, _, h, Rd.mk rfl, fun w' _ => run_len_slice hu ty _ _ _ w'⟩
   ·cases h
  ·cases h
 ·rename_i n e s1 b1 z1 hti
  have hu := kO (hT.ok _ _ hti) rfl
  exact ⟨_, _, h, Rd.mk rfl, fun w' _ => by simp [Builtin.len_, run_underlying hu, goInt]⟩
 ·rename_i s1 b1 z1 hti
  have hu := gO (hT.ok _ _ hti) rfl
  split at h
  ·obtain ⟨rfl, _⟩ := hx.pv
   exact ⟨_, _, h, Rd.mk rfl, fun w' _ => by simp [Builtin.len_, run_underlying hu, goInt]⟩
  ·cases h
 ·cases h
theorem jN (hT : aK P ti) {t : TypeId} {cs : List AV} {off : Nat} {k : AV -> Prop} (h : kW ti t cs off k) {vs : Array Value} (hl : vs.size = cs.length)
  (hr : ∀ k c, cs[k]? = some c -> Rd P H m S w c (vs.getD k undef) /\ (vs.getD k undef).oneCell' = true) :
  ∃ av v, k av /\ Rd P H m S w av v /\ ∀ w' : World, (part t vs off).run P w' = .ok v w' := by
 unfold kW at h
 split at h
 ·rename_i i hti
  obtain ⟨av, v, h1, h2, h3⟩ := e7 h (Nat.le_of_eq hl.symm) hr
  exact ⟨av, v, h1, h2, fun w' => lU (hT.ok _ _ hti) h3 w'⟩
 ·cases h
theorem Rd.cells {x : AV} {v : Value} (h : Rd P H m S w x v) (hx : (∃ cs, x = .agg cs) \/ (∃ cs, x = .p (.agg cs)) \/ x.one = true) :
  v.cells.size = x.cells.length /\ ∀ k c, x.cells[k]? = some c -> Rd P H m S w c (v.cells.getD k undef) /\ (v.cells.getD k undef).oneCell' = true := by
 have one : ∀ {x : AV} {v : Value}, Rd P H m S w x v -> v.oneCell' = true -> x.cells = [x] -> v.cells = #[v] ->
   v.cells.size = x.cells.length /\ ∀ k c, x.cells[k]? = some c -> Rd P H m S w c (v.cells.getD k undef) /\ (v.cells.getD k undef).oneCell' = true := by
  intro x v h ho hx hv
  rw [hx, hv]
  refine ⟨rfl, fun k c hk => ?_⟩
  cases k with
  | zero => simp at hk; subst hk; exact ⟨h, ho⟩
  | succ k => simp at hk
 rcases hx with ⟨cs, rfl⟩ | ⟨cs, rfl⟩ | hx
 ·cases h with
  | agg _ vs hl ho hr => exact ⟨hl, fun k c hk => ⟨hr k c hk, ho k c hk⟩⟩
 ·cases h with
  | p _ _ h => cases h with
   | agg _ vs hl ho hr =>
    refine ⟨by rw [AV.cells, List.length_map]; exact hl, fun k c hk => ?_⟩
    simp only [AV.cells, List.getElem?_map, Option.map_eq_some_iff] at hk
    obtain ⟨c', hc', rfl⟩ := hk
    exact ⟨.p _ _ (hr k c' hc'), ho k c' hc'⟩
 ·cases h <;> try (simp [AV.one] at hx; done)
  case p y h =>
   cases y <;> try (simp [AV.one] at hx; done)
   case v u =>
    cases h with
    | v _ ho => exact one (.p _ _ (.v _ ho)) ho rfl (by cases v <;> first | rfl | (simp [Value.oneCell'] at ho))
   case list nl xs =>
    have h' : Rd P H m S w (.p (.list nl xs)) v := .p _ _ h
    obtain ⟨a, c, rfl, _⟩ := h'.iI
    exact one h' rfl rfl rfl
  case ptr id off a hid h => exact one (.ptr _ _ _ hid h) rfl rfl rfl
  case buf id a l c hid h => exact one (.buf _ _ _ _ hid h) rfl rfl rfl
  case sub id lo hi a l c hid h h2 => exact one (.sub _ _ _ _ _ _ hid h h2) rfl rfl rfl
  case bp id ix off a hid h => exact one (.bp _ _ _ _ hid h) rfl rfl rfl
  case aN cs a us hS hu hr => exact one (.aN _ _ us hS hu hr) rfl rfl rfl
  case clo fn caps vs hl hr => exact one (.clo _ _ _ hl hr) rfl rfl rfl
  case mp id b hid h => exact one (.mp _ _ hid h) rfl rfl rfl
  case bN id off a hid h => exact one (.bN _ _ _ hid h) rfl rfl rfl
theorem Av {cs : List AV} {v : Value} (h : Rd P H m S w (.agg cs) v) : ∃ vs, v = .agg vs /\ vs.size = cs.length /\ ∀ k c, cs[k]? = some c -> Rd P H m S w c (vs.getD k undef) /\ (vs.getD k undef).oneCell' = true := by
 cases h with | agg _ vs hl ho hr => exact ⟨vs, rfl, hl, fun k c hk => ⟨hr k c hk, ho k c hk⟩⟩
theorem BT {cs : List PV} {v : Value} (h : Rd P H m S w (.p (.agg cs)) v) : ∃ vs, v = .agg vs /\ vs.size = (cs.map AV.p).length /\ ∀ k c, (cs.map AV.p)[k]? = some c -> Rd P H m S w c (vs.getD k undef) /\ (vs.getD k undef).oneCell' = true := by
 cases h with
 | p _ _ h => cases h with
  | agg _ vs hl ho hr =>
   refine ⟨vs, rfl, by simpa using hl, fun k c hk => ?_⟩
   simp only [List.getElem?_map, Option.map_eq_some_iff] at hk
   obtain ⟨c', hc', rfl⟩ := hk
   exact ⟨.p _ _ (hr k c' hc'), ho k c' hc'⟩
theorem o8 (hT : aK P ti) {s : TypeId} {x : AV} {f : Nat} {vx : Value} {k : AV -> Prop} (h : jS ti s x f k) (hx : Rd P H m S w x vx) :
  ∃ av v, k av /\ Rd P H m S w av v /\ ∀ w' : World, (Instr.field s vx f).run P w' = .ok v w' := by
 unfold jS at h
 split at h
 ·rename_i fs s1 b1 z1 hti
  obtain ⟨F, hu, rfl⟩ := k8 (hT.ok _ _ hti) rfl
  split at h
  ·rename_i ft off hf
   simp only [List.getElem?_map, Option.map_eq_some_iff] at hf
   obtain ⟨fd, hfd, he⟩ := hf
   injection he with h1 h2
   subst h1; subst h2
   have hfd' : F[f]? = some fd := by simpa using hfd
   split at h
   ·rename_i cs
    obtain ⟨vs, rfl, hl, hr⟩ := Av hx
    obtain ⟨av, v, h1, h2, h3⟩ := jN hT h hl hr
    exact ⟨av, v, h1, h2, fun w' => by simp [Instr.field, run_underlying hu, hfd', asAgg, h3 w']⟩
   ·rename_i cs
    obtain ⟨vs, rfl, hl, hr⟩ := BT hx
    obtain ⟨av, v, h1, h2, h3⟩ := jN hT h hl hr
    exact ⟨av, v, h1, h2, fun w' => by simp [Instr.field, run_underlying hu, hfd', asAgg, h3 w']⟩
   ·cases h
  ·cases h
 ·cases h
theorem tQ : ∀ (ps : List PV), lG (ps.map AV.p) = some ps
 | [] => rfl
 | p :: ps => by simp [lG, tQ ps]
theorem yJ {ie : TI} {cs : List PV} {i : Int} {k : AV -> Prop} (h : Au ie cs i k) : dV ie (cs.map .p) (i.toNat * ie.size) k := by
 unfold Au at h
 split at h
 ·rename_i h1 h2
  obtain ⟨y, h0, hy, hk⟩ := h
  have h3 := Nat.eq_of_beq_eq_true h2
  unfold dV
  rw [h1, h3, Nat.mul_one]
  simp [hy, hk]
 ·rename_i h1
  obtain ⟨zs, h2, h3, hk⟩ := h
  have h4 : ((cs.map AV.p).drop (i.toNat * ie.size)).take ie.size = zs.map AV.p := by rw [<- h2, List.map_take, List.map_drop]
  unfold dV
  rw [h1, List.length_map, h3, h4]
  simp only [eK, tQ]
  exact hk
 ·exact h
theorem o7 (hT : aK P ti) {t : TypeId} {x y : AV} {vx vy : Value} {k : AV -> Prop} (h : jQ ti t x y k) (hx : Rd P H m S w x vx) (hy : Rd P H m S w y vy) :
  ∃ av v, k av /\ Rd P H m S w av v /\ ∀ w' : World, (Instr.index t vx vy).run P w' = .ok v w' := by
 unfold jQ at h
 split at h
 ·rename_i kd i
  obtain ⟨rfl, _⟩ := hy.pv
  split at h
  ·rename_i n e s1 b1 z1 hti
   have hu := kO (hT.ok _ _ hti) rfl
   split at h
   ·rename_i ie hie
    have hie' := hT.ok _ _ hie
    obtain ⟨inf, hinf, hs⟩ := cV hie'
    have fin : ∀ {cs : List AV} {vs : Array Value}, vs.size = cs.length -> (∀ k c, cs[k]? = some c -> Rd P H m S w c (vs.getD k undef) /\ (vs.getD k undef).oneCell' = true) ->
      ((0 <= i /\ i < n) /\ dV ie cs (i.toNat * ie.size) k) -> ∃ av v, k av /\ Rd P H m S w av v /\ ∀ w' : World, (Instr.index t (.agg vs) (.int kd i)).run P w' = .ok v w' := by
     intro cs vs hl hr ⟨⟨h0, h1⟩, hk⟩
     obtain ⟨av, v, h2, h3, h4⟩ := e7 hk (Nat.le_of_eq hl.symm) hr
     exact ⟨av, v, h2, h3, fun w' => by simp [Instr.index, asIntOf, run_underlying hu, h0, h1, sizeOf, typeInfo, hinf, hs, lU hie' h4 w']⟩
    split at h
    ·obtain ⟨vs, rfl, hl, hr⟩ := Av hx
     exact fin hl hr h
    ·obtain ⟨vs, rfl, hl, hr⟩ := BT hx
     exact fin hl hr ⟨h.1, yJ h.2⟩
    ·cases h
   ·cases h
  ·rename_i s1 b1 z1 hti
   have hu := gO (hT.ok _ _ hti) rfl
   split at h
   ·rename_i s
    obtain ⟨rfl, _⟩ := hx.pv
    obtain ⟨b, h0, hb, hk⟩ := h
    exact ⟨_, _, hk, Rd.mk rfl, fun w' => by simp [Instr.index, asIntOf, run_underlying hu, h0, hb]⟩
   ·cases h
  ·cases h
 ·cases h
end
end Go.Abs
namespace Go.Abs
open Go.RowKit
section
variable {P : Program} {ti : TypeId -> Option TI} {H : AH} {m : Nat -> Value} {S : Nat -> Prop} {w : World}
theorem run_sliceBound {x : Value} {kd : IntKind} {i : Int} (hx : x = .int kd i) {y : Nat} (h0 : 0 <= i) (h1 : i <= y) (code : BoundsCode) (w' : World) : (Instr.sliceBound x y code).run P w' = .ok i.toNat w' := by
 subst hx
 simp [Instr.sliceBound, asIntOf, h0, h1]
theorem eS {x : AV} {i : Int} (h : asI x = some i) {v : Value} (hx : Rd P H m S w x v) : ∃ kd, v = .int kd i := by
 unfold asI at h
 split at h
 ·injection h with h
  subst h
  exact ⟨_, hx.pv.1⟩
 ·cases h
inductive Bd (P : Program) (len cap : Nat) (l h : Int) (lo hi : Option Value) : Prop
 | mk (hr : ∀ (w' : World), (Instr.sliceBounds true len cap lo hi none).run P w' = .ok (l.toNat, h.toNat, cap) w') (hr' : ∀ (w' : World), len = cap -> (Instr.sliceBounds false len cap lo hi none).run P w' = .ok (l.toNat, h.toNat, cap) w') : Bd P len cap l h lo hi
theorem qw {len cap : Nat} {l : Int} {ho : Option Int} {lo hi : Option Value} (hlo : lo = none /\ l = 0 \/ ∃ kd, lo = some (.int kd l)) (hhi : hi = none /\ ho = none \/ ∃ kd h, ho = some h /\ hi = some (.int kd h))
  (hb : 0 <= l /\ l <= ho.getD len /\ ho.getD len <= len) (hc : len <= cap) : Bd P len cap l (ho.getD len) lo hi := by
 obtain ⟨h0, h1, h2⟩ := hb
 have both : ∀ (isS : Bool) (w' : World), (Instr.sliceBounds isS len cap lo hi none).run P w' = .ok (l.toNat, (ho.getD len).toNat, cap) w' := by
  intro isS w'
  rcases hhi with ⟨rfl, rfl⟩ | ⟨kd, h, rfl, rfl⟩
  ·simp only [Option.getD_none] at h1 h2 ⊢
   rcases hlo with ⟨rfl, rfl⟩ | ⟨kd, rfl⟩
   ·simp [Instr.sliceBounds]
   ·have := fun w' => run_sliceBound (P := P) (x := .int kd l) rfl (y := len) h0 h1 .sliceB w'
    simp [Instr.sliceBounds, this]
  ·simp only [Option.getD_some] at h1 h2 ⊢
   have hh := fun w' => run_sliceBound (P := P) (x := .int kd h) rfl (y := cap) (by omega) (by omega) (if isS then .sliceAcap else .sliceAlen) w'
   rcases hlo with ⟨rfl, rfl⟩ | ⟨kd', rfl⟩
   ·simp [Instr.sliceBounds, hh]
   ·have := fun w' => run_sliceBound (P := P) (x := .int kd' l) rfl (y := h.toNat) h0 (by omega) .sliceB w'
    simp [Instr.sliceBounds, hh, this]
 exact ⟨both true, fun w' _ => both false w'⟩
theorem dt {t e : TypeId} {inf : TypeInfo} (hu : P.underlying t = some (.slice e)) (hinf : P.info? e = some inf) {a : Option Addr} {len cap : Nat} {l h : Int} {lo hi : Option Value} (hb : Bd P len cap l h lo hi) (w' : World) :
  (Instr.sliceAt t (.slice a len cap) lo hi none).run P w' = .ok (.slice (if cap = l.toNat then a else a.map (·.add (l.toNat * inf.size))) (h.toNat - l.toNat) (cap - l.toNat)) w' := by
 obtain ⟨hr, _⟩ := hb
 simp [Instr.sliceAt, run_underlying hu, Instr.slice, hr w', sizeOf, typeInfo, hinf]
theorem zn {t e : TypeId} {inf : TypeInfo} (hu : P.underlying t = some (.slice e)) (hinf : P.info? e = some inf) {a : Option Addr} {len cap : Nat} {h : Int} {k1 k2 : IntKind} (h0 : 0 <= h) (h1 : h <= cap) (w' : World) :
  (Instr.sliceAt t (.slice a len cap) none (some (.int k1 h)) (some (.int k2 h))).run P w' = .ok (.slice a h.toNat h.toNat) w' := by
 have g1 := run_sliceBound (P := P) (x := .int k2 h) rfl (y := cap) h0 h1 .slice3Acap w'
 have g2 := run_sliceBound (P := P) (x := .int k1 h) rfl (y := h.toNat) h0 (by omega) .slice3B w'
 simp [Instr.sliceAt, run_underlying hu, Instr.slice, Instr.sliceBounds, g1, g2, sizeOf, typeInfo, hinf]
 intro _
 cases a <;> simp [Addr.add]
theorem RdP.Dd {nl : Bool} {xs : List PV} {a : Option Addr} {n c : Nat} (h : RdP S w (.list nl xs) (.slice a n c)) {hh : Nat} (h2 : hh <= xs.length) : RdP S w (.list nl (xs.take hh)) (.slice a hh hh) := by
 cases h with
 | nil =>
  simp at h2
  subst h2
  exact .nil
 | list _ ad cap sz us hS hc hm hz hu hr =>
  have hlen : (xs.take hh).length = hh := by rw [List.length_take]; omega
  have hfl : ∀ (k : Nat) (c : PV), (flat (xs.take hh))[k]? = some c -> (flat xs)[k]? = some c := by
   intro k c hk
   have e1 : flat xs = flat (xs.take hh) ++ flat (xs.drop hh) := by unfold flat; rw [<- List.flatMap_append, List.take_append_drop]
   rw [e1, List.getElem?_append_left (List.getElem?_eq_some_iff.1 hk).1]
   exact hk
  have := RdP.list (S := S) (w := w) (xs.take hh) ad hh sz us (fun h => hS (by rintro rfl; simp at h)) (by omega) (by omega) (fun x hx => hz x (List.mem_of_mem_take hx)) (fun k c (hk : (flat (xs.take hh))[k]? = some c) => hu k c (hfl k c hk)) (fun k c (hk : (flat (xs.take hh))[k]? = some c) => hr k c (hfl k c hk))
  rwa [hlen] at this
theorem RdP.cut {nl : Bool} {xs : List PV} {a : Option Addr} {n c : Nat} {e : TypeId} {inf : TypeInfo} (h : RdP S w (.list nl xs) (.slice a n c)) {l hh : Nat} (h1 : l <= hh) (h2 : hh <= xs.length) (he : ∀ x ∈ xs, x.cells.length = inf.size) (_hinf : P.info? e = some inf) :
  RdP S w (.list nl ((xs.take hh).drop l)) (.slice (if c = l then a else a.map (·.add (l * inf.size))) (hh - l) (c - l)) := by
 cases h with
 | nil =>
  simp at h2
  subst h2
  obtain rfl : l = 0 := by omega
  simp
  exact .nil
 | list _ ad cap sz us hS hc hm hz hu hr =>
  have hlen : ((xs.take hh).drop l).length = hh - l := by rw [List.length_drop, List.length_take]; omega
  have hmem : ∀ x ∈ (xs.take hh).drop l, x ∈ xs := fun x hx => List.mem_of_mem_take (List.mem_of_mem_drop hx)
  have hfl : ∀ k c, (flat ((xs.take hh).drop l))[k]? = some c -> (flat xs)[l * inf.size + k]? = some c := by
   intro k c hk
   have e1 : flat xs = flat ((xs.take hh).take l) ++ (flat ((xs.take hh).drop l) ++ flat (xs.drop hh)) := by
    unfold flat
    rw [<- List.flatMap_append, <- List.flatMap_append, <- List.append_assoc, List.take_append_drop, List.take_append_drop]
   have e2 : (flat ((xs.take hh).take l)).length = l * inf.size := by
    rw [aJ (sz := inf.size) (fun x hx => he x (List.mem_of_mem_take (List.mem_of_mem_take hx))), List.length_take, List.length_take]
    congr 1
    omega
   rw [e1, List.getElem?_append_right (by omega), e2, Nat.add_sub_cancel_left, List.getElem?_append_left (List.getElem?_eq_some_iff.1 hk).1]
   exact hk
  have hsome : (if c = l then some ad else (some ad).map (·.add (l * inf.size))) = some (if c = l then ad else ad.add (l * inf.size)) := by split <;> rfl
  rw [hsome, <- hlen]
  by_cases h0 : hh - l = 0
  ·have hnil : (xs.take hh).drop l = [] := List.eq_nil_of_length_eq_zero (by omega)
   rw [hnil]
   refine .list [] _ _ inf.size us (fun h => absurd rfl h) (by simp) (by omega) (by simp) (by simp [flat]) (by simp [flat])
  ·rw [if_neg (by omega)]
   refine .list _ _ _ inf.size (fun k => us (l * inf.size + k)) (by rw [cm]; exact fun _ => hS (by rintro rfl; simp at hlen; omega)) (by omega) (by omega) (fun x hx => he x (hmem x hx)) (fun k c hk => ?_) (fun k c hk => hr _ c (hfl k c hk))
   rw [add_add]
   exact hu _ c (hfl k c hk)
theorem RdP.D9 {nl : Bool} {xs : List PV} {a a0 : Option Addr} {n c0 : Nat} {e : TypeId} {inf : TypeInfo} (h : RdP S w (.list nl xs) (.slice a0 n c0)) {l hh : Nat} (h1 : l <= hh) (h2 : hh <= xs.length) (he : ∀ x ∈ xs, x.cells.length = inf.size) (hinf : P.info? e = some inf)
  (hn : a = none ↔ a0 = none) (ha : c0 ≠ l -> a = a0.map (·.add (l * inf.size))) : RdP S w (.list nl ((xs.take hh).drop l)) (.slice a (hh - l) (c0 - l)) := by
 have hc := h.cut h1 h2 he hinf
 by_cases hcl : c0 = l
 ·rw [if_pos hcl] at hc
  cases h with
  | nil =>
   obtain rfl := hn.2 rfl
   exact hc
  | list _ a' cap sz us hS hcc hm hz hu hr =>
   have hlen : hh = l := by omega
   subst hlen
   have hnil : (xs.take hh).drop hh = [] := by simp
   rw [hnil, Nat.sub_self, hcl, Nat.sub_self]
   cases a with
   | none => exact absurd (hn.1 rfl) (by simp)
   | some b => exact .list [] b 0 0 (fun _ => undef) (fun h => absurd rfl h) (Nat.zero_le _) (Nat.zero_le _) (by simp) (by simp [flat]) (by simp [flat])
 ·rw [if_neg hcl] at hc
  rw [ha hcl]
  exact hc
theorem eZ (hT : aK P ti) (hp : Hp P H m S w) {t : TypeId} {x : AV} {vx : Value} {l : Int} {ho : Option Int} {lo hi : Option Value} {k : AV -> Prop} (h : lM ti H t x l ho k) (hx : Rd P H m S w x vx)
  (hlo : lo = none /\ l = 0 \/ ∃ kd, lo = some (.int kd l)) (hhi : hi = none /\ ho = none \/ ∃ kd h, ho = some h /\ hi = some (.int kd h)) :
  ∃ av v, k av /\ Rd P H m S w av v /\ ∀ w' : World, (Instr.sliceAt t vx lo hi none).run P w' = .ok v w' := by
 unfold lM at h
 split at h
 ·rename_i e s1 b1 z1 hti
  have hu := bF (hT.ok _ _ hti) rfl
  split at h
  ·rename_i ie hie
   obtain ⟨inf, hinf, hs⟩ := cV (hT.ok _ _ hie)
   have lst : ∀ {nl : Bool} {xs : List PV} {v : Value}, RdP S w (.list nl xs) v -> SzA xs ie.size (aX xs l ho fun ys => k (.p (.list nl ys))) ->
     ∃ av v', k av /\ Rd P H m S w av v' /\ ∀ w' : World, (Instr.sliceAt t v lo hi none).run P w' = .ok v' w' := by
    intro nl xs v hr ⟨he, _, hb, rfl, hk⟩
    obtain ⟨a, c, rfl, _, hlc, _⟩ := Rd.iI (P := P) (H := H) (m := m) (.p _ _ hr)
    have hbd := qw (P := P) hlo hhi hb hlc
    refine ⟨_, _, hk, .p _ _ (hr.cut (by omega) (by omega) (by rw [hs]; exact he) hinf), fun w' => dt hu hinf hbd w'⟩
   split at h
   ·cases hx with | p _ _ hr => exact lst hr h
   ·rename_i id
    split at h
    ·rename_i e' nl xs hH
     split at h
     ·rename_i hbe
      obtain rfl := Nat.eq_of_beq_eq_true hbe
      obtain ⟨hb, hk⟩ := h
      have hv := hx.bX hH
      obtain ⟨a, c, hm, _, hlc, _⟩ := cv hp hH
      rw [hm] at hv
      subst hv
      have hbd := qw (P := P) hlo hhi hb hlc
      have hid : id < H.length := (List.getElem?_eq_some_iff.1 hH).1
      refine ⟨_, _, hk, .sub _ _ _ _ _ _ hid (fun e2 nl2 xs2 hl2 => ?_) (fun _ _ _ he => by rw [hm] at he; cases he), fun w' => dt hu hinf hbd w'⟩
      unfold live at hl2
      rw [hH] at hl2
      injection hl2 with hl2; injection hl2 with hl2; injection hl2 with he _ hxs
      subst he; subst hxs
      exact ⟨inf, a, _, c, hinf, hm, by omega, by omega, rfl, rfl, by split <;> simp, fun h => if_neg h⟩
     ·cases h
    ·rename_i nl xs hH
     have hv := hx.bX hH
     subst hv
     exact lst (hp.obj id _ hH) h
    ·cases h
   ·rename_i id slo shi
    split at h
    ·rename_i e' nl xs hH
     split at h
     ·rename_i hbe
      obtain rfl := Nat.eq_of_beq_eq_true hbe
      obtain ⟨hb, hk⟩ := h
      cases hx with
      | sub _ _ _ a sl sc hid hs _ =>
       obtain ⟨inf2, a0, l0, c0, hinf2, hm, hslo, hshi, rfl, rfl, hnn, hat⟩ := hs _ nl xs hH
       rw [hinf] at hinf2
       injection hinf2 with hinf2
       subst hinf2
       obtain ⟨a1, c1, hm1, _, hlc, _⟩ := cv hp hH
       rw [hm] at hm1
       injection hm1 with e1 e2 e3
       subst e1; subst e2; subst e3
       have hbd := qw (P := P) (cap := c0 - slo) hlo hhi hb (by omega)
       refine ⟨_, _, hk, .sub _ _ _ _ _ _ hid (fun e2 nl2 xs2 hl2 => ?_) (fun _ _ _ he => by rw [hm] at he; cases he), fun w' => dt hu hinf hbd w'⟩
       unfold live at hl2
       rw [hH] at hl2
       injection hl2 with hl2; injection hl2 with hl2; injection hl2 with he _ hxs
       subst he; subst hxs
       refine ⟨inf, a0, _, c0, hinf, hm, by omega, by omega, by omega, by omega, ?_, fun h => ?_⟩
       ·split
        ·exact hnn
        ·rw [<- hnn]; simp
       ·rw [if_neg (by omega), hat (by omega)]
        cases a0 with
        | none => rfl
        | some x =>
         show some ((x.add (slo * inf.size)).add (l.toNat * inf.size)) = some (x.add ((slo + l.toNat) * inf.size))
         rw [add_add, Nat.add_mul]
     ·cases h
    ·cases h
   ·cases h
  ·cases h
 ·rename_i s1 b1 z1 hti
  have hu := gO (hT.ok _ _ hti) rfl
  split at h
  ·rename_i s
   obtain ⟨rfl, _⟩ := hx.pv
   obtain ⟨hb, hk⟩ := h
   have hbd := qw (P := P) hlo hhi hb (Nat.le_refl _)
   obtain ⟨_, hr⟩ := hbd
   exact ⟨_, _, hk, Rd.mk rfl, fun w' => by simp [Instr.sliceAt, run_underlying hu, Instr.slice, hr w' rfl]⟩
  ·cases h
 ·cases h
theorem iQ (hT : aK P ti) (hp : Hp P H m S w) {t : TypeId} {x : AV} {vx : Value} {lo hi mx : Option AV} {vlo vhi vmx : Option Value} {k : AV -> Prop} (h : dn ti H t x lo hi mx k) (hx : Rd P H m S w x vx)
  (h1 : lo = none /\ vlo = none \/ ∃ a v, lo = some a /\ vlo = some v /\ Rd P H m S w a v) (h2 : hi = none /\ vhi = none \/ ∃ a v, hi = some a /\ vhi = some v /\ Rd P H m S w a v) (h3 : mx = none -> vmx = none) :
  ∃ av v, k av /\ Rd P H m S w av v /\ ∀ w' : World, (Instr.sliceAt t vx vlo vhi vmx).run P w' = .ok v w' := by
 unfold dn at h
 split at h
 ·rcases h1 with ⟨_, rfl⟩ | ⟨a, v, e, _⟩
  case inr => cases e
  rcases h2 with ⟨_, rfl⟩ | ⟨a, v, e, _⟩
  case inr => cases e
  rw [h3 rfl]
  exact eZ hT hp h hx (.inl ⟨rfl, rfl⟩) (.inl ⟨rfl, rfl⟩)
 ·rcases h1 with ⟨e, _⟩ | ⟨a, v, e, rfl, ha⟩
  ·cases e
  cases e
  rcases h2 with ⟨_, rfl⟩ | ⟨a, v, e, _⟩
  case inr => cases e
  split at h
  ·rename_i l hl
   rw [h3 rfl]
   obtain ⟨kd, rfl⟩ := eS hl ha
   exact eZ hT hp h hx (.inr ⟨kd, rfl⟩) (.inl ⟨rfl, rfl⟩)
  ·cases h
 ·rcases h1 with ⟨_, rfl⟩ | ⟨a, v, e, _⟩
  case inr => cases e
  rcases h2 with ⟨e, _⟩ | ⟨a, v, e, rfl, ha⟩
  ·cases e
  cases e
  split at h
  ·rename_i l hl
   rw [h3 rfl]
   obtain ⟨kd, rfl⟩ := eS hl ha
   exact eZ hT hp h hx (.inl ⟨rfl, rfl⟩) (.inr ⟨kd, _, rfl, rfl⟩)
  ·cases h
 ·rcases h1 with ⟨e, _⟩ | ⟨a, v, e, rfl, ha⟩
  ·cases e
  cases e
  rcases h2 with ⟨e, _⟩ | ⟨a', v', e, rfl, ha'⟩
  ·cases e
  cases e
  split at h
  ·rename_i l hh hl hl'
   rw [h3 rfl]
   obtain ⟨kd, rfl⟩ := eS hl ha
   obtain ⟨kd', rfl⟩ := eS hl' ha'
   exact eZ hT hp h hx (.inr ⟨kd, rfl⟩) (.inr ⟨kd', _, rfl, rfl⟩)
  ·cases h
 ·cases h
theorem fS (hT : aK P ti) {src dst : TypeId} {x : AV} {vx : Value} {k : AV -> Prop} (h : jn ti src dst x k) (hx : Rd P H m S w x vx) :
  ∃ av v, k av /\ Rd P H m S w av v /\ ∀ w' : World, (convert src dst vx).run P w' = .ok v w' := by
 unfold jn at h
 split at h
 ·rename_i h1 h2
  have hu1 := n9 (hT.ok _ _ h1) rfl
  have hu2 := n9 (hT.ok _ _ h2) rfl
  obtain ⟨rfl, _⟩ := hx.pv
  obtain ⟨n', hn, hk⟩ := h
  exact ⟨_, _, hk, Rd.mk rfl, fun w' => by simp [convert, run_underlying hu1, run_underlying hu2, Conv.intToInt, hn]⟩
 ·rename_i h1 h2
  have hu1 := gO (hT.ok _ _ h1) rfl
  have hu2 := gO (hT.ok _ _ h2) rfl
  obtain ⟨rfl, _⟩ := hx.pv
  exact ⟨_, _, h, Rd.mk rfl, fun w' => by simp [convert, run_underlying hu1, run_underlying hu2]⟩
 ·cases h
theorem ue {op : UnOp} {x : AV} {vx : Value} {k : AV -> Prop} (h : yZ op x k) (hx : Rd P H m S w x vx) :
  ∃ av v, k av /\ Rd P H m S w av v /\ ∀ w' : World, (Op.unary op vx).run P w' = .ok v w' := by
 unfold yZ at h
 split at h
 ·obtain ⟨rfl, _⟩ := hx.pv
  exact ⟨_, _, h, Rd.mk rfl, fun w' => by simp [Op.unary]⟩
 ·obtain ⟨rfl, _⟩ := hx.pv
  obtain ⟨n', hn, hk⟩ := h
  exact ⟨_, _, hk, Rd.mk rfl, fun w' => by simp only [Op.unary, Op.intArith]; rw [hn]; rfl⟩
 ·cases h
end
end Go.Abs
namespace Go.Abs
open Go.RowKit
section
variable {P : Program} {ti : TypeId -> Option TI} {H : AH} {m : Nat -> Value} {S : Nat -> Prop} {w : World}
def RdL (P : Program) (H : AH) (m : Nat -> Value) (S : Nat -> Prop) (w : World) (cs : List AV) (vs : Array Value) : Prop :=
 vs.size = cs.length /\ ∀ k c, cs[k]? = some c -> Rd P H m S w c (vs.getD k undef) /\ (vs.getD k undef).oneCell' = true
theorem RdL.set {cs : List AV} {vs : Array Value} (h : RdL P H m S w cs vs) {i : Nat} {c : AV} {v : Value} (hc : Rd P H m S w c v) (ho : v.oneCell' = true) : RdL P H m S w (cs.set i c) (vs.setIfInBounds i v) := by
 refine ⟨by simp [h.1], fun k d hk => ?_⟩
 rw [List.getElem?_set] at hk
 by_cases hik : i = k
 ·subst hik
  simp at hk
  obtain ⟨hlt, rfl⟩ := hk
  have hlt' : i < vs.size := by rw [h.1]; exact hlt
  have : (vs.setIfInBounds i v).getD i undef = v := by simp [Array.getD_eq_getD_getElem?, hlt']
  rw [this]
  exact ⟨hc, ho⟩
 ·rw [if_neg hik] at hk
  have : (vs.setIfInBounds i v).getD k undef = vs.getD k undef := by simp [Array.getD_eq_getD_getElem?, hik]
  rw [this]
  exact h.2 k d hk
theorem RdL.setAt (off : Nat) : ∀ (l : List Value) (xs : List AV) (n : Nat) (cs : List AV) (vs : Array Value), RdL P H m S w cs vs -> l.length = xs.length ->
  (∀ k c, xs[k]? = some c -> Rd P H m S w c (l.getD k undef) /\ (l.getD k undef).oneCell' = true) ->
  RdL P H m S w (Abs.setAt cs (off + n) xs) ((l.zipIdx n).foldl (fun cs (p : Value × Nat) => cs.setIfInBounds (off + p.2) p.1) vs)
 | [], xs, n, cs, vs, h, hl, _ => by
  have : xs = [] := List.eq_nil_of_length_eq_zero (by simpa using hl.symm)
  subst this
  simpa [Abs.setAt] using h
 | v :: l, [], n, cs, vs, _, hl, _ => by simp at hl
 | v :: l, x :: xs, n, cs, vs, h, hl, hr => by
  have h0 := hr 0 x rfl
  simp only [List.zipIdx_cons, List.foldl_cons, Abs.setAt]
  rw [Nat.add_assoc]
  refine RdL.setAt off l xs (n + 1) _ _ (h.set (by simpa using h0.1) (by simpa using h0.2)) (by simpa using hl) fun k c hk => ?_
  simpa using hr (k + 1) c (by simpa using hk)
theorem rp (off : Nat) (cs : Array Value) (vs : Array Value) :
  cs.zipIdx.foldl (fun cs (c, j) => cs.setIfInBounds (off + j) c) vs = (cs.toList.zipIdx 0).foldl (fun cs (p : Value × Nat) => cs.setIfInBounds (off + p.2) p.1) vs := by
 rw [<- Array.foldl_toList, Array.toList_zipIdx]
theorem qY {x : AV} (h : x.cells.all AV.one = true) : (∃ cs, x = .agg cs) \/ (∃ cs, x = .p (.agg cs)) \/ x.one = true := by
 cases x <;> try (exact .inr (.inr (by simpa [AV.cells] using h)))
 case agg cs => exact .inl ⟨cs, rfl⟩
 case p y =>
  cases y <;> try (exact .inr (.inr (by simpa [AV.cells] using h)))
  case agg cs => exact .inr (.inl ⟨cs, rfl⟩)
theorem eO (place : Nat -> Option (Nat × Nat)) : ∀ (parts : List (Nat × AV)) (vparts : List (Nat × Value)) (cells cs : List AV) (vs : Array Value), dJ place cells parts = some cs -> RdL P H m S w cells vs ->
  vparts.map (·.1) = parts.map (·.1) -> (∀ (k : Nat) (p : Nat × AV), parts[k]? = some p -> ∃ v, vparts[k]? = some (p.1, v) /\ Rd P H m S w p.2 v) -> ∃ vs', Instr.fill place vs vparts = some vs' /\ RdL P H m S w cs vs'
 | [], vparts, cells, cs, vs, h, hr, hm, _ => by
  have : vparts = [] := by simpa using hm
  subst this
  simp [dJ] at h
  subst h
  exact ⟨vs, rfl, hr⟩
 | (i, x) :: parts, [], cells, cs, vs, _, _, hm, _ => by simp at hm
 | (i, x) :: parts, (j, v) :: vparts, cells, cs, vs, h, hr, hm, hp => by
  simp only [List.map_cons, List.cons.injEq] at hm
  obtain ⟨rfl, hm⟩ := hm
  obtain ⟨v', h1, hv⟩ := hp 0 (j, x) rfl
  simp only [List.getElem?_cons_zero, Option.some.injEq, Prod.mk.injEq, true_and] at h1
  subst h1
  unfold dJ at h
  split at h
  ·cases h
  ·rename_i off size hpl
   split at h
   ·rename_i hc
    simp only [Bool.and_eq_true] at hc
    obtain ⟨⟨hc1, hc2⟩, hc3⟩ := hc
    have hc1 := Nat.eq_of_beq_eq_true hc1
    have hc2 := Nat.le_of_ble_eq_true hc2
    obtain ⟨hs, hcell⟩ := hv.cells (qY hc3)
    have hstep := RdL.setAt (P := P) (H := H) (m := m) (S := S) (w := w) off v.cells.toList x.cells 0 cells vs hr (by simpa using hs) (fun k c hk => by
     have := hcell k c hk
     have e : v.cells.toList.getD k undef = v.cells.getD k undef := by simp [Array.getD_eq_getD_getElem?]
     rw [e]; exact this)
    rw [Nat.add_zero, <- rp] at hstep
    obtain ⟨vs', h2, h3⟩ := eO place parts vparts _ cs _ h hstep hm (fun k p hk => hp (k + 1) p (by simpa using hk))
    refine ⟨vs', ?_, h3⟩
    unfold Instr.fill
    simp only [hpl]
    rw [if_neg]
    ·exact h2
    ·simp only [Bool.or_eq_true, decide_eq_true_eq, not_or]
     rw [hr.1, hs, hc1]
     simp
     omega
   ·cases h
theorem jL {t : TypeId} {i : TI} (hi : cA P t = some i) : RdL P H m S w (zeroCells i) i.zero.cells := by
 obtain ⟨inf, d, _, _, _, _, _, _, _, h1⟩ := aE hi
 refine ⟨by simp [zeroCells], fun k c hk => ?_⟩
 simp only [zeroCells, List.getElem?_map, Option.map_eq_some_iff] at hk
 obtain ⟨c', hc', rfl⟩ := hk
 have hm : c' ∈ i.zero.cells := by
  have := (List.getElem?_eq_some_iff.1 hc')
  obtain ⟨hlt, rfl⟩ := this
  simp
 have ho := h1 c' hm
 have he : i.zero.cells.getD k undef = c' := by
  simp only [Array.getElem?_toList] at hc'
  simp [Array.getD_eq_getD_getElem?, hc']
 rw [he]
 refine ⟨.p _ _ ?_, ho⟩
 unfold cX
 split
 ·exact .nil
 ·exact .v _ ho
theorem iV (hT : aK P ti) : ∀ (F : List Field) (ps : List (Nat × Nat)), placesOf ti (F.map fun f => (f.type, f.offset)) = some ps -> F.mapM (fun f => (P.info? f.type).map fun i => (f.offset, i.size)) = some ps
 | [], ps, h => by simp [placesOf] at h; subst h; simp
 | f :: F, ps, h => by
  simp only [List.map_cons, placesOf] at h
  split at h
  ·rename_i i l hi hl
   injection h with h
   subst h
   obtain ⟨inf, hinf, hs⟩ := cV (hT.ok _ _ hi)
   simp [List.mapM_cons, hinf, hs, iV hT F l hl]
  ·cases h
theorem pf (hT : aK P ti) {t : TypeId} {parts : List (Nat × AV)} {vparts : Array (Nat × Value)} {k : AV -> Prop} (h : jU ti t parts k) (hm : vparts.toList.map (·.1) = parts.map (·.1))
  (hp : ∀ (k : Nat) (p : Nat × AV), parts[k]? = some p -> ∃ v, vparts.toList[k]? = some (p.1, v) /\ Rd P H m S w p.2 v) :
  ∃ av v, k av /\ Rd P H m S w av v /\ ∀ w' : World, (Instr.build t vparts).run P w' = .ok v w' := by
 unfold jU at h
 split at h
 ·rename_i i hti
  have hi := hT.ok _ _ hti
  obtain ⟨inf, d, hinf, hd, hz, hs, _, hk, _⟩ := aE hi
  split at h
  ·rename_i fs hfs
   obtain ⟨F, hu, rfl⟩ := k8 hi hfs
   split at h
   ·rename_i ps hps
    split at h
    ·rename_i cs hcs
     have hpl := iV hT _ _ hps
     obtain ⟨vs', h1, h2⟩ := eO (fun j => ps[j]?) parts vparts.toList _ cs _ hcs (jL hi) hm hp
     refine ⟨_, _, h, Rd.eK h2.1 h2.2, fun w' => run_build w' t vparts vs' ?_⟩
     unfold Program.built
     simp only [hinf, hu, hz, hpl]
     simpa using h1
    ·cases h
   ·cases h
  ·rename_i n e hfs
   have hu := kO hi hfs
   split at h
   ·rename_i ie hie
    obtain ⟨infe, hinfe, hse⟩ := cV (hT.ok _ _ hie)
    split at h
    ·rename_i cs hcs
     obtain ⟨vs', h1, h2⟩ := eO (fun j => some (j * ie.size, ie.size)) parts vparts.toList _ cs _ hcs (jL hi) hm hp
     refine ⟨_, _, h, Rd.eK h2.1 h2.2, fun w' => run_build w' t vparts vs' ?_⟩
     unfold Program.built
     simp only [hinf, hu, hz, hinfe, hse]
     exact h1
    ·cases h
   ·cases h
  ·cases h
 ·cases h
theorem cS (mx : Bool) : ∀ (r : List AV) (x : AV) (vx : Value) (vr : List Value) (k : AV -> Prop), ct mx x r k -> Rd P H m S w x vx -> vr.length = r.length -> (∀ j a, r[j]? = some a -> Rd P H m S w a (vr.getD j undef)) ->
  ∃ av v, k av /\ Rd P H m S w av v /\ ∀ w' : World, (vr.foldlM (if mx then Builtin.max2 else Builtin.min2) vx).run P w' = .ok v w'
 | [], x, vx, vr, k, h, hx, hl, _ => by
  have : vr = [] := List.eq_nil_of_length_eq_zero (by simpa using hl)
  subst this
  have h' : k x := by unfold ct at h; exact h
  exact ⟨x, vx, h', hx, fun w' => by simp⟩
 | y :: r, x, vx, [], k, h, hx, hl, _ => by simp at hl
 | y :: r, x, vx, v :: vr, k, h, hx, hl, hr => by
  unfold ct at h
  split at h
  ·rename_i h1; cases h1
  ·rename_i h1
   injection h1 with e1 e2
   subst e1; subst e2
   split at h
   ·rename_i hk
    obtain rfl := ny hk
    obtain ⟨rfl, _⟩ := hx.pv
    have hy := hr 0 _ rfl
    obtain ⟨rfl, _⟩ := Rd.pv (by simpa using hy)
    split at h
    ·obtain ⟨av, v, h2, h3, h4⟩ := cS true _ _ _ vr _ h (Rd.mk rfl) (by simpa using hl) (fun j a hj => by simpa using hr (j + 1) a (by simpa using hj))
     exact ⟨av, v, h2, h3, fun w' => by simpa [List.foldlM_cons, Builtin.max2] using h4 w'⟩
    ·obtain ⟨av, v, h2, h3, h4⟩ := cS false _ _ _ vr _ h (Rd.mk rfl) (by simpa using hl) (fun j a hj => by simpa using hr (j + 1) a (by simpa using hj))
     exact ⟨av, v, h2, h3, fun w' => by simpa [List.foldlM_cons, Builtin.min2] using h4 w'⟩
   ·cases h
  ·cases h
end
end Go.Abs
namespace Go.Abs
open Go.RowKit
def pR (key : Value) (es : List (Value × Value)) : Option Value -> Prop
 | none => ∀ e ∈ es, e.1 ≠ key
 | some v => (∃ e ∈ es, e.1 = key) /\ ∀ e ∈ es, e.1 = key -> e.2 = v
theorem find_spec {d : TypeDesc} {key : Value} (hk : MapKept.IsKey d key) {ents : Array MapEntry} {es : List (Value × Value)} (he : ents.toList.map (fun e => (e.key, e.val)) = es) (hall : ∀ e ∈ es, MapKept.IsKey d e.1) {r : Option Value} (hr : pR key es r) :
  (r = none /\ Instr.findNow d key ents.toList 0 = some none) \/ ∃ v j, r = some v /\ Instr.findNow d key ents.toList 0 = some (some (j, v)) := by
 have hm : ∀ x ∈ ents.toList, (x.key, x.val) ∈ es := fun x hx => by rw [<- he]; exact List.mem_map_of_mem hx
 rcases MapKept.findNow_spec hk ents.toList 0 (fun x hx => hall _ (hm x hx)) with ⟨h1, h2⟩ | ⟨j, e, h1, h2, h3⟩
 ·cases r with
  | none => exact .inl ⟨rfl, h1⟩
  | some v =>
   obtain ⟨⟨e, hm2, hek⟩, _⟩ := hr
   rw [<- he] at hm2
   obtain ⟨x, hx, rfl⟩ := List.mem_map.1 hm2
   exact absurd hek (h2 x hx)
 ·have hm3 := hm e (List.mem_of_getElem? h2)
  cases r with
  | none => exact absurd h3 (hr _ hm3)
  | some v =>
   have hv : e.val = v := hr.2 _ hm3 h3
   exact .inr ⟨v, _, rfl, by rw [h1, hv]⟩
theorem nD {P : Program} {w : World} {t kt et : TypeId} {d : TypeDesc} {b c : Nat} {ents : Array MapEntry} {es : List (Value × Value)} {key z : Value} {r : Option Value} (ht : P.underlying t = some (.map kt et)) (hkt : P.underlying kt = some d) (hz : (zeroValue et).run P w = .ok z w)
  (hb : w.heap[b]? = some (.map ents c)) (hk : MapKept.IsKey d key) (he : ents.toList.map (fun e => (e.key, e.val)) = es) (hall : ∀ e ∈ es, MapKept.IsKey d e.1) (hr : pR key es r) (ok : Bool) :
  (Instr.lookup t (.map (some b)) key ok).run P w = .ok (if ok then .tuple #[r.getD z, .bool r.isSome] else r.getD z) w := by
 rcases find_spec hk he hall hr with ⟨rfl, h1⟩ | ⟨v, j, rfl, h1⟩
 ·cases ok <;> simp [Instr.lookup, run_underlying ht, MapKept.run_getObj_map hb, MapKept.run_checkKey hkt hk, MapKept.run_findKey hkt h1, hz, Result.andThen]
 ·cases ok <;> simp [Instr.lookup, run_underlying ht, MapKept.run_getObj_map hb, MapKept.run_checkKey hkt hk, MapKept.run_findKey hkt h1, Result.andThen]
section
variable {P : Program} {ti : TypeId -> Option TI} {H : AH} {m : Nat -> Value} {S : Nat -> Prop} {w : World}
theorem q_ {t : TypeId} {i : TI} {kt et : TypeId} (hi : cA P t = some i) (hk : i.k = .map kt et) : P.underlying t = some (.map kt et) := by
 obtain ⟨inf, d, _, hd, _, _, _, hkd, _⟩ := aE hi
 rw [hk] at hkd
 cases d <;> simp [kindOf] at hkd
 obtain ⟨rfl, rfl⟩ := hkd
 exact hd
end
end Go.Abs
namespace Go.Abs
open Go.RowKit
structure AS where
 fr : Nat -> AV
 h : AH
def AS.ev (σ : AS) : Operand -> AV
 | .tmp t => σ.fr t
 | .const v => match v.oneCell' with
  | true => .p (cX v)
  | false => .dead
 | .global g => match gl g with
  | some cs => .aN cs
  | none => .dead
 | .func f => .clo (.func f) []
def qC (t : Bool) (x y : AV) (k : AV -> Prop) : Prop := match x, y with
 | .p (.v (.bool a)), .p (.v (.bool b)) => k (.p (.v (.bool (cond t a b))))
 | x, y => br t (k x) (k y)
def vH (ti : TypeId -> Option TI) (t : TypeId) (x : AV) (k : AV -> Prop) : Prop := match x with
 | .p (.list true []) => match ti t with
  | some ⟨.sl _, _, _, _⟩ => k (.p (.v (.int .i64 0)))
  | _ => False
 | _ => False
def wpQ (ti : TypeId -> Option TI) (σ : AS) (op : Op) (k : AV -> Prop) : Prop := match op with
 | .move x => k (σ.ev x)
 | .assign x => k (σ.ev x)
 | .pick c a b => match σ.ev c with
  | .p (.v (.bool t)) => qC t (σ.ev a) (σ.ev b) k
  | _ => False
 | .load t a => de ti σ.h t (σ.ev a) k
 | .nilCheck x => match σ.ev x with
  | .ptr id o => k (.ptr id o)
  | .bp id i o => k (.bp id i o)
  | .bN id o => k (.bN id o)
  | .aN cs => k (.aN cs)
  | .clo fn caps => k (.clo fn caps)
  | _ => False
 | .binOp op t x y _ => su ti σ.h op t (σ.ev x) (σ.ev y) k
 | .unOp op _ x => yZ op (σ.ev x) k
 | .convert s d x => jn ti s d (σ.ev x) k
 | .fieldAddr s x f => dA ti s (σ.ev x) f k
 | .field s x f => jS ti s (σ.ev x) f k
 | .indexAddr t x i => dz ti σ.h t (σ.ev x) (σ.ev i) k
 | .index t x i => jQ ti t (σ.ev x) (σ.ev i) k
 | .slice t x lo hi mx => dn ti σ.h t (σ.ev x) (lo.map σ.ev) (hi.map σ.ev) (mx.map σ.ev) k
 | .extract x i => match σ.ev x with
  | .tup xs => match xs[i]? with
   | some y => k y
   | none => False
  | _ => False
 | .build t parts => jU ti t (parts.toList.map fun p => (p.1, σ.ev p.2)) k
 | .makeFunc fn first caps => match first.toList with
  | [] => k (.clo fn (caps.toList.map σ.ev))
  | _ => False
 | .call c => match c.callee with
  | .builtin .len => match c.args.toList, c.argTypes.toList with
   | [x], [t] => sq ti σ.h t (σ.ev x) k
   | _, _ => False
  | .builtin .cap => match c.args.toList, c.argTypes.toList with
   | [x], [t] => vH ti t (σ.ev x) k
   | _, _ => False
  | .builtin .max => match c.args.toList with
   | x :: r => ct true (σ.ev x) (r.map σ.ev) k
   | _ => False
  | .builtin .min => match c.args.toList with
   | x :: r => ct false (σ.ev x) (r.map σ.ev) k
   | _ => False
  | _ => False
 | _ => False
section
variable {P : Program} {ti : TypeId -> Option TI} {m : Nat -> Value} {S : Nat -> Prop} {w : World} {σ : AS} {a : Act}
theorem bZ (hG : Glb S w) (hf : ∀ t, Rd P σ.h m S w (σ.fr t) (a.tmps.getD t undef)) (x : Operand) : Rd P σ.h m S w (σ.ev x) (a.eval x) := by
 cases x with
 | tmp t => exact hf t
 | const v =>
  simp only [AS.ev, Act.eval]
  split
  ·rename_i ho
   refine .p _ _ ?_
   unfold cX
   split
   ·exact .nil
   ·exact .v _ ho
  ·exact .dead _
 | global g =>
  simp only [AS.ev, Act.eval]
  split
  ·rename_i cs hg
   obtain ⟨h1, us, h2, h3⟩ := hG g cs hg
   exact .aN cs _ us h1 h2 h3
  ·exact .dead _
 | func f => exact .clo _ _ _ rfl (by simp)
theorem jv (hG : Glb S w) (hf : ∀ t, Rd P σ.h m S w (σ.fr t) (a.tmps.getD t undef)) (x : Option Operand) : x.map σ.ev = none /\ x.map a.eval = none \/ ∃ b v, x.map σ.ev = some b /\ x.map a.eval = some v /\ Rd P σ.h m S w b v := by
 cases x with
 | none => exact .inl ⟨rfl, rfl⟩
 | some x => exact .inr ⟨_, _, rfl, rfl, bZ hG hf x⟩
theorem iH (hG : Glb S w) (hf : ∀ t, Rd P σ.h m S w (σ.fr t) (a.tmps.getD t undef)) (l : List Operand) : ∀ j b, (l.map σ.ev)[j]? = some b -> Rd P σ.h m S w b ((l.map a.eval).getD j undef) := by
 intro j b hj
 simp only [List.getElem?_map, Option.map_eq_some_iff] at hj
 obtain ⟨x, hx, rfl⟩ := hj
 have : (l.map a.eval).getD j undef = a.eval x := by simp [hx]
 rw [this]
 exact bZ hG hf x
def ri : Op -> Bool
 | .load _ _ => true
 | _ => false
theorem jj (hT : aK P ti) (hp : Hp P σ.h m S w) (hf : ∀ t, Rd P σ.h m S w (σ.fr t) (a.tmps.getD t undef)) {o : Oper} {k : AV -> Prop} (h : wpQ ti σ o.op k) :
  ∃ av v, k av /\ Rd P σ.h m S w av v /\ ∀ w', (ri o.op = true -> Ag w w') -> (execOp a.eval o).run P w' = .ok (.value v) w' := by
 have E := fun x => bZ (P := P) hp.glb hf x
 generalize ho : o.op = op at h
 unfold wpQ at h
 split at h
 ·exact ⟨_, _, h, E _, fun w' _ => by simp [execOp, ho]⟩
 ·exact ⟨_, _, h, E _, fun w' _ => by simp [execOp, ho]⟩
 ·rename_i c x y
  split at h
  ·rename_i t hc
   have h1 := E c
   rw [hc] at h1
   have hv := h1.pv.1
   unfold qC at h
   split at h
   ·rename_i b1 b2 hx hy
    have hx1 := E x
    have hy1 := E y
    rw [hx] at hx1; rw [hy] at hy1
    refine ⟨_, _, h, Rd.mk rfl, fun w' _ => ?_⟩
    cases t <;> simp [execOp, ho, hv, asBool, hx1.pv.1, hy1.pv.1]
   ·cases t
    ·exact ⟨_, _, h, E _, fun w' _ => by simp [execOp, ho, hv, asBool]⟩
    ·exact ⟨_, _, h, E _, fun w' _ => by simp [execOp, ho, hv, asBool]⟩
  ·cases h
 ·obtain ⟨av, v, h1, h2, h3⟩ := jO hT hp h (E _)
  exact ⟨av, v, h1, h2, fun w' hw => by simp [execOp, ho, h3 w' (hw rfl)]⟩
 ·rename_i x
  split at h
  ·rename_i hx
   have h1 := E x
   rw [hx] at h1
   generalize hv : a.eval x = v at h1
   cases h1 with
   | ptr _ _ ad hid hb => exact ⟨_, _, h, .ptr _ _ _ hid hb, fun w' _ => by simp [execOp, ho, hv]⟩
  ·rename_i hx
   have h1 := E x
   rw [hx] at h1
   generalize hv : a.eval x = v at h1
   cases h1 with
   | bp _ _ _ ad hid hb => exact ⟨_, _, h, .bp _ _ _ _ hid hb, fun w' _ => by simp [execOp, ho, hv]⟩
  ·rename_i hx
   have h1 := E x
   rw [hx] at h1
   generalize hv : a.eval x = v at h1
   cases h1 with
   | bN _ _ ad hid hb => exact ⟨_, _, h, .bN _ _ _ hid hb, fun w' _ => by simp [execOp, ho, hv]⟩
  ·rename_i hx
   have h1 := E x
   rw [hx] at h1
   generalize hv : a.eval x = v at h1
   cases h1 with
   | aN _ ad us hS hu hr => exact ⟨_, _, h, .aN _ _ us hS hu hr, fun w' _ => by simp [execOp, ho, hv]⟩
  ·rename_i fn caps hx
   have h1 := E x
   rw [hx] at h1
   generalize hv : a.eval x = v at h1
   cases h1 with
   | clo _ _ vs hl hr => exact ⟨_, _, h, .clo _ _ _ hl hr, fun w' _ => by cases fn <;> simp [execOp, ho, hv]⟩
  ·cases h
 ·obtain ⟨av, v, h1, h2, h3⟩ := sr hT hp h (E _) (E _)
  exact ⟨av, v, h1, h2, fun w' _ => by have := h3 w'; simp only [execOp, ho]; rw [Sem.run_bind, this]; simp⟩
 ·obtain ⟨av, v, h1, h2, h3⟩ := ue h (E _)
  exact ⟨av, v, h1, h2, fun w' _ => by simp [execOp, ho, h3 w']⟩
 ·obtain ⟨av, v, h1, h2, h3⟩ := fS hT h (E _)
  exact ⟨av, v, h1, h2, fun w' _ => by simp [execOp, ho, h3 w']⟩
 ·obtain ⟨av, v, h1, h2, h3⟩ := jR hT hp h (E _)
  exact ⟨av, v, h1, h2, fun w' _ => by simp [execOp, ho, h3 w' trivial]⟩
 ·obtain ⟨av, v, h1, h2, h3⟩ := o8 hT h (E _)
  exact ⟨av, v, h1, h2, fun w' _ => by simp [execOp, ho, h3 w']⟩
 ·obtain ⟨av, v, h1, h2, h3⟩ := jP hT hp h (E _) (E _)
  exact ⟨av, v, h1, h2, fun w' _ => by simp [execOp, ho, h3 w' trivial]⟩
 ·obtain ⟨av, v, h1, h2, h3⟩ := o7 hT h (E _) (E _)
  exact ⟨av, v, h1, h2, fun w' _ => by simp [execOp, ho, h3 w']⟩
 ·rename_i t x lo hi mx
  obtain ⟨av, v, h1, h2, h3⟩ := iQ hT hp h (E _) (jv hp.glb hf lo) (jv hp.glb hf hi) (vmx := mx.map a.eval) (by cases mx <;> simp)
  exact ⟨av, v, h1, h2, fun w' _ => by simp [execOp, ho, h3 w']⟩
 ·rename_i x i
  split at h
  ·rename_i xs hx
   have h1 := E x
   rw [hx] at h1
   split at h
   ·rename_i y hy
    generalize hv : a.eval x = v at h1
    cases h1 with
    | tup _ vs hl hr =>
     have hlt : i < vs.size := by rw [hl]; exact (List.getElem?_eq_some_iff.1 hy).1
     have h2 := hr i y hy
     refine ⟨_, _, h, h2, fun w' _ => ?_⟩
     simp [execOp, ho, hv, Instr.extract, hlt, Array.getD]
   ·cases h
  ·cases h
 ·rename_i t parts
  obtain ⟨av, v, h1, h2, h3⟩ := pf (vparts := parts.map fun (i, x) => (i, a.eval x)) hT h (by simp [List.map_map, Function.comp_def]) (fun k p hk => by
   simp only [List.getElem?_map, Option.map_eq_some_iff] at hk
   obtain ⟨q, hq, rfl⟩ := hk
   exact ⟨a.eval q.2, by simpa using ⟨q.1, q.2, by simpa using hq, rfl, rfl⟩, E _⟩)
  exact ⟨av, v, h1, h2, fun w' _ => by simp only [execOp, ho]; rw [Sem.run_bind, h3 w']; simp⟩
 ·rename_i fn first caps
  split at h
  ·rename_i hfi
   have hfi' : first = #[] := by cases first; simpa using hfi
   refine ⟨_, _, h, .clo fn _ (caps.map a.eval) (by simp) (fun j b hj => ?_), fun w' _ => ?_⟩
   ·have := iH (P := P) hp.glb hf caps.toList j b hj
    have e : (caps.map a.eval).getD j undef = (caps.toList.map a.eval).getD j undef := by simp [Array.getD_eq_getD_getElem?]
    rw [e]
    exact this
   ·simp [execOp, ho, Instr.makeFunc, hfi']
  ·cases h
 ·rename_i c
  obtain ⟨callee, args, ats⟩ := c
  obtain ⟨args⟩ := args
  obtain ⟨ats⟩ := ats
  simp only at h
  split at h
  ·split at h
   ·rename_i x t
    obtain ⟨av, v, h1, h2, h3⟩ := sn hT hp h (E _) o.type
    exact ⟨av, v, h1, h2, fun w' _ => by simp [execOp, ho, resolve, invoke, builtin, h3 w' trivial]⟩
   ·cases h
  ·split at h
   ·rename_i x t
    unfold vH at h
    split at h
    ·rename_i hx
     split at h
     ·rename_i e _ _ _ hti
      have hu := bF (hT.ok _ _ hti) rfl
      have hE := E x
      rw [hx] at hE
      have hv : a.eval x = .slice none 0 0 := by
       generalize a.eval x = v at hE
       cases hE with
       | p _ _ h => cases h with
        | nil => rfl
      exact ⟨_, _, h, .p _ _ (.v _ rfl), fun w' _ => by simp [execOp, ho, resolve, invoke, builtin, Builtin.cap_, run_underlying hu, hv, goInt]⟩
     ·cases h
    ·cases h
   ·cases h
  ·split at h
   ·rename_i x r
    obtain ⟨av, v, h1, h2, h3⟩ := cS true _ _ _ (r.map a.eval) _ h (E _) (by simp) (iH hp.glb hf r)
    exact ⟨av, v, h1, h2, fun w' _ => by have := h3 w'; simp only [if_true] at this; simp [execOp, ho, resolve, invoke, builtin, Builtin.max_, this]⟩
   ·cases h
  ·split at h
   ·rename_i x r
    obtain ⟨av, v, h1, h2, h3⟩ := cS false _ _ _ (r.map a.eval) _ h (E _) (by simp) (iH hp.glb hf r)
    exact ⟨av, v, h1, h2, fun w' _ => by have := h3 w'; simp only [Bool.false_eq_true, if_false] at this; simp [execOp, ho, resolve, invoke, builtin, Builtin.min_, this]⟩
   ·cases h
  ·cases h
 ·cases h
theorem eg (hT : aK P ti) (hp : Hp P σ.h m S w) (hf : ∀ t, Rd P σ.h m S w (σ.fr t) (a.tmps.getD t undef)) {o : Oper} {k : AV -> Prop} (h : wpQ ti σ o.op k) :
  ∃ av v, k av /\ Rd P σ.h m S w av v /\ ∀ w', Ag w w' -> (execOp a.eval o).run P w' = .ok (.value v) w' := by
 obtain ⟨av, v, h1, h2, h3⟩ := jj hT hp hf h
 exact ⟨av, v, h1, h2, fun w' hw => h3 w' fun _ => hw⟩
end
end Go.Abs
