/- Pinouts: owners of pins. -/
import Derived.Test.Ytnogpkaehiapfaapin6
namespace Go.Proofs.Ytnogpkaehiapfaa
set_option linter.unusedSimpArgs false
set_option linter.unusedVariables false
set_option linter.unnecessarySimpa false
open Go.Abs
set_option maxRecDepth 100000
structure Us where
  g : Int
  f : Int
  deriving DecidableEq
instance : Inhabited Us := ⟨⟨0, 0⟩⟩
def Us.pv (u : Us) : PV := .agg [.v (.int .i64 u.g), .v (.int .i64 u.f)]
/-- The pins get an owner, if they have none. -/
def setOwn (v : Int) : List Int → List Int → Option (List Int)
  | [], o => some o
  | x :: r, o => if o.getD x.toNat (-1) ≠ -1 then none else setOwn v r (o.set x.toNat v)
def badU (gs : List Grp) (u : Us) : Prop := u.g < 0 ∨ (gs.length : Int) ≤ u.g ∨ u.f < 0 ∨ ((gs.getD u.g.toNat default).funs.length : Int) ≤ u.f
instance (gs : List Grp) (u : Us) : Decidable (badU gs u) := by unfold badU; infer_instance
def ownG (gs : List Grp) : List Us → List Int → List Int → List Int × Int
  | [], _, o => (o, 0)
  | u :: r, seen, o => if badU gs u then ([], 2) else if u.g ∈ seen then ([], 5) else match setOwn u.g (gs.getD u.g.toNat default).pins o with
    | none => ([], 40)
    | some o' => ownG gs r (seen ++ [u.g]) o'
def ownersF (p : Pin) (us : List Us) : List Int × Int := if validP p = 0 then ownG p.gs us [] (List.replicate p.n.toNat (-1)) else ([], 1)
def z64 : List Int := List.replicate 64 0
theorem z64_len : (z64.map pI).length = 64 := by simp [z64]
theorem cellS_int {xs : List Int} {off : Nat} {k : List PV → Prop} (n : Nat) (v : Int) (hn : off = n) (h : n < xs.length) (hk : k ((xs.set n v).map pI)) : CellS (xs.map pI) off (pI v) k := .mk n _ hn (by rwa [List.length_map]) (by rw [List.map_set]) hk
theorem cellX_int {xs : List Int} {off : Nat} {k : PV → Prop} (n : Nat) (v : Int) (hn : off = n) (h : xs[n]? = some v) (hk : k (pI v)) : CellX (xs.map pI) off k := .mk n _ hn (by rw [List.getElem?_map, h]; rfl) hk
/-- What the table holds. -/
structure Tab (p : Pin) (T o : List Int) : Prop where
  eq : T = o ++ List.replicate (64 - p.n.toNat) (-1)
  len : o.length = p.n.toNat
  ge : ∀ x ∈ o, -1 ≤ x
theorem Tab.tlen {p : Pin} {T o : List Int} (h : Tab p T o) (hn : 0 ≤ p.n ∧ p.n ≤ 64) : T.length = 64 := by
  rw [h.eq, List.length_append, h.len, List.length_replicate]; omega
theorem Tab.at_ {p : Pin} {T o : List Int} (h : Tab p T o) {k : Nat} (hk : (k : Int) < p.n) : T[k]? = some (o.getD k (-1)) ∧ -1 ≤ o.getD k (-1) := by
  have hl := h.len
  have hk2 : k < o.length := by omega
  have e : o.getD k (-1) = o[k] := by rw [List.getD_eq_getElem?_getD, List.getElem?_eq_getElem hk2]; rfl
  rw [e, h.eq, List.getElem?_append_left hk2, List.getElem?_eq_getElem hk2]
  exact ⟨rfl, h.ge _ (List.getElem_mem _)⟩
theorem Tab.set {p : Pin} {T o : List Int} (h : Tab p T o) {k : Nat} (hk : (k : Int) < p.n) {v : Int} (hv : 0 ≤ v) : Tab p (T.set k v) (o.set k v) := by
  have hl := h.len
  refine ⟨by rw [h.eq, List.set_append_left _ _ (by omega)], by rw [List.length_set, hl], fun x hx => ?_⟩
  rcases List.mem_or_eq_of_mem_set hx with hx | rfl
  · exact h.ge x hx
  · omega
theorem Tab.init {p : Pin} (hn : 0 ≤ p.n ∧ p.n ≤ 64) : Tab p (List.replicate 64 (-1)) (List.replicate p.n.toNat (-1)) := by
  refine ⟨?_, by simp, fun x hx => by rw [List.eq_of_mem_replicate hx]; exact Int.le_refl _⟩
  rw [List.replicate_append_replicate]; congr 1; omega
theorem fill_next {c : Nat} (h : c < 64) : (List.replicate c (-1 : Int) ++ List.replicate (64 - c) 0).set c (-1) = List.replicate (c + 1) (-1) ++ List.replicate (64 - (c + 1)) 0 := by
  rw [List.set_append_right _ _ (by simp)]
  have e : 64 - c = 64 - (c + 1) + 1 := by omega
  simp only [List.length_replicate, Nat.sub_self]
  rw [e, List.replicate_succ, List.set_cons_zero, List.replicate_succ', List.append_assoc]; rfl
/-- The groups that are used. -/
def Used (b : List Bool) (n : Nat) (seen : List Int) : Prop := b.length = n ∧ ∀ i, i < n → b[i]? = some (decide ((i : Int) ∈ seen))
theorem Used.next {b : List Bool} {n : Nat} {seen : List Int} (h : Used b n seen) {k : Nat} (hk : k < n) : Used (b.set k true) n (seen ++ [(k : Int)]) := by
  refine ⟨by rw [List.length_set]; exact h.1, fun i hi => ?_⟩
  rcases Decidable.em (k = i) with e | e
  · subst e
    rw [List.getElem?_set_self (by rw [h.1]; exact hk), decide_eq_true (List.mem_append_right _ (List.mem_singleton.2 rfl))]
  · rw [List.getElem?_set_ne e, h.2 i hi]
    congr 1
    refine decide_eq_decide.2 ⟨fun hm => List.mem_append_left _ hm, fun hm => ?_⟩
    rcases List.mem_append.1 hm with hm | hm
    · exact hm
    · have := List.mem_singleton.1 hm; omega
/-- The table and the error. -/
def OwnK (p : Pin) (us : List Us) (r : AV) (H : AH) : Prop := ∃ T : List Int, T.length = 64 ∧ r = .tup [.p (.agg (T.map pI)), .p (pI (ownersF p us).2)] ∧ H = [] ∧ ((ownersF p us).2 = 0 → T.take p.n.toNat = (ownersF p us).1 ∧ (ownersF p us).1.length = p.n.toNat)
end Go.Proofs.Ytnogpkaehiapfaa
