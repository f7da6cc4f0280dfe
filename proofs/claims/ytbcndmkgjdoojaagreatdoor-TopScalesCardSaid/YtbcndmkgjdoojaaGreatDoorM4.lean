/- Whatever the list of numbers, TopScales returns true, and its argument reads as it did; its package variables are tied to the program's text. Part 4 of 7. -/
import Derived.Test.YtbcndmkgjdoojaaGreatDoorM3
import Derived.Lib.Bytealg
set_option linter.unusedVariables false
set_option linter.unusedSimpArgs false
namespace Go.Abs
open Go.RowKit

/-! ### Equality -/
theorem sameK_eq' {a b : IntKind} (h : sameK a b = true) : a = b := by cases a <;> cases b <;> first | rfl | cases h
def eqV : Value → Value → Bool
  | .int k a, .int k' b => sameK k k' && a == b
  | .bool a, .bool b => a == b
  | .string a, .string b => a.data.toList == b.data.toList
  | .slice none 0 0, .slice none 0 0 => true
  | _, _ => false
theorem eqV_eq {a b : Value} (h : eqV a b = true) : a = b := by
  unfold eqV at h
  split at h
  · simp only [Bool.and_eq_true, beq_iff_eq] at h
    rw [sameK_eq' h.1, h.2]
  · rw [eq_of_beq h]
  · rename_i x y
    have := eq_of_beq h
    congr 1
    cases x; cases y; congr 1
    exact Array.toList_inj.1 this
  · rfl
  · cases h
mutual
def eqP : PV → PV → Bool
  | .v a, .v b => eqV a b
  | .list n xs, .list m ys => (n == m) && eqPL xs ys
  | .agg xs, .agg ys => eqPL xs ys
  | _, _ => false
def eqPL : List PV → List PV → Bool
  | [], [] => true
  | x :: xs, y :: ys => eqP x y && eqPL xs ys
  | _, _ => false
end
mutual
theorem eqP_eq : ∀ {a b : PV}, eqP a b = true → a = b
  | .v a, .v b, h => by rw [eqV_eq h]
  | .list n xs, .list m ys, h => by
    simp only [eqP, Bool.and_eq_true, beq_iff_eq] at h
    rw [h.1, eqPL_eq h.2]
  | .agg xs, .agg ys, h => by rw [eqPL_eq (show eqPL xs ys = true from h)]
  | .v _, .list _ _, h => by cases h
  | .v _, .agg _, h => by cases h
  | .list _ _, .v _, h => by cases h
  | .list _ _, .agg _, h => by cases h
  | .agg _, .v _, h => by cases h
  | .agg _, .list _ _, h => by cases h
theorem eqPL_eq : ∀ {a b : List PV}, eqPL a b = true → a = b
  | [], [], _ => rfl
  | x :: xs, y :: ys, h => by
    simp only [eqPL, Bool.and_eq_true] at h
    rw [eqP_eq h.1, eqPL_eq h.2]
  | [], _ :: _, h => by cases h
  | _ :: _, [], h => by cases h
end
def eqFn : Fn → Fn → Bool
  | .func f, .func g => Nat.beq f g
  | _, _ => false
theorem eqFn_eq {a b : Fn} (h : eqFn a b = true) : a = b := by
  unfold eqFn at h
  split at h
  · rw [Nat.eq_of_beq_eq_true h]
  · cases h
mutual
def eqA : AV → AV → Bool
  | .p x, .p y => eqP x y
  | .ptr i o, .ptr j q => Nat.beq i j && Nat.beq o q
  | .buf i, .buf j => Nat.beq i j
  | .sub i a b, .sub j c d => Nat.beq i j && (Nat.beq a c && Nat.beq b d)
  | .bptr i a b, .bptr j c d => Nat.beq i j && (Nat.beq a c && Nat.beq b d)
  | .rptr xs, .rptr ys => eqPL xs ys
  | .agg xs, .agg ys => eqAL xs ys
  | .tup xs, .tup ys => eqAL xs ys
  | .clo f xs, .clo g ys => eqFn f g && eqAL xs ys
  | .mp i, .mp j => Nat.beq i j
  | .cap n xs, .cap m ys => (n == m) && eqPL xs ys
  | .dead, .dead => true
  | _, _ => false
def eqAL : List AV → List AV → Bool
  | [], [] => true
  | x :: xs, y :: ys => eqA x y && eqAL xs ys
  | _, _ => false
end
mutual
theorem eqA_eq : ∀ {a b : AV}, eqA a b = true → a = b
  | .p x, b, h => by cases b <;> first | (cases h; done) | (simp only [eqA] at h; rw [eqP_eq h])
  | .ptr i o, b, h => by cases b <;> first | (cases h; done) | (simp only [eqA, Bool.and_eq_true] at h; rw [Nat.eq_of_beq_eq_true h.1, Nat.eq_of_beq_eq_true h.2])
  | .buf i, b, h => by cases b <;> first | (cases h; done) | (simp only [eqA] at h; rw [Nat.eq_of_beq_eq_true h])
  | .sub i _ _, b, h => by cases b <;> first | (cases h; done) | (simp only [eqA, Bool.and_eq_true] at h; rw [Nat.eq_of_beq_eq_true h.1, Nat.eq_of_beq_eq_true h.2.1, Nat.eq_of_beq_eq_true h.2.2])
  | .bptr i _ _, b, h => by cases b <;> first | (cases h; done) | (simp only [eqA, Bool.and_eq_true] at h; rw [Nat.eq_of_beq_eq_true h.1, Nat.eq_of_beq_eq_true h.2.1, Nat.eq_of_beq_eq_true h.2.2])
  | .rptr xs, b, h => by cases b <;> first | (cases h; done) | (simp only [eqA] at h; rw [eqPL_eq h])
  | .agg xs, b, h => by
    cases b with
    | agg ys => rw [eqAL_eq (show eqAL xs ys = true from h)]
    | _ => cases h
  | .tup xs, b, h => by
    cases b with
    | tup ys => rw [eqAL_eq (show eqAL xs ys = true from h)]
    | _ => cases h
  | .clo f xs, b, h => by
    cases b with
    | clo g ys =>
      simp only [eqA, Bool.and_eq_true] at h
      rw [eqFn_eq h.1, eqAL_eq h.2]
    | _ => cases h
  | .mp i, b, h => by cases b <;> first | (cases h; done) | (simp only [eqA] at h; rw [Nat.eq_of_beq_eq_true h])
  | .cap n xs, b, h => by cases b <;> first | (cases h; done) | (simp only [eqA, Bool.and_eq_true, beq_iff_eq] at h; rw [h.1, eqPL_eq h.2])
  | .dead, b, h => by cases b <;> first | (cases h; done) | rfl
theorem eqAL_eq : ∀ {a b : List AV}, eqAL a b = true → a = b
  | [], [], _ => rfl
  | x :: xs, y :: ys, h => by
    simp only [eqAL, Bool.and_eq_true] at h
    rw [eqA_eq h.1, eqAL_eq h.2]
  | [], _ :: _, h => by cases h
  | _ :: _, [], h => by cases h
end
end Go.Abs
namespace Go.Abs
open Go.RowKit

/-! ### Operations -/
section
variable {ti : TypeId → Option TI} {H : AH}
def evIdx {α : Type} (xs : List α) (i : Int) : Option α := match i with
  | .ofNat n => xs[n]?
  | .negSucc _ => none
theorem evIdx_some {α : Type} {xs : List α} {i : Int} {x : α} (h : evIdx xs i = some x) : 0 ≤ i ∧ xs[i.toNat]? = some x := by
  unfold evIdx at h
  split at h
  · exact ⟨Int.natCast_nonneg _, h⟩
  · cases h
def evRd (i : TI) (cs : List PV) : Option AV := match i.k.isAgg with
  | true => match Nat.ble i.size cs.length with
    | true => some (.p (.agg (cs.take i.size)))
    | false => none
  | false => match cs with
    | c :: _ => some (.p c)
    | [] => none
theorem evRd_sound {i : TI} {cs : List PV} {v : AV} {k : AV → Prop} (h : evRd i cs = some v) (hk : k v) : rdCells i cs k := by
  unfold evRd at h; unfold rdCells
  split at h
  · rename_i ha
    simp only [ha]
    split at h
    · rename_i hb
      simp only [hb]
      injection h with h; subst h; exact hk
    · cases h
  · rename_i ha
    simp only [ha]
    split at h
    · injection h with h; subst h; exact hk
    · cases h
def evTake (i : TI) (cs : List AV) (off : Nat) : Option AV := match i.k.isAgg with
  | true => match Nat.ble (off + i.size) cs.length with
    | true => some (mkAgg ((cs.drop off).take i.size))
    | false => none
  | false => cs[off]?
theorem evTake_sound {i : TI} {cs : List AV} {off : Nat} {v : AV} {k : AV → Prop} (h : evTake i cs off = some v) (hk : k v) : takeV i cs off k := by
  unfold evTake at h; unfold takeV
  split at h
  · rename_i ha
    simp only [ha]
    split at h
    · rename_i hb
      simp only [hb]
      injection h with h; subst h; exact hk
    · cases h
  · rename_i ha
    simp only [ha, h]
    exact hk
def evLoad (ti : TypeId → Option TI) (H : AH) (t : TypeId) (x : AV) : Option AV := match ti t with
  | none => none
  | some i => match x with
    | .rptr cs => evRd i cs
    | .ptr id off => match H[id]? with
      | some (some (.cells cs)) => evTake i cs off
      | some (some (.arr xs)) => match i.k.isAgg with
        | false => match xs[off]? with
          | some y => some (.p y)
          | none => none
        | true => none
      | _ => none
    | .bptr id ix off => match H[id]? with
      | some (some (.buf _ _ xs)) => match xs[ix]? with
        | some y => evRd i (y.cells.drop off)
        | none => none
      | _ => none
    | _ => none
theorem evLoad_sound {t : TypeId} {x v : AV} {k : AV → Prop} (h : evLoad ti H t x = some v) (hk : k v) : wpLoad ti H t x k := by
  unfold evLoad at h; unfold wpLoad
  split at h
  · cases h
  · rename_i i hi
    simp only [hi]
    split at h
    · exact evRd_sound h hk
    · rename_i id off
      split at h
      · rename_i cs hc
        simp only [hc]
        exact evTake_sound h hk
      · rename_i xs hc
        simp only [hc]
        split at h
        · rename_i ha
          simp only [ha]
          split at h
          · rename_i y hy
            injection h with h; subst h
            exact ⟨off, y, rfl, hy, hk⟩
          · cases h
        · cases h
      · cases h
    · rename_i id ix off
      split at h
      · rename_i e nl xs hc
        simp only [hc]
        split at h
        · rename_i y hy
          exact ⟨y, Int.natCast_nonneg _, hy, evRd_sound h hk⟩
        · cases h
      · cases h
    · cases h
def evFieldAddr (ti : TypeId → Option TI) (s : TypeId) (x : AV) (f : Nat) : Option AV := match ti s with
  | some ⟨.st fs, _, _, _⟩ => match fs[f]? with
    | some (ft, off) => match ti ft with
      | some ⟨_, _ + 1, _, _⟩ => match x with
        | .ptr id o => some (.ptr id (o + off))
        | .bptr id ix o => some (.bptr id ix (o + off))
        | .rptr cs => some (.rptr (cs.drop off))
        | _ => none
      | _ => none
    | none => none
  | _ => none
theorem evFieldAddr_sound {s : TypeId} {x v : AV} {f : Nat} {k : AV → Prop} (h : evFieldAddr ti s x f = some v) (hk : k v) : wpFieldAddr ti s x f k := by
  unfold evFieldAddr at h; unfold wpFieldAddr
  split at h
  · rename_i fs _ _ _ hi
    simp only [hi]
    split at h
    · rename_i ft off hf
      simp only [hf]
      split at h
      · rename_i hi2
        simp only [hi2]
        split at h <;> first | (cases h; done) | (injection h with h; subst h; exact hk)
      · cases h
    · cases h
  · cases h
def evIdxP (xs : List PV) (i : Int) (sz : Nat) : Option AV := match evIdx xs i with
  | some z => match Nat.beq z.cells.length sz with
    | true => some (.rptr z.cells)
    | false => none
  | none => none
theorem evIdxP_sound {xs : List PV} {i : Int} {sz : Nat} {v : AV} {k : AV → Prop} (h : evIdxP xs i sz = some v) (hk : k v) : IdxA xs i fun z => match Nat.beq z.cells.length sz with
    | true => k (.rptr z.cells)
    | false => False := by
  unfold evIdxP at h
  split at h
  · rename_i z hz
    split at h
    · rename_i hb
      injection h with h; subst h
      obtain ⟨h1, h2⟩ := evIdx_some hz
      exact ⟨z, h1, h2, by simp only [hb]; exact hk⟩
    · cases h
  · cases h
def evIndexAddr (ti : TypeId → Option TI) (H : AH) (t : TypeId) (x y : AV) : Option AV := match y with
  | .p (.v (.int _ i)) => match ti t with
    | some ⟨.sl e, _, _, _⟩ => match x with
      | .p (.list _ xs) => match ti e with
        | some ie => evIdxP xs i ie.size
        | none => none
      | .buf id => match H[id]? with
        | some (some (.buf e' _ xs)) => match Nat.beq e e' with
          | true => match decide (0 ≤ i) && Nat.blt i.toNat xs.length with
            | true => some (.bptr id i.toNat 0)
            | false => none
          | false => none
        | some (some (.frz _ xs)) => match ti e with
          | some ie => evIdxP xs i ie.size
          | none => none
        | _ => none
      | .sub id lo hi => match H[id]? with
        | some (some (.buf e' _ _)) => match Nat.beq e e' with
          | true => match decide (0 ≤ i ∧ i < ((hi - lo : Nat) : Int)) with
            | true => some (.bptr id (lo + i.toNat) 0)
            | false => none
          | false => none
        | _ => none
      | _ => none
    | some ⟨.ar n e, _, _, _⟩ => match ti e, x with
      | some ie, .ptr id o => match decide (0 ≤ i ∧ i < n) with
        | true => some (.ptr id (o + i.toNat * ie.size))
        | false => none
      | some ie, .rptr cs => match decide (0 ≤ i ∧ i < n) with
        | true => some (.rptr (cs.drop (i.toNat * ie.size)))
        | false => none
      | _, _ => none
    | _ => none
  | _ => none
theorem evIndexAddr_sound {t : TypeId} {x y v : AV} {k : AV → Prop} (h : evIndexAddr ti H t x y = some v) (hk : k v) : wpIndexAddr ti H t x y k := by
  unfold evIndexAddr at h; unfold wpIndexAddr
  split at h
  · split at h
    · rename_i hi
      simp only [hi]
      split at h
      · split at h
        · rename_i hie
          simp only [hie]
          exact evIdxP_sound h hk
        · cases h
      · split at h
        · rename_i hc
          simp only [hc]
          split at h
          · rename_i hb
            simp only [hb]
            split at h
            · rename_i hd
              injection h with h; subst h
              simp only [Bool.and_eq_true, decide_eq_true_eq] at hd
              exact ⟨_, (Int.toNat_of_nonneg hd.1).symm, Nat.le_of_ble_eq_true hd.2, hk⟩
            · cases h
          · cases h
        · rename_i hc
          simp only [hc]
          split at h
          · rename_i hie
            simp only [hie]
            exact evIdxP_sound h hk
          · cases h
        · cases h
      · split at h
        · rename_i hc
          simp only [hc]
          split at h
          · rename_i hb
            simp only [hb]
            split at h
            · rename_i hd
              injection h with h; subst h
              exact ⟨of_decide_eq_true hd, hk⟩
            · cases h
          · cases h
        · cases h
      · cases h
    · rename_i hi
      simp only [hi]
      split at h
      · rename_i hie
        simp only [hie]
        split at h
        · rename_i hd
          injection h with h; subst h
          exact ⟨of_decide_eq_true hd, hk⟩
        · cases h
      · rename_i hie
        simp only [hie]
        split at h
        · rename_i hd
          injection h with h; subst h
          exact ⟨of_decide_eq_true hd, hk⟩
        · cases h
      · cases h
    · cases h
  · cases h
def evLen (ti : TypeId → Option TI) (H : AH) (t : TypeId) (x : AV) : Option AV := match ti t with
  | some ⟨.sl _, _, _, _⟩ => match x with
    | .p (.list _ xs) => some (.p (.v (.int .i64 xs.length)))
    | .buf id => match H[id]? with
      | some (some (.buf _ _ xs)) => some (.p (.v (.int .i64 xs.length)))
      | some (some (.frz _ xs)) => some (.p (.v (.int .i64 xs.length)))
      | _ => none
    | .sub id lo hi => match H[id]? with
      | some (some (.buf _ _ xs)) => some (.p (.v (.int .i64 ((hi - lo : Nat) : Int))))
      | _ => none
    | _ => none
  | some ⟨.ar n _, _, _, _⟩ => some (.p (.v (.int .i64 n)))
  | some ⟨.str, _, _, _⟩ => match x with
    | .p (.v (.string s)) => some (.p (.v (.int .i64 s.size)))
    | _ => none
  | _ => none
theorem evLen_sound {t : TypeId} {x v : AV} {k : AV → Prop} (h : evLen ti H t x = some v) (hk : k v) : wpLen ti H t x k := by
  unfold evLen at h; unfold wpLen
  split at h
  · rename_i hi
    simp only [hi]
    split at h
    · injection h with h; subst h
      exact ⟨_, rfl, fun _ => hk⟩
    · split at h
      · rename_i hc
        simp only [hc]
        injection h with h; subst h
        exact ⟨_, rfl, fun _ => hk⟩
      · rename_i hc
        simp only [hc]
        injection h with h; subst h
        exact ⟨_, rfl, fun _ => hk⟩
      · cases h
    · split at h
      · rename_i hc
        simp only [hc]
        injection h with h; subst h
        exact ⟨_, rfl, fun _ => hk⟩
      · cases h
    · cases h
  · rename_i hi
    simp only [hi]
    injection h with h; subst h
    exact hk
  · rename_i hi
    simp only [hi]
    split at h
    · injection h with h; subst h
      exact hk
    · cases h
  · cases h
def evField (ti : TypeId → Option TI) (s : TypeId) (x : AV) (f : Nat) : Option AV := match ti s with
  | some ⟨.st fs, _, _, _⟩ => match fs[f]? with
    | some (ft, off) => match ti ft with
      | some i => match x with
        | .agg cs => evTake i cs off
        | .p (.agg cs) => evTake i (cs.map .p) off
        | _ => none
      | none => none
    | none => none
  | _ => none
theorem evField_sound {s : TypeId} {x v : AV} {f : Nat} {k : AV → Prop} (h : evField ti s x f = some v) (hk : k v) : wpField ti s x f k := by
  unfold evField at h; unfold wpField
  split at h
  · rename_i hi
    simp only [hi]
    split at h
    · rename_i hf
      simp only [hf]
      split at h
      · rename_i hi2
        split at h
        · simp only [wpPart, hi2]
          exact evTake_sound h hk
        · simp only [wpPart, hi2]
          exact evTake_sound h hk
        · cases h
      · cases h
    · cases h
  · cases h
def evArrP (ie : TI) (cs : List PV) (i : Int) : Option AV := match ie.k.isAgg, Nat.beq ie.size 1 with
  | false, true => match evIdx cs i with
    | some y => some (.p y)
    | none => none
  | true, _ => match Nat.ble (i.toNat * ie.size + ie.size) cs.length with
    | true => some (.p (.agg ((cs.drop (i.toNat * ie.size)).take ie.size)))
    | false => none
  | _, _ => evTake ie (cs.map .p) (i.toNat * ie.size)
theorem evArrP_sound {ie : TI} {cs : List PV} {i : Int} {v : AV} {k : AV → Prop} (h : evArrP ie cs i = some v) (hk : k v) : arrP ie cs i k := by
  unfold evArrP at h; unfold arrP
  split at h
  · rename_i h1 h2
    simp only [h1, h2]
    split at h
    · rename_i hy
      injection h with h; subst h
      obtain ⟨h1, h2⟩ := evIdx_some hy
      exact ⟨_, h1, h2, hk⟩
    · cases h
  · rename_i h1
    simp only [h1]
    split at h
    · rename_i hb
      injection h with h; subst h
      exact ⟨_, rfl, hb, hk⟩
    · cases h
  · rename_i h1 h2
    split
    · rename_i h3 h4; exact (h2 h3 h4).elim
    · rename_i h3; exact (h1 h3).elim
    · exact evTake_sound h hk
def evByte (s : ByteArray) (i : Int) : Option AV := match evIdx s.data.toList i with
  | some b => some (.p (.v (.int .u8 b.toNat)))
  | none => none
def evIndex (ti : TypeId → Option TI) (t : TypeId) (x y : AV) : Option AV := match y with
  | .p (.v (.int _ i)) => match ti t with
    | some ⟨.ar n e, _, _, _⟩ => match ti e, decide (0 ≤ i ∧ i < n) with
      | some ie, true => match x with
        | .agg cs => evTake ie cs (i.toNat * ie.size)
        | .p (.agg cs) => evArrP ie cs i
        | _ => none
      | _, _ => none
    | some ⟨.str, _, _, _⟩ => match x with
      | .p (.v (.string s)) => evByte s i
      | _ => none
    | _ => none
  | _ => none
theorem evIndex_sound {t : TypeId} {x y v : AV} {k : AV → Prop} (h : evIndex ti t x y = some v) (hk : k v) : wpIndex ti t x y k := by
  unfold evIndex at h; unfold wpIndex
  split at h
  · split at h
    · rename_i hi
      simp only [hi]
      split at h
      · rename_i hie hd
        simp only [hie]
        split at h
        · exact ⟨of_decide_eq_true hd, evTake_sound h hk⟩
        · exact ⟨of_decide_eq_true hd, evArrP_sound h hk⟩
        · cases h
      · cases h
    · rename_i hi
      simp only [hi]
      split at h
      · unfold evByte at h
        split at h
        · rename_i s _ b hb
          injection h with h; subst h
          obtain ⟨h1, h2⟩ := evIdx_some hb
          refine ⟨b, h1, ?_, hk⟩
          rw [Array.getElem?_toList] at h2
          obtain ⟨h3, h4⟩ := Array.getElem?_eq_some_iff.1 h2
          rw [getElem?_pos s _ (by exact h3)]
          exact congrArg some h4
        · cases h
      · cases h
    · cases h
  · cases h
def evCut (ti : TypeId → Option TI) (H : AH) (t : TypeId) (x : AV) (l : Int) (ho : Option Int) : Option AV := match ti t with
  | some ⟨.sl e, _, _, _⟩ => match ti e with
    | some ie => match x with
      | .p (.list nl xs) => match (xs.all fun x => Nat.beq x.cells.length ie.size) && decide (0 ≤ l ∧ l ≤ ho.getD xs.length ∧ ho.getD xs.length ≤ xs.length) with
        | true => some (.p (.list nl ((xs.take (ho.getD xs.length).toNat).drop l.toNat)))
        | false => none
      | .buf id => match H[id]? with
        | some (some (.buf e' _ xs)) => match Nat.beq e e', decide (0 ≤ l ∧ l ≤ ho.getD xs.length ∧ ho.getD xs.length ≤ xs.length) with
          | true, true => some (.sub id l.toNat (ho.getD xs.length).toNat)
          | _, _ => none
        | some (some (.frz nl xs)) => match (xs.all fun x => Nat.beq x.cells.length ie.size) && decide (0 ≤ l ∧ l ≤ ho.getD xs.length ∧ ho.getD xs.length ≤ xs.length) with
          | true => some (.p (.list nl ((xs.take (ho.getD xs.length).toNat).drop l.toNat)))
          | false => none
        | _ => none
      | .sub id lo hi => match H[id]? with
        | some (some (.buf e' _ xs)) => match Nat.beq e e', decide (0 ≤ l ∧ l ≤ ho.getD ((hi - lo : Nat) : Int) ∧ ho.getD ((hi - lo : Nat) : Int) ≤ ((hi - lo : Nat) : Int)) with
          | true, true => some (.sub id (lo + l.toNat) (lo + (ho.getD ((hi - lo : Nat) : Int)).toNat))
          | _, _ => none
        | _ => none
      | _ => none
    | none => none
  | some ⟨.str, _, _, _⟩ => match x with
    | .p (.v (.string s)) => match decide (0 ≤ l ∧ l ≤ ho.getD s.size ∧ ho.getD s.size ≤ s.size) with
      | true => some (.p (.v (.string (s.extract l.toNat (ho.getD s.size).toNat))))
      | false => none
    | _ => none
  | _ => none
theorem evAllSz {xs : List PV} {n : Nat} (h : (xs.all fun x => Nat.beq x.cells.length n) = true) : ∀ x ∈ xs, x.cells.length = n := fun x hx => Nat.eq_of_beq_eq_true (List.all_eq_true.1 h x hx)
theorem evCut_sound {t : TypeId} {x v : AV} {l : Int} {ho : Option Int} {k : AV → Prop} (h : evCut ti H t x l ho = some v) (hk : k v) : wpCut ti H t x l ho k := by
  unfold evCut at h; unfold wpCut
  split at h
  · rename_i hi
    simp only [hi]
    split at h
    · rename_i hie
      simp only [hie]
      split at h
      · split at h
        · rename_i hd
          injection h with h; subst h
          simp only [Bool.and_eq_true] at hd
          exact ⟨evAllSz hd.1, _, of_decide_eq_true hd.2, rfl, hk⟩
        · cases h
      · split at h
        · rename_i hc
          simp only [hc]
          split at h
          · rename_i hb hd
            simp only [hb]
            injection h with h; subst h
            exact ⟨of_decide_eq_true hd, hk⟩
          · cases h
        · rename_i hc
          simp only [hc]
          split at h
          · rename_i hd
            injection h with h; subst h
            simp only [Bool.and_eq_true] at hd
            exact ⟨evAllSz hd.1, _, of_decide_eq_true hd.2, rfl, hk⟩
          · cases h
        · cases h
      · split at h
        · rename_i hc
          simp only [hc]
          split at h
          · rename_i hb hd
            simp only [hb]
            injection h with h; subst h
            exact ⟨of_decide_eq_true hd, hk⟩
          · cases h
        · cases h
      · cases h
    · cases h
  · rename_i hi
    simp only [hi]
    split at h
    · split at h
      · rename_i hd
        injection h with h; subst h
        exact ⟨of_decide_eq_true hd, hk⟩
      · cases h
    · cases h
  · cases h
def evSlice (ti : TypeId → Option TI) (H : AH) (t : TypeId) (x : AV) (lo hi mx : Option AV) : Option AV := match lo, hi, mx with
  | none, none, none => evCut ti H t x 0 none
  | some l, none, none => match asI l with
    | some l => evCut ti H t x l none
    | none => none
  | none, some h, none => match asI h with
    | some h => evCut ti H t x 0 (some h)
    | none => none
  | some l, some h, none => match asI l, asI h with
    | some l, some h => evCut ti H t x l (some h)
    | _, _ => none
  | _, _, _ => none
theorem evSlice_sound {t : TypeId} {x v : AV} {lo hi mx : Option AV} {k : AV → Prop} (h : evSlice ti H t x lo hi mx = some v) (hk : k v) : wpSlice ti H t x lo hi mx k := by
  unfold evSlice at h; unfold wpSlice
  split at h
  · exact evCut_sound h hk
  · split at h
    · rename_i hl
      simp only [hl]
      exact evCut_sound h hk
    · cases h
  · split at h
    · rename_i hl
      simp only [hl]
      exact evCut_sound h hk
    · cases h
  · split at h
    · rename_i hl hh
      simp only [hl, hh]
      exact evCut_sound h hk
    · cases h
  · cases h
def evConv (ti : TypeId → Option TI) (src dst : TypeId) (x : AV) : Option AV := match ti src, ti dst, x with
  | some ⟨.int _, _, _, _⟩, some ⟨.int kd, _, _, _⟩, .p (.v (.int _ n)) => some (.p (.v (.int kd (kd.wrap n))))
  | some ⟨.str, _, _, _⟩, some ⟨.str, _, _, _⟩, .p (.v (.string s)) => some (.p (.v (.string s)))
  | _, _, _ => none
theorem evConv_sound {s d : TypeId} {x v : AV} {k : AV → Prop} (h : evConv ti s d x = some v) (hk : k v) : wpConv ti s d x k := by
  unfold evConv at h; unfold wpConv
  split at h
  · rename_i h1 h2
    simp only [h1, h2]
    injection h with h; subst h
    exact ⟨_, rfl, hk⟩
  · rename_i h1 h2
    simp only [h1, h2]
    injection h with h; subst h
    exact hk
  · cases h
def evUn (op : UnOp) (x : AV) : Option AV := match op, x with
  | .not, .p (.v (.bool b)) => some (.p (.v (.bool (!b))))
  | .neg, .p (.v (.int kd n)) => some (.p (.v (.int kd (kd.wrap (0 - n)))))
  | _, _ => none
theorem evUn_sound {op : UnOp} {x v : AV} {k : AV → Prop} (h : evUn op x = some v) (hk : k v) : wpUn op x k := by
  unfold evUn at h; unfold wpUn
  split at h
  · injection h with h; subst h
    exact hk
  · injection h with h; subst h
    exact ⟨_, rfl, hk⟩
  · cases h
def evBuild (ti : TypeId → Option TI) (t : TypeId) (parts : List (Nat × AV)) : Option AV := match ti t with
  | some i => match i.k with
    | .st fs => match placesOf ti fs with
      | some ps => match fillA (ps[·]?) (zeroCells i) parts with
        | some cs => some (mkAgg cs)
        | none => none
      | none => none
    | .ar _ e => match ti e with
      | some ie => match fillA (fun j => some (j * ie.size, ie.size)) (zeroCells i) parts with
        | some cs => some (mkAgg cs)
        | none => none
      | none => none
    | _ => none
  | none => none
theorem evBuild_sound {t : TypeId} {parts : List (Nat × AV)} {v : AV} {k : AV → Prop} (h : evBuild ti t parts = some v) (hk : k v) : wpBuild ti t parts k := by
  unfold evBuild at h; unfold wpBuild
  split at h
  · rename_i hi
    simp only [hi]
    split at h
    · rename_i hs
      simp only [hs]
      split at h
      · rename_i hp
        simp only [hp]
        split at h
        · rename_i hf
          simp only [hf]
          injection h with h; subst h
          exact hk
        · cases h
      · cases h
    · rename_i hs
      simp only [hs]
      split at h
      · rename_i hp
        simp only [hp]
        split at h
        · rename_i hf
          simp only [hf]
          injection h with h; subst h
          exact hk
        · cases h
      · cases h
    · cases h
  · cases h
def evMinMax (mx : Bool) : AV → List AV → Option AV
  | x, [] => some x
  | .p (.v (.int kd a)), .p (.v (.int kd' b)) :: r => match sameK kd kd' with
    | true => match mx with
      | true => evMinMax mx (.p (.v (.int kd (if b > a then b else a)))) r
      | false => evMinMax mx (.p (.v (.int kd (if b < a then b else a)))) r
    | false => none
  | _, _ => none
theorem evMinMax_sound {mx : Bool} {k : AV → Prop} : ∀ {r : List AV} {x v : AV}, evMinMax mx x r = some v → k v → wpMinMax mx x r k
  | [], x, v, h, hk => by
    unfold evMinMax at h
    injection h with h; subst h
    unfold wpMinMax
    exact hk
  | y :: r, x, v, h, hk => by
    unfold evMinMax at h; unfold wpMinMax
    split at h
    · rename_i h0; cases h0
    · rename_i he
      injection he with he1 he2
      subst he1; subst he2
      simp only
      split at h
      · rename_i hs
        simp only [hs]
        split at h
        · exact evMinMax_sound h hk
        · exact evMinMax_sound h hk
      · cases h
    · cases h
end
end Go.Abs
namespace Go.Abs
open Go.RowKit
section
variable {ti : TypeId → Option TI} {H : AH}
def evI (kd : IntKind) (n : Int) : Option AV := some (.p (.v (.int kd (kd.wrap n))))
def evB (b : Bool) : Option AV := some (.p (.v (.bool b)))
def evInts (op : BinOp) (kd : IntKind) (a b : Int) : Option AV := match op with
  | .add => evI kd (a + b)
  | .sub => evI kd (a - b)
  | .mul => evI kd (a * b)
  | .quo => match b == 0 with
    | true => none
    | false => evI kd (a.tdiv b)
  | .rem => match b == 0 with
    | true => none
    | false => some (.p (.v (.int kd (a.tmod b))))
  | .and => evI kd ((BitVec.ofInt kd.bits a &&& BitVec.ofInt kd.bits b).toNat : Int)
  | .or => evI kd ((BitVec.ofInt kd.bits a ||| BitVec.ofInt kd.bits b).toNat : Int)
  | .xor => evI kd ((BitVec.ofInt kd.bits a ^^^ BitVec.ofInt kd.bits b).toNat : Int)
  | .andNot => evI kd ((BitVec.ofInt kd.bits a &&& ~~~(BitVec.ofInt kd.bits b)).toNat : Int)
  | .eql => evB (a == b)
  | .neq => evB (a != b)
  | .lss => evB (decide (a < b))
  | .leq => evB (decide (a ≤ b))
  | .gtr => evB (decide (a > b))
  | .geq => evB (decide (a ≥ b))
  | _ => none
theorem evI_sound {kd : IntKind} {n : Int} {v : AV} {k : AV → Prop} (h : evI kd n = some v) (hk : k v) : NW kd n fun n => k (.p (.v (.int kd n))) := by
  injection h with h; subst h
  exact ⟨_, rfl, hk⟩
theorem evB_sound {b : Bool} {v : AV} {k : AV → Prop} (h : evB b = some v) (hk : k v) : k (.p (.v (.bool b))) := by
  injection h with h; subst h
  exact hk
theorem evInts_sound {op : BinOp} {kd : IntKind} {a b : Int} {v : AV} {k : AV → Prop} (h : evInts op kd a b = some v) (hk : k v) : wpInts op kd a b k := by
  unfold evInts at h; unfold wpInts
  split at h
  · exact evI_sound h hk
  · exact evI_sound h hk
  · exact evI_sound h hk
  · split at h
    · cases h
    · rename_i hb
      exact ⟨_, by simpa using hb, rfl, evI_sound h hk⟩
  · split at h
    · cases h
    · rename_i hb
      injection h with h; subst h
      exact ⟨_, by simpa using hb, rfl, hk⟩
  · exact evI_sound h hk
  · exact evI_sound h hk
  · exact evI_sound h hk
  · exact evI_sound h hk
  · exact evB_sound h hk
  · exact evB_sound h hk
  · exact evB_sound h hk
  · exact evB_sound h hk
  · exact evB_sound h hk
  · exact evB_sound h hk
  · cases h
def evShift (op : BinOp) (kd : IntKind) (a b : Int) : Option AV := match op, decide (0 ≤ b) with
  | .shl, true => evI kd (a * 2 ^ (min b.toNat kd.bits))
  | .shr, true => some (.p (.v (.int kd (a.fdiv (2 ^ (min b.toNat kd.bits))))))
  | _, _ => none
theorem evShift_sound {op : BinOp} {kd : IntKind} {a b : Int} {v : AV} {k : AV → Prop} (h : evShift op kd a b = some v) (hk : k v) : wpShift op kd a b k := by
  unfold evShift at h; unfold wpShift
  split at h
  · rename_i hd
    exact ⟨of_decide_eq_true hd, evI_sound h hk⟩
  · rename_i hd
    injection h with h; subst h
    exact ⟨of_decide_eq_true hd, _, rfl, hk⟩
  · cases h
def evStrEq (a b : ByteArray) : Bool := a.data.toList == b.data.toList
theorem evStrEq_eq (a b : ByteArray) : (a.toList == b.toList) = evStrEq a b := by
  unfold evStrEq
  rw [ByteArray.toList_eq, ByteArray.toList_eq]
def evEqPs (ti : TypeId → Option TI) : List (TypeId × Nat) → List PV → List PV → Option Bool
  | [], _, _ => some true
  | (t, off) :: fs, xs, ys =>
    match ti t, xs[off]?, ys[off]?, evEqPs ti fs xs ys with
    | some i, some (.v x), some (.v y), some r => match i.k, x, y with
      | .int _, .int ka a, .int kb b => match sameK ka kb with
        | true => some (a == b && r)
        | false => none
      | .bool, .bool a, .bool b => some ((a == b) && r)
      | .str, .string a, .string b => some (evStrEq a b && r)
      | _, _, _ => none
    | _, _, _, _ => none
theorem evEqPs_eq : ∀ (fs : List (TypeId × Nat)) (xs ys : List PV), evEqPs ti fs xs ys = eqPs ti fs xs ys
  | [], _, _ => rfl
  | (t, off) :: fs, xs, ys => by
    unfold evEqPs eqPs
    rw [evEqPs_eq fs]
    simp only [evStrEq_eq]
    rfl
def evBin (ti : TypeId → Option TI) (H : AH) (op : BinOp) (t : TypeId) (x y : AV) : Option AV :=
  match x, y with
  | .p (.v (.int ka a)), .p (.v (.int kb b)) => match isShift op with
    | true => evShift op ka a b
    | false => match sameK ka kb with
      | true => evInts op ka a b
      | false => none
  | .p (.v (.bool a)), .p (.v (.bool b)) => match ti t, op with
    | some ⟨.bool, _, _, _⟩, .eql => evB (a == b)
    | some ⟨.bool, _, _, _⟩, .neq => evB (!(a == b))
    | _, _ => none
  | .p (.v (.string a)), .p (.v (.string b)) => match op with
    | .eql => evB (evStrEq a b)
    | .neq => evB (!evStrEq a b)
    | .add => match Nat.ble (a.size + b.size) 9223372036854775807 with
      | true => some (.p (.v (.string (a ++ b))))
      | false => none
    | .lss => evB (Op.bytesLess a.data.toList b.data.toList)
    | .leq => evB (Op.bytesLess a.data.toList b.data.toList || evStrEq a b)
    | .gtr => evB (!(Op.bytesLess a.data.toList b.data.toList || evStrEq a b))
    | .geq => evB (!Op.bytesLess a.data.toList b.data.toList)
    | _ => none
  | .p (.list nl xs), .p (.list true []) => match ti t, op with
    | some ⟨.sl _, _, _, _⟩, .eql => evB nl
    | some ⟨.sl _, _, _, _⟩, .neq => evB (!nl)
    | _, _ => none
  | .buf id, .p (.list true []) => match ti t, op, H[id]? with
    | some ⟨.sl _, _, _, _⟩, .eql, some (some (.buf _ nl _)) => evB nl
    | some ⟨.sl _, _, _, _⟩, .neq, some (some (.buf _ nl _)) => evB (!nl)
    | some ⟨.sl _, _, _, _⟩, .eql, some (some (.frz nl _)) => evB nl
    | some ⟨.sl _, _, _, _⟩, .neq, some (some (.frz nl _)) => evB (!nl)
    | _, _, _ => none
  | .p (.agg xs), .p (.agg ys) => match ti t with
    | some ⟨.st fs, _, _, _⟩ => match evEqPs ti fs xs ys, op with
      | some r, .eql => evB r
      | some r, .neq => evB (!r)
      | _, _ => none
    | _ => none
  | _, _ => none
theorem evBin_sound {op : BinOp} {t : TypeId} {x y v : AV} {k : AV → Prop} (h : evBin ti H op t x y = some v) (hk : k v) : wpBin ti H op t x y k := by
  unfold evBin at h; unfold wpBin
  split at h
  · split at h
    · rename_i hs
      simp only [hs]
      exact evShift_sound h hk
    · rename_i hs
      simp only [hs]
      split at h
      · rename_i hs
        simp only [hs]
        exact evInts_sound h hk
      · cases h
  · split at h
    · rename_i hi
      simp only [hi]
      exact evB_sound h hk
    · rename_i hi
      simp only [hi]
      exact evB_sound h hk
    · cases h
  · split at h
    · simp only [evStrEq_eq]
      exact evB_sound h hk
    · simp only [evStrEq_eq]
      exact evB_sound h hk
    · split at h
      · rename_i hb
        injection h with h; subst h
        exact ⟨Nat.le_of_ble_eq_true hb, hk⟩
      · cases h
    · simp only [ByteArray.toList_eq]
      exact evB_sound h hk
    · simp only [evStrEq_eq, ByteArray.toList_eq]
      exact evB_sound h hk
    · simp only [evStrEq_eq, ByteArray.toList_eq]
      exact evB_sound h hk
    · simp only [ByteArray.toList_eq]
      exact evB_sound h hk
    · cases h
  · split at h
    · rename_i hi
      simp only [hi]
      exact ⟨fun _ => evB_sound h hk⟩
    · rename_i hi
      simp only [hi]
      exact ⟨fun _ => evB_sound h hk⟩
    · cases h
  · split at h
    · rename_i hi hc
      simp only [hi, hc]
      exact ⟨fun _ => evB_sound h hk⟩
    · rename_i hi hc
      simp only [hi, hc]
      exact ⟨fun _ => evB_sound h hk⟩
    · rename_i hi hc
      simp only [hi, hc]
      exact ⟨fun _ => evB_sound h hk⟩
    · rename_i hi hc
      simp only [hi, hc]
      exact ⟨fun _ => evB_sound h hk⟩
    · cases h
  · split at h
    · rename_i hi
      simp only [hi]
      rw [evEqPs_eq] at h
      split at h
      · rename_i he
        simp only [he]
        exact evB_sound h hk
      · rename_i he
        simp only [he]
        exact evB_sound h hk
      · cases h
    · cases h
  · cases h
def evPick (t : Bool) (x y : AV) : AV := match t with
  | true => x
  | false => y
theorem evPick_sound {t : Bool} {x y : AV} {k : AV → Prop} (hk : k (evPick t x y)) : wpPick t x y k := by
  unfold wpPick
  split
  · cases t <;> exact hk
  · cases t <;> exact hk
def evCap (ti : TypeId → Option TI) (t : TypeId) (x : AV) : Option AV := match x with
  | .p (.list true []) => match ti t with
    | some ⟨.sl _, _, _, _⟩ => some (.p (.v (.int .i64 0)))
    | _ => none
  | _ => none
theorem evCap_sound {t : TypeId} {x v : AV} {k : AV → Prop} (h : evCap ti t x = some v) (hk : k v) : wpCap ti t x k := by
  unfold evCap at h; unfold wpCap
  split at h
  · split at h
    · rename_i hi
      simp only [hi]
      injection h with h; subst h
      exact hk
    · cases h
  · cases h
def evQ (ti : TypeId → Option TI) (σ : AS) (op : Op) : Option AV := match op with
  | .move x => some (σ.ev x)
  | .assign x => some (σ.ev x)
  | .pick c a b => match σ.ev c with
    | .p (.v (.bool t)) => some (evPick t (σ.ev a) (σ.ev b))
    | _ => none
  | .load t a => evLoad ti σ.h t (σ.ev a)
  | .nilCheck x => match σ.ev x with
    | .ptr id o => some (.ptr id o)
    | .bptr id i o => some (.bptr id i o)
    | .rptr cs => some (.rptr cs)
    | .clo fn caps => some (.clo fn caps)
    | _ => none
  | .binOp op t x y _ => evBin ti σ.h op t (σ.ev x) (σ.ev y)
  | .unOp op _ x => evUn op (σ.ev x)
  | .convert s d x => evConv ti s d (σ.ev x)
  | .fieldAddr s x f => evFieldAddr ti s (σ.ev x) f
  | .field s x f => evField ti s (σ.ev x) f
  | .indexAddr t x i => evIndexAddr ti σ.h t (σ.ev x) (σ.ev i)
  | .index t x i => evIndex ti t (σ.ev x) (σ.ev i)
  | .slice t x lo hi mx => evSlice ti σ.h t (σ.ev x) (lo.map σ.ev) (hi.map σ.ev) (mx.map σ.ev)
  | .extract x i => match σ.ev x with
    | .tup xs => xs[i]?
    | _ => none
  | .build t parts => evBuild ti t (parts.toList.map fun p => (p.1, σ.ev p.2))
  | .makeFunc fn first caps => match first.toList with
    | [] => some (.clo fn (caps.toList.map σ.ev))
    | _ => none
  | .call c => match c.callee with
    | .builtin .len => match c.args.toList, c.argTypes.toList with
      | [x], [t] => evLen ti σ.h t (σ.ev x)
      | _, _ => none
    | .builtin .cap => match c.args.toList, c.argTypes.toList with
      | [x], [t] => evCap ti t (σ.ev x)
      | _, _ => none
    | .builtin .max => match c.args.toList with
      | x :: r => evMinMax true (σ.ev x) (r.map σ.ev)
      | _ => none
    | .builtin .min => match c.args.toList with
      | x :: r => evMinMax false (σ.ev x) (r.map σ.ev)
      | _ => none
    | _ => none
  | _ => none
theorem evQ_sound {σ : AS} {op : Op} {v : AV} {k : AV → Prop} (h : evQ ti σ op = some v) (hk : k v) : wpQ ti σ op k := by
  unfold evQ at h; unfold wpQ
  split at h
  · injection h with h; subst h; exact hk
  · injection h with h; subst h; exact hk
  · split at h
    · rename_i hc
      simp only [hc]
      injection h with h; subst h
      exact evPick_sound hk
    · cases h
  · exact evLoad_sound h hk
  · split at h <;> first | (cases h; done) | (rename_i hc; simp only [hc]; injection h with h; subst h; exact hk)
  · exact evBin_sound h hk
  · exact evUn_sound h hk
  · exact evConv_sound h hk
  · exact evFieldAddr_sound h hk
  · exact evField_sound h hk
  · exact evIndexAddr_sound h hk
  · exact evIndex_sound h hk
  · exact evSlice_sound h hk
  · split at h
    · rename_i hc
      simp only [hc, h]
      exact hk
    · cases h
  · exact evBuild_sound h hk
  · split at h
    · rename_i hc
      simp only [hc]
      injection h with h; subst h
      exact hk
    · cases h
  · split at h
    · rename_i hc
      simp only [hc]
      split at h
      · rename_i h1 h2
        simp only [h1, h2]
        exact evLen_sound h hk
      · cases h
    · rename_i hc
      simp only [hc]
      split at h
      · rename_i h1 h2
        simp only [h1, h2]
        exact evCap_sound h hk
      · cases h
    · rename_i hc
      simp only [hc]
      split at h
      · rename_i h1
        simp only [h1]
        exact evMinMax_sound h hk
      · cases h
    · rename_i hc
      simp only [hc]
      split at h
      · rename_i h1
        simp only [h1]
        exact evMinMax_sound h hk
      · cases h
    · cases h
  · cases h
end
end Go.Abs
namespace Go.Abs
open Go.RowKit
section
variable {ti : TypeId → Option TI} {H : AH}
abbrev EV := Option (AV × AH)
def evSrc (H : AH) (e : TypeId) (sz : Nat) (x : AV) : Option (List PV) := match x with
  | .p (.list _ ys) => match ys.all fun x => Nat.beq x.cells.length sz with
    | true => some ys
    | false => none
  | .buf id2 => match H[id2]? with
    | some (some (.buf e2 _ ys)) => match Nat.beq e e2 with
      | true => some ys
      | false => none
    | some (some (.frz _ ys)) => match ys.all fun x => Nat.beq x.cells.length sz with
      | true => some ys
      | false => none
    | _ => none
  | _ => none
theorem evSrc_sound {e : TypeId} {sz : Nat} {x : AV} {ys : List PV} {k : List PV → Prop} (h : evSrc H e sz x = some ys) (hk : k ys) : wpSrc H e sz x k := by
  unfold evSrc at h; unfold wpSrc
  split at h
  · split at h
    · rename_i ha
      injection h with h; subst h
      exact ⟨evAllSz ha, hk⟩
    · cases h
  · split at h
    · rename_i hc
      simp only [hc]
      split at h
      · rename_i hb
        simp only [hb]
        injection h with h; subst h
        exact hk
      · cases h
    · rename_i hc
      simp only [hc]
      split at h
      · rename_i ha
        injection h with h; subst h
        exact ⟨evAllSz ha, hk⟩
      · cases h
    · cases h
  · cases h
def evSrc2 (H : AH) (e : TypeId) (sz : Nat) (x : AV) : Option (List PV) := match x with
  | .sub id2 lo hi => match H[id2]? with
    | some (some (.buf e2 _ ys)) => match Nat.beq e e2 with
      | true => some ((ys.take hi).drop lo)
      | false => none
    | _ => none
  | _ => evSrc H e sz x
theorem evSrc_sound2 {e : TypeId} {sz : Nat} {x : AV} {ys : List PV} {k : List PV → Prop} (h : evSrc2 H e sz x = some ys) (hk : k ys) : wpSrc2 H e sz x k := by
  unfold evSrc2 at h
  split at h
  · unfold wpSrc2
    split at h
    · rename_i hc
      simp only [hc]
      split at h
      · rename_i hb
        simp only [hb]
        injection h with h; subst h
        exact hk
      · cases h
    · cases h
  unfold evSrc at h; unfold wpSrc2
  split at h
  · split at h
    · rename_i ha
      injection h with h; subst h
      exact ⟨evAllSz ha, hk⟩
    · cases h
  · split at h
    · rename_i hc
      simp only [hc]
      split at h
      · rename_i hb
        simp only [hb]
        injection h with h; subst h
        exact hk
      · cases h
    · rename_i hc
      simp only [hc]
      split at h
      · rename_i ha
        injection h with h; subst h
        exact ⟨evAllSz ha, hk⟩
      · cases h
    · cases h
  · cases h
def evFits (n by_ : Nat) : Bool := Nat.ble n maxLen && Nat.ble (n * by_) 140737488355328
theorem evFits_spec {n by_ : Nat} (h : evFits n by_ = true) : n ≤ maxLen ∧ n * by_ ≤ 140737488355328 := by
  unfold evFits at h
  rw [Bool.and_eq_true] at h
  exact ⟨Nat.le_of_ble_eq_true h.1, Nat.le_of_ble_eq_true h.2⟩
def evApp1 (H : AH) (e : TypeId) (sz by_ : Nat) (ob : Option Nat) (nl : Bool) (xs : List PV) (x : AV) : EV := match evSrc H e sz x with
  | some ys => match evFits (xs ++ ys).length by_ with
    | true => some (.buf H.length, kill H ob ++ [some (.buf e (ys.isEmpty && nl) (xs ++ ys))])
    | false => none
  | none => none
theorem evApp1_sound {e : TypeId} {sz by_ : Nat} {ob : Option Nat} {nl : Bool} {xs : List PV} {x v : AV} {H' : AH} {k : AV → AH → Prop} (h : evApp1 H e sz by_ ob nl xs x = some (v, H')) (hk : k v H') : wpApp1 H e sz by_ ob nl xs x k := by
  unfold evApp1 at h; unfold wpApp1
  split at h
  · rename_i hs
    split at h
    · rename_i hf
      injection h with h; injection h with h1 h2; subst h1; subst h2
      exact evSrc_sound hs ⟨_, rfl, evFits_spec hf, hk⟩
    · cases h
  · cases h
def evAppend (ti : TypeId → Option TI) (H : AH) (t : TypeId) (s x : AV) : EV := match ti t with
  | some ⟨.sl e, _, _, _⟩ => match ti e with
    | some ⟨_, sz + 1, by_, _⟩ => match s with
      | .p (.list true []) => evApp1 H e (sz + 1) by_ none true [] x
      | .buf id => match H[id]? with
        | some (some (.buf e' nl xs)) => match Nat.beq e e' with
          | true => evApp1 H e (sz + 1) by_ (some id) nl xs x
          | false => none
        | _ => none
      | .cap _ xs => match evSrc H e (sz + 1) x with
        | some ys => match (xs.all fun x => Nat.beq x.cells.length (sz + 1)) && (Nat.blt 0 ys.length && evFits (xs ++ ys).length by_) with
          | true => some (.buf H.length, H ++ [some (.buf e false (xs ++ ys))])
          | false => none
        | none => none
      | .sub id lo hi => match H[id]? with
        | some (some (.buf e' _ xs)) => match Nat.beq e e' with
          | true => match evSrc H e (sz + 1) x with
            | some ys => match Nat.beq hi xs.length && (Nat.ble lo xs.length && (Nat.blt 0 ys.length && evFits (xs.length + ys.length) by_)) with
              | true => none
              | false => none
            | none => none
          | false => none
        | _ => none
      | _ => none
    | _ => none
  | _ => none
theorem evAppend_sound {t : TypeId} {s x v : AV} {H' : AH} {k : AV → AH → Prop} (h : evAppend ti H t s x = some (v, H')) (hk : k v H') : wpAppend ti H t s x k := by
  unfold evAppend at h; unfold wpAppend
  split at h
  · rename_i hi
    simp only [hi]
    split at h
    · rename_i hie
      simp only [hie]
      split at h
      · exact evApp1_sound h hk
      · split at h
        · rename_i hc
          simp only [hc]
          split at h
          · rename_i hb
            simp only [hb]
            exact .own (evApp1_sound h hk)
          · cases h
        · cases h
      · split at h
        · rename_i hs
          split at h
          · rename_i hd
            injection h with h; injection h with h1 h2; subst h1; subst h2
            simp only [Bool.and_eq_true] at hd
            have h0 := Nat.le_of_ble_eq_true hd.2.1
            exact evSrc_sound hs ⟨evAllSz hd.1, ⟨h0, h0⟩, _, rfl, evFits_spec hd.2.2, hk⟩
          · cases h
        · cases h
      · split at h
        · split at h
          · split at h
            · split at h <;> cases h
            · cases h
          · cases h
        · cases h
      · cases h
    · cases h
  · cases h
def evAppZ (ti : TypeId → Option TI) (H : AH) (t t' : TypeId) (s x : AV) : EV := match s, asI x, ti t, ti t' with
  | .p (.list true []), some n, some ⟨.sl e, _, _, _⟩, some ⟨.int _, _, _, _⟩ => match ti e with
    | some ⟨_, _ + 1, by_, z⟩ => match decide (0 < n ∧ n * (by_ : Int) ≤ 281474976710656 ∧ n ≤ 4611686018427387904) with
      | true => some (.buf H.length, H ++ [some (.buf e false (List.replicate n.toNat (pz z)))])
      | false => none
    | _ => none
  | _, _, _, _ => none
theorem evAppZ_sound {t t' : TypeId} {s x v : AV} {H' : AH} {k : AV → AH → Prop} (h : evAppZ ti H t t' s x = some (v, H')) (hk : k v H') : wpAppZ ti H t t' s x k := by
  unfold evAppZ at h; unfold wpAppZ
  split at h
  · rename_i h1 h2 h3
    simp only [h1, h2, h3]
    split at h
    · rename_i h4
      simp only [h4]
      split at h
      · rename_i hd
        injection h with h; injection h with h1 h2; subst h1; subst h2
        exact ⟨of_decide_eq_true hd, _, rfl, hk⟩
      · cases h
    · cases h
  · cases h
def evDst (H : AH) (e : TypeId) (x : AV) : Option (Nat × Bool × List PV × Nat × Nat) := match x with
  | .buf id => match H[id]? with
    | some (some (.buf e2 nl xs)) => match Nat.beq e e2 with
      | true => some (id, nl, xs, 0, xs.length)
      | false => none
    | _ => none
  | .sub id lo hi => match H[id]? with
    | some (some (.buf e2 nl xs)) => match Nat.beq e e2 with
      | true => some (id, nl, xs, lo, hi)
      | false => none
    | _ => none
  | _ => none
theorem evDst_sound {e : TypeId} {x : AV} {r : Nat × Bool × List PV × Nat × Nat} {k : Nat → Bool → List PV → Nat → Nat → Prop} (h : evDst H e x = some r) (hk : k r.1 r.2.1 r.2.2.1 r.2.2.2.1 r.2.2.2.2) : wpDst H e x k := by
  unfold evDst at h; unfold wpDst
  split at h
  · split at h
    · rename_i hc
      simp only [hc]
      split at h
      · rename_i hb
        simp only [hb]
        injection h with h; subst h
        exact hk
      · cases h
    · cases h
  · split at h
    · rename_i hc
      simp only [hc]
      split at h
      · rename_i hb
        simp only [hb]
        injection h with h; subst h
        exact hk
      · cases h
    · cases h
  · cases h
def evCopy (ti : TypeId → Option TI) (H : AH) (t : TypeId) (x y : AV) : EV := match ti t with
  | some ⟨.sl e, _, _, _⟩ => match ti e with
    | some ⟨_, sz + 1, _, _⟩ => match evDst H e x, evSrc2 H e (sz + 1) y with
      | some (id, nl, xs, lo, hi), some ys => some (.p (.v (.int .i64 (min (hi - lo) ys.length : Nat))), H.set id (some (.buf e nl (xs.take lo ++ ys.take (min (hi - lo) ys.length) ++ xs.drop (lo + min (hi - lo) ys.length)))))
      | _, _ => none
    | _ => none
  | _ => none
theorem evCopy_sound {t : TypeId} {x y v : AV} {H' : AH} {k : AV → AH → Prop} (h : evCopy ti H t x y = some (v, H')) (hk : k v H') : wpCopy ti H t x y k := by
  unfold evCopy at h; unfold wpCopy
  split at h
  · rename_i hi
    simp only [hi]
    split at h
    · rename_i hie
      simp only [hie]
      split at h
      · rename_i hd hs
        injection h with h; injection h with h1 h2; subst h1; subst h2
        exact evDst_sound hd (evSrc_sound2 hs ⟨_, _, rfl, rfl, hk⟩)
      · cases h
    · cases h
  · cases h
def evClear (ti : TypeId → Option TI) (H : AH) (t : TypeId) (x : AV) : EV := match ti t with
  | some ⟨.sl e, _, _, _⟩ => match ti e with
    | some ⟨_, _ + 1, _, z⟩ => match evDst H e x with
      | some (id, nl, xs, lo, hi) => some (.tup [], H.set id (some (.buf e nl (xs.take lo ++ List.replicate (hi - lo) (pz z) ++ xs.drop hi))))
      | none => none
    | _ => none
  | _ => none
theorem evClear_sound {t : TypeId} {x v : AV} {H' : AH} {k : AV → AH → Prop} (h : evClear ti H t x = some (v, H')) (hk : k v H') : wpClear ti H t x k := by
  unfold evClear at h; unfold wpClear
  split at h
  · rename_i hi
    simp only [hi]
    split at h
    · rename_i hie
      simp only [hie]
      split at h
      · rename_i hd
        injection h with h; injection h with h1 h2; subst h1; subst h2
        exact evDst_sound hd ⟨_, rfl, hk⟩
      · cases h
    · cases h
  · cases h
/-- Maps. -/
def evKeyB (d : TypeDesc) (x : Value) : Bool := match d, x with
  | .bool, .bool _ => true
  | .int k, .int k' _ => sameK k' k
  | .string, .string _ => true
  | _, _ => false
theorem evKeyB_sound {d : TypeDesc} {x : Value} (h : evKeyB d x = true) : MapKept.IsKey d x := by
  unfold evKeyB at h; unfold MapKept.IsKey
  split at h
  · trivial
  · exact sameK_eq' h
  · trivial
  · cases h
/-- Keys that differ for certain. -/
def neKey : Value → Value → Bool
  | .int _ a, .int _ b => a != b
  | .bool a, .bool b => a != b
  | .string a, .string b => !(a.data.toList == b.data.toList)
  | _, _ => false
theorem neKey_ne {a b : Value} (h : neKey a b = true) : a ≠ b := by
  rintro rfl
  unfold neKey at h
  split at h
  · simp at h
  · simp at h
  · simp at h
  · cases h
def evFind (key : Value) : List (Value × Value) → Option (Option Value)
  | [] => some none
  | (k, v) :: r => match eqV k key with
    | true => match r.all fun e => neKey e.1 key with
      | true => some (some v)
      | false => none
    | false => match neKey k key with
      | true => evFind key r
      | false => none
theorem evFind_sound {key : Value} : ∀ {es : List (Value × Value)} {r : Option Value}, evFind key es = some r → HasK key es r
  | [], r, h => by
    injection h with h; subst h
    exact fun e he => by cases he
  | (k, v) :: es, r, h => by
    unfold evFind at h
    split at h
    · rename_i hk
      split at h
      · rename_i ha
        injection h with h; subst h
        have hk := eqV_eq hk
        refine ⟨⟨_, List.mem_cons_self .., hk⟩, fun e he h1 => ?_⟩
        rcases List.mem_cons.1 he with rfl | he
        · rfl
        · exact absurd h1 (neKey_ne (List.all_eq_true.1 ha e he))
      · cases h
    · split at h
      · rename_i hn
        have hn := neKey_ne hn
        have ih := evFind_sound h
        cases r with
        | none =>
          intro e he
          rcases List.mem_cons.1 he with rfl | he
          · exact hn
          · exact ih e he
        | some x =>
          obtain ⟨⟨e, he, h1⟩, h2⟩ := ih
          refine ⟨⟨e, List.mem_cons_of_mem _ he, h1⟩, fun e he h1 => ?_⟩
          rcases List.mem_cons.1 he with rfl | he
          · exact absurd h1 hn
          · exact h2 e he h1
      · cases h
def eqVL : List Value → List Value → Bool
  | [], [] => true
  | x :: xs, y :: ys => eqV x y && eqVL xs ys
  | _, _ => false
theorem eqVL_eq : ∀ {a b : List Value}, eqVL a b = true → a = b
  | [], [], _ => rfl
  | x :: xs, y :: ys, h => by
    simp only [eqVL, Bool.and_eq_true] at h
    rw [eqV_eq h.1, eqVL_eq h.2]
  | [], _ :: _, h => by cases h
  | _ :: _, [], h => by cases h
def neVL : List Value → List Value → Bool
  | x :: xs, y :: ys => neKey x y || neVL xs ys
  | _, _ => false
theorem neVL_ne : ∀ {a b : List Value}, neVL a b = true → a ≠ b
  | x :: xs, y :: ys, h => by
    simp only [neVL, Bool.or_eq_true] at h
    intro he
    injection he with h1 h2
    rcases h with h | h
    · exact neKey_ne h h1
    · exact neVL_ne h h2
  | [], _, h => by cases h
  | _ :: _, [], h => by cases h
def evSKey (ti : TypeId → Option TI) (fs : List (TypeId × Nat)) (cs : List PV) (x : Value) : Option Bool := match x with
  | .agg vs => match evEqPs ti fs cs (vs.toList.map .v), vs.toList.all (·.oneCell') with
    | some true, true => match eqVL vs.toList (valsV cs) with
      | true => some true
      | false => none
    | some false, true => match neVL vs.toList (valsV cs) with
      | true => some false
      | false => none
    | _, _ => none
  | _ => none
theorem valsV_v : ∀ (l : List Value), valsV (l.map .v) = l ∧ allV (l.map .v) = true
  | [] => ⟨rfl, rfl⟩
  | x :: r => by simp [valsV, allV, valsV_v r]
theorem evSKey_sound {fs : List (TypeId × Nat)} {cs : List PV} {x : Value} {b : Bool} (h : evSKey ti fs cs x = some b) : SKey ti fs cs x ∧ (b = true ↔ x = aggV cs) := by
  unfold evSKey at h
  split at h
  · rename_i vs
    have hx : Value.agg vs = aggV (vs.toList.map .v) := by unfold aggV; rw [(valsV_v _).1]
    split at h
    · rename_i h1 h2
      split at h
      · rename_i h3
        injection h with h; subst h
        have he : Value.agg vs = aggV cs := by unfold aggV; rw [← eqVL_eq h3]
        refine ⟨⟨_, true, ?_, hx, by rw [← evEqPs_eq]; exact h1, by simp [he]⟩, by simp [he]⟩
        unfold oneV
        rw [(valsV_v _).1, (valsV_v _).2, h2]
        rfl
      · cases h
    · rename_i h1 h2
      split at h
      · rename_i h3
        injection h with h; subst h
        have he : Value.agg vs ≠ aggV cs := by
          unfold aggV
          intro he
          injection he with he
          exact neVL_ne h3 (by rw [he])
        refine ⟨⟨_, false, ?_, hx, by rw [← evEqPs_eq]; exact h1, by simp [he]⟩, by simp [he]⟩
        unfold oneV
        rw [(valsV_v _).1, (valsV_v _).2, h2]
        rfl
      · cases h
    · cases h
  · cases h
def evFindS (ti : TypeId → Option TI) (fs : List (TypeId × Nat)) (cs : List PV) : List (Value × Value) → Option (Option Value)
  | [] => some none
  | (k, v) :: r => match evSKey ti fs cs k, evFindS ti fs cs r with
    | some true, some none => some (some v)
    | some false, some x => some x
    | _, _ => none
theorem evFindS_sound {fs : List (TypeId × Nat)} {cs : List PV} : ∀ {es : List (Value × Value)} {r : Option Value}, evFindS ti fs cs es = some r → HasK (aggV cs) es r ∧ ∀ e ∈ es, SKey ti fs cs e.1
  | [], r, h => by
    injection h with h; subst h
    exact ⟨fun e he => (by cases he), fun e he => (by cases he)⟩
  | (k, v) :: es, r, h => by
    unfold evFindS at h
    split at h
    · rename_i h1 h2
      injection h with h; subst h
      obtain ⟨g1, g2⟩ := evSKey_sound h1
      obtain ⟨g3, g4⟩ := evFindS_sound h2
      refine ⟨⟨⟨_, List.mem_cons_self .., g2.1 rfl⟩, fun e he h5 => ?_⟩, fun e he => ?_⟩
      · rcases List.mem_cons.1 he with rfl | he
        · rfl
        · exact absurd h5 (g3 e he)
      · rcases List.mem_cons.1 he with rfl | he
        · exact g1
        · exact g4 e he
    · rename_i h1 h2
      injection h with h; subst h
      obtain ⟨g1, g2⟩ := evSKey_sound h1
      obtain ⟨g3, g4⟩ := evFindS_sound h2
      have hne : k ≠ aggV cs := fun e => by cases g2.2 e
      refine ⟨?_, fun e he => ?_⟩
      · rename_i x
        cases x with
        | none =>
          intro e he
          rcases List.mem_cons.1 he with rfl | he
          · exact hne
          · exact g3 e he
        | some x =>
          obtain ⟨⟨e, he, h5⟩, h6⟩ := g3
          refine ⟨⟨e, List.mem_cons_of_mem _ he, h5⟩, fun e he h5 => ?_⟩
          rcases List.mem_cons.1 he with rfl | he
          · exact absurd h5 hne
          · exact h6 e he h5
      · rcases List.mem_cons.1 he with rfl | he
        · exact g1
        · exact g4 e he
    · cases h
def evLookup (ti : TypeId → Option TI) (H : AH) (t : TypeId) (ok : Bool) (x ix : AV) : Option AV := match x, ix, ti t with
  | .mp id, .p (.v kv), some ⟨.map kt et, _, _, _⟩ => match ti kt, ti et, H[id]? with
    | some ⟨tk, _, _, _⟩, some ⟨_, _, _, z⟩, some (some (.map es)) => match keyD tk, z.oneCell', evFind kv es with
      | some d, true, some r => match evKeyB d kv && es.all fun e => evKeyB d e.1 with
        | true => match ok with
          | false => some (.p (.v (r.getD z)))
          | true => some (.tup [.p (.v (r.getD z)), .p (.v (.bool r.isSome))])
        | false => none
      | _, _, _ => none
    | _, _, _ => none
  | .mp id, .p (.agg cs), some ⟨.map kt et, _, _, _⟩ => match ti kt, ti et, H[id]? with
    | some ⟨.st fs, _, _, _⟩, some ⟨_, _, _, z⟩, some (some (.map es)) => match z.oneCell' && oneV cs, evEqPs ti fs cs cs, evFindS ti fs cs es with
      | true, some _, some r => match ok with
        | false => some (.p (.v (r.getD z)))
        | true => some (.tup [.p (.v (r.getD z)), .p (.v (.bool r.isSome))])
      | _, _, _ => none
    | _, _, _ => none
  | _, _, _ => none
theorem evLookup_sound {t : TypeId} {ok : Bool} {x ix v : AV} {k : AV → Prop} (h : evLookup ti H t ok x ix = some v) (hk : k v) : wpLookup ti H t ok x ix k := by
  unfold evLookup at h; unfold wpLookup
  split at h
  · rename_i hi
    simp only [hi]
    split at h
    · rename_i h1 h2 h3
      simp only [h1, h2, h3]
      split at h
      · rename_i h4 h5 h6
        simp only [h4, h5]
        split at h
        · rename_i hd
          simp only [Bool.and_eq_true] at hd
          refine ⟨_, evKeyB_sound hd.1, fun e he => evKeyB_sound (List.all_eq_true.1 hd.2 e he), evFind_sound h6, ?_⟩
          split at h
          · injection h with h; subst h; exact hk
          · injection h with h; subst h; exact hk
        · cases h
      · cases h
    · cases h
  · rename_i hi
    simp only [hi]
    split at h
    · rename_i h1 h2 h3
      simp only [h1, h2, h3]
      split at h
      · rename_i h4 h5 h6
        simp only [Bool.and_eq_true] at h4
        simp only [h4.1]
        obtain ⟨g1, g2⟩ := evFindS_sound h6
        refine ⟨_, _, h4.2, by rw [← evEqPs_eq]; exact h5, g2, g1, ?_⟩
        split at h
        · injection h with h; subst h; exact hk
        · injection h with h; subst h; exact hk
      · cases h
    · cases h
  · cases h
def evMapUpdate (ti : TypeId → Option TI) (H : AH) (t : TypeId) (x ix v : AV) : EV := match x, ix, v, ti t with
  | .mp id, .p (.v kv), .p (.v vv), some ⟨.map kt _, _, _, _⟩ => match ti kt, H[id]? with
    | some ⟨tk, _, _, _⟩, some (some (.map es)) => match keyD tk with
      | some d => match evKeyB d kv && es.all fun e => evKeyB d e.1 && neKey e.1 kv with
        | true => some (.dead, H.set id (some (.map (es ++ [(kv, vv)]))))
        | false => none
      | none => none
    | _, _ => none
  | .mp id, .p (.agg cs), .p (.v vv), some ⟨.map kt _, _, _, _⟩ => match ti kt, H[id]? with
    | some ⟨.st fs, _, _, _⟩, some (some (.map es)) => match oneV cs, evEqPs ti fs cs cs, evFindS ti fs cs es with
      | true, some _, some none => some (.dead, H.set id (some (.map (es ++ [(aggV cs, vv)]))))
      | _, _, _ => none
    | _, _ => none
  | _, _, _, _ => none
theorem evMapUpdate_sound {t : TypeId} {x ix v r : AV} {H' : AH} {k : AV → AH → Prop} (h : evMapUpdate ti H t x ix v = some (r, H')) (hk : k r H') : wpMapUpdate ti H t x ix v k := by
  unfold evMapUpdate at h; unfold wpMapUpdate
  split at h
  · rename_i hi
    simp only [hi]
    split at h
    · rename_i h1 h2
      simp only [h1, h2]
      split at h
      · rename_i h3
        simp only [h3]
        split at h
        · rename_i hd
          injection h with h; injection h with h4 h5; subst h4; subst h5
          simp only [Bool.and_eq_true] at hd
          have ha := fun e he => Bool.and_eq_true _ _ ▸ List.all_eq_true.1 hd.2 e he
          exact ⟨evKeyB_sound hd.1, fun e he => evKeyB_sound (ha e he).1, fun e he => neKey_ne (ha e he).2, hk⟩
        · cases h
      · cases h
    · cases h
  · rename_i hi
    simp only [hi]
    split at h
    · rename_i h1 h2
      simp only [h1, h2]
      split at h
      · rename_i h3 h4 h5
        injection h with h; injection h with h6 h7; subst h6; subst h7
        obtain ⟨g1, g2⟩ := evFindS_sound h5
        exact ⟨_, _, h3, by rw [← evEqPs_eq]; exact h4, g2, g1, rfl, hk⟩
      · cases h
    · cases h
  · cases h
def pvInts : List PV → Option (List Int)
  | [] => some []
  | .v (.int .u8 n) :: r => match pvInts r with
    | some l => some (n :: l)
    | none => none
  | _ :: _ => none
theorem pvInts_eq : ∀ {xs : List PV} {ns : List Int}, pvInts xs = some ns → xs = ns.map fun n => .v (.int .u8 n)
  | [], ns, h => by injection h with h; subst h; rfl
  | x :: r, ns, h => by
    unfold pvInts at h
    split at h
    · rename_i h0; cases h0
    · rename_i he
      injection he with h1 h2
      subst h1; subst h2
      split at h
      · rename_i hl
        injection h with h; subst h
        rw [List.map_cons, pvInts_eq hl]
      · cases h
    · cases h
def evConvB (ti : TypeId → Option TI) (H : AH) (src dst : TypeId) (x : AV) : Option AV := match x with
  | .buf id => match ti src, ti dst, H[id]? with
    | some ⟨.sl e, _, _, _⟩, some ⟨.str, _, _, _⟩, some (some (.buf e' _ xs)) => match ti e, Nat.beq e e' with
      | some ⟨.int .u8, _, _, _⟩, true => match pvInts xs with
        | some ns => some (.p (.v (.string (bstr ns))))
        | none => none
      | _, _ => none
    | _, _, _ => none
  | x => evConv ti src dst x
theorem evConvB_sound {s d : TypeId} {x v : AV} {k : AV → Prop} (h : evConvB ti H s d x = some v) (hk : k v) : wpConvB ti H s d x k := by
  cases x with
  | buf id =>
    unfold evConvB at h; unfold wpConvB
    simp only at h ⊢
    split at h
    · rename_i h1 h2 h3
      simp only [h1, h2, h3]
      split at h
      · rename_i h4 h5
        simp only [h4, h5]
        split at h
        · rename_i h6
          injection h with h; subst h
          exact ⟨_, pvInts_eq h6, hk⟩
        · cases h
      · cases h
    · cases h
  | _ => exact evConv_sound (ti := ti) h hk
def evSl (ti : TypeId → Option TI) (H : AH) (t : TypeId) (x : AV) (lo hi mx : Option AV) : EV := match evSlice ti H t x lo hi mx with
  | some v => some (v, H)
  | none => none
theorem evSl_sound {t : TypeId} {x v : AV} {lo hi mx : Option AV} {H' : AH} {k : AV → AH → Prop} (h : evSl ti H t x lo hi mx = some (v, H')) (hk : k v H') : wpSlice ti H t x lo hi mx fun v => k v H := by
  unfold evSl at h
  split at h
  · rename_i hs
    injection h with h; injection h with h5 h6; subst h5; subst h6
    exact evSlice_sound hs hk
  · cases h
def evCutArr (ti : TypeId → Option TI) (H : AH) (t : TypeId) (x : AV) (lo hi mx : Option AV) : EV := match x with
  | .ptr id off => match off, ti t, lo, hi, mx with
    | 0, some ⟨.ar n e, _, _, _⟩, none, some h, none => match H[id]?, asI h, ti e with
      | some (some (.arr xs)), some h, some ⟨_, 1, _, _⟩ => match decide (0 ≤ h ∧ h ≤ n ∧ n ≤ 65536) && Nat.beq xs.length n with
        | true => some (.p (.list false (xs.take h.toNat)), H.set id none)
        | false => none
      | _, _, _ => none
    | _, _, _, _, _ => none
  | .p y => match y, mx with
    | .list nl xs, some m => match lo, hi, ti t with
      | none, some h, some ⟨.sl e, _, _, _⟩ => match asI h, asI m, ti e with
        | some h, some m, some _ => match decide (h = m ∧ 0 ≤ h ∧ h ≤ (xs.length : Int)) with
          | true => some (.cap nl (xs.take h.toNat), H)
          | false => none
        | _, _, _ => none
      | _, _, _ => none
    | y, none => evSl ti H t (.p y) lo hi none
    | _, _ => none
  | .buf id => evSl ti H t (.buf id) lo hi mx
  | .sub id a b => evSl ti H t (.sub id a b) lo hi mx
  | _ => none
theorem evCutArr_sound {t : TypeId} {x v : AV} {lo hi mx : Option AV} {H' : AH} {k : AV → AH → Prop} (h : evCutArr ti H t x lo hi mx = some (v, H')) (hk : k v H') : wpCutArr ti H t x lo hi mx k := by
  cases x with
  | ptr id off =>
    unfold evCutArr at h
    simp only at h
    split at h
    · rename_i h1
      unfold wpCutArr
      simp only [h1]
      split at h
      · rename_i h2 h3 h4
        simp only [h2, h3, h4]
        split at h
        · rename_i hd
          injection h with h; injection h with h5 h6; subst h5; subst h6
          simp only [Bool.and_eq_true] at hd
          exact ⟨of_decide_eq_true hd.1, Nat.eq_of_beq_eq_true hd.2, hk⟩
        · cases h
      · cases h
    · cases h
  | p y =>
    unfold evCutArr at h
    simp only at h
    split at h
    · split at h
      · rename_i h1
        unfold wpCutArr
        simp only [h1]
        split at h
        · rename_i h2 h3 h4
          simp only [h2, h3, h4]
          split at h
          · rename_i hd
            injection h with h; injection h with h5 h6; subst h5; subst h6
            exact ⟨of_decide_eq_true hd, _, rfl, hk⟩
          · cases h
        · cases h
      · cases h
    · cases y with
      | list nl xs =>
        unfold wpCutArr
        cases lo <;> cases hi <;> exact evSl_sound h hk
      | _ => exact evSl_sound h hk
    · cases h
  | buf id => exact .part (evSl_sound h hk)
  | sub id a b => exact evSl_sound h hk
  | _ => cases h
end
end Go.Abs
namespace Go.Abs
open Go.RowKit
/-! ### Frames -/
inductive Fr where
  | leaf
  | node (x : AV) (l r : Fr)
def Fr.get : Fr → Nat → AV
  | .leaf, _ => .dead
  | .node x l r, i => match Nat.beq i 0 with
    | true => x
    | false => match Nat.beq (i % 2) 1 with
      | true => l.get (i / 2)
      | false => r.get (i / 2 - 1)
def Fr.has : Fr → Nat → Bool
  | .leaf, _ => false
  | .node _ l r, i => match Nat.beq i 0 with
    | true => true
    | false => match Nat.beq (i % 2) 1 with
      | true => l.has (i / 2)
      | false => r.has (i / 2 - 1)
def Fr.set : Fr → Nat → AV → Fr
  | .leaf, _, _ => .leaf
  | .node x l r, i, v => match Nat.beq i 0 with
    | true => .node v l r
    | false => match Nat.beq (i % 2) 1 with
      | true => .node x (l.set (i / 2) v) r
      | false => .node x l (r.set (i / 2 - 1) v)
def Fr.of : Nat → (Nat → AV) → Fr
  | 0, _ => .leaf
  | d + 1, f => .node (f 0) (Fr.of d fun i => f (2 * i + 1)) (Fr.of d fun i => f (2 * i + 2))
theorem beq_f {a b : Nat} (h : Nat.beq a b = false) : a ≠ b := fun e => by rw [e, Nat.beq_refl] at h; cases h
theorem Fr.get_set : ∀ {t : Fr} {i : Nat} {v : AV}, t.has i = true → (t.set i v).get = setFr t.get i v
  | .leaf, i, v, h => by cases h
  | .node x l r, i, v, h => by
    funext j
    unfold Fr.has at h
    unfold Fr.set setFr
    cases hi : Nat.beq i 0 with
    | true =>
      have hi := Nat.eq_of_beq_eq_true hi
      subst hi
      cases hj : Nat.beq j 0 with
      | true => simp only [Fr.get, hj]
      | false => simp only [Fr.get, hj]
    | false =>
      have hi0 := beq_f hi
      simp only [hi] at h
      cases hp : Nat.beq (i % 2) 1 with
      | true =>
        have hp1 := Nat.eq_of_beq_eq_true hp
        simp only [hp] at h
        simp only [Fr.get]
        cases hj : Nat.beq j 0 with
        | true =>
          have hj := Nat.eq_of_beq_eq_true hj
          subst hj
          cases h2 : Nat.beq 0 i with
          | true => exact absurd (Nat.eq_of_beq_eq_true h2).symm hi0
          | false => simp only
        | false =>
          have hj0 := beq_f hj
          cases hq : Nat.beq (j % 2) 1 with
          | true =>
            have hq1 := Nat.eq_of_beq_eq_true hq
            simp only [Fr.get_set h, setFr]
            cases h2 : Nat.beq j i with
            | true => rw [Nat.eq_of_beq_eq_true h2, Nat.beq_refl]
            | false =>
              have := beq_f h2
              cases h3 : Nat.beq (j / 2) (i / 2) with
              | true => exact absurd (Nat.eq_of_beq_eq_true h3) (by omega)
              | false => rfl
          | false =>
            have hq1 := beq_f hq
            simp only
            cases h2 : Nat.beq j i with
            | true => exact absurd (Nat.eq_of_beq_eq_true h2) (by intro e; subst e; exact hq1 hp1)
            | false => rfl
      | false =>
        have hp1 := beq_f hp
        simp only [hp] at h
        simp only [Fr.get]
        cases hj : Nat.beq j 0 with
        | true =>
          have hj := Nat.eq_of_beq_eq_true hj
          subst hj
          cases h2 : Nat.beq 0 i with
          | true => exact absurd (Nat.eq_of_beq_eq_true h2).symm hi0
          | false => simp only
        | false =>
          have hj0 := beq_f hj
          cases hq : Nat.beq (j % 2) 1 with
          | true =>
            have hq1 := Nat.eq_of_beq_eq_true hq
            simp only
            cases h2 : Nat.beq j i with
            | true => exact absurd (Nat.eq_of_beq_eq_true h2) (by intro e; subst e; exact hp1 hq1)
            | false => rfl
          | false =>
            have hq1 := beq_f hq
            simp only [Fr.get_set h, setFr]
            cases h2 : Nat.beq j i with
            | true => rw [Nat.eq_of_beq_eq_true h2, Nat.beq_refl]
            | false =>
              have := beq_f h2
              cases h3 : Nat.beq (j / 2 - 1) (i / 2 - 1) with
              | true => exact absurd (Nat.eq_of_beq_eq_true h3) (by omega)
              | false => rfl
theorem Fr.get_of : ∀ {d : Nat} {f : Nat → AV} {i : Nat}, (Fr.of d f).get i = f i ∨ (Fr.of d f).has i = false ∧ (Fr.of d f).get i = .dead
  | 0, f, i => .inr ⟨rfl, rfl⟩
  | d + 1, f, i => by
    unfold Fr.of Fr.get Fr.has
    cases hi : Nat.beq i 0 with
    | true => rw [Nat.eq_of_beq_eq_true hi]; exact .inl rfl
    | false =>
      have hi0 := beq_f hi
      cases hp : Nat.beq (i % 2) 1 with
      | true =>
        have hp1 := Nat.eq_of_beq_eq_true hp
        have := Fr.get_of (d := d) (f := fun i => f (2 * i + 1)) (i := i / 2)
        simp only at this ⊢
        rwa [show 2 * (i / 2) + 1 = i by omega] at this
      | false =>
        have hp1 := beq_f hp
        have := Fr.get_of (d := d) (f := fun i => f (2 * i + 2)) (i := i / 2 - 1)
        simp only at this ⊢
        rwa [show 2 * (i / 2 - 1) + 2 = i by omega] at this
def hasAll (t : Fr) : Nat → Bool
  | 0 => true
  | n + 1 => t.has n && hasAll t n
theorem hasAll_has {t : Fr} : ∀ {n i : Nat}, hasAll t n = true → i < n → t.has i = true
  | n + 1, i, h, hi => by
    simp only [hasAll, Bool.and_eq_true] at h
    by_cases e : i = n
    · subst e; exact h.1
    · exact hasAll_has h.2 (by omega)
theorem Fr.of_args {d : Nat} {args : List AV} (h : hasAll (Fr.of d (frArgs args)) args.length = true) : (Fr.of d (frArgs args)).get = frArgs args := by
  funext i
  rcases Fr.get_of (d := d) (f := frArgs args) (i := i) with h1 | ⟨h1, h2⟩
  · exact h1
  · rw [h2]
    by_cases hi : i < args.length
    · rw [hasAll_has h hi] at h1; cases h1
    · unfold frArgs
      rw [List.getElem?_eq_none (by omega)]
/-! ### Normal forms -/
def nN {α : Type} (n : Nat) (k : Nat → α) : α := match n with
  | 0 => k 0
  | m + 1 => k (m + 1)
def nI {α : Type} (n : Int) (k : Int → α) : α := match n with
  | .ofNat m => nN m fun m => k (.ofNat m)
  | .negSucc m => nN m fun m => k (.negSucc m)
def nB {α : Type} (b : Bool) (k : Bool → α) : α := match b with
  | true => k true
  | false => k false
def nV {α : Type} (v : Value) (k : Value → α) : α := match v with
  | .int kd n => nI n fun n => k (.int kd n)
  | .bool b => nB b fun b => k (.bool b)
  | x => k x
def nA {α : Type} (v : AV) (k : AV → α) : α := match v with
  | .p (.v x) => nV x fun x => k (.p (.v x))
  | .ptr id off => nN id fun id => nN off fun off => k (.ptr id off)
  | .buf id => nN id fun id => k (.buf id)
  | .bptr id i off => nN id fun id => nN i fun i => nN off fun off => k (.bptr id i off)
  | .sub id lo hi => nN id fun id => nN lo fun lo => nN hi fun hi => k (.sub id lo hi)
  | x => k x
theorem nN_eq {α : Type} (n : Nat) (k : Nat → α) : nN n k = k n := by cases n <;> rfl
theorem nI_eq {α : Type} (n : Int) (k : Int → α) : nI n k = k n := by cases n <;> simp only [nI, nN_eq]
theorem nB_eq {α : Type} (b : Bool) (k : Bool → α) : nB b k = k b := by cases b <;> rfl
theorem nV_eq {α : Type} (v : Value) (k : Value → α) : nV v k = k v := by
  cases v <;> simp only [nV, nI_eq, nB_eq]
theorem nA_eq {α : Type} (v : AV) (k : AV → α) : nA v k = k v := by
  unfold nA
  split <;> simp only [nV_eq, nN_eq]
def nH {α : Type} : AH → (AH → α) → α
  | [], k => k []
  | o :: r, k => nH r fun r => k (o :: r)
theorem nH_eq {α : Type} : ∀ (H : AH) (k : AH → α), nH H k = k H
  | [], _ => rfl
  | o :: r, k => by unfold nH; rw [nH_eq r]
/-! ### Operations with effects -/
section
variable {P : Program} {ti : TypeId → Option TI} {H : AH}
def evStore (i : TI) (H : AH) (a x : AV) : EV := match a with
  | .ptr id off => match H[id]? with
    | some (some (.cells cs)) => match x.cells.all AV.one && Nat.beq x.cells.length i.size && Nat.ble (off + i.size) cs.length with
      | true => some (.dead, H.set id (some (.cells (setAt cs off x.cells))))
      | false => none
    | some (some (.arr xs)) => match i.k.isAgg, x with
      | false, .p y => match y.one && Nat.beq i.size 1, Nat.blt off xs.length with
        | true, true => some (.dead, H.set id (some (.arr (xs.set off y))))
        | _, _ => none
      | _, _ => none
    | _ => none
  | .bptr id ix off => match pvOf (frzAll H (avIds H x)) x, (frzAll H (avIds H x))[id]? with
    | some px, some (some (.buf e nl xs)) => match px.cells.all PV.one && Nat.beq px.cells.length i.size && Nat.blt 0 i.size, xs[ix]? with
      | true, some y => match Nat.ble (off + i.size) y.cells.length with
        | true => some (.dead, (frzAll H (avIds H x)).set id (some (.buf e nl (xs.set ix (y.setAt off px.cells)))))
        | false => none
      | _, _ => none
    | _, _ => none
  | _ => none
def evBuildS (ie : TI) (H1 : AH) (e : TypeId) (len : Nat) (parts : List (Nat × AV)) : EV :=
  match fillA (fun j => some (j * ie.size, ie.size)) (baseCells ie len) parts with
  | some cs => match allP cs with
    | some ps => match ps.all PV.one && Nat.ble (len * ie.size) 16777216 && Nat.blt 0 ie.size && (ie.k.isAgg || Nat.beq ie.size 1) with
      | true => some (.buf H1.length, H1 ++ [some (.buf e false (chunk ie.k.isAgg ie.size len ps))])
      | false => none
    | none => none
  | none => none
def evE (ti : TypeId → Option TI) (σ : AS) (H : AH) (op : Op) : EV := match op with
  | .alloc t => match ti t with
    | some i => match bigAr i with
      | true => some (.ptr H.length 0, H ++ [some (.arr (zeroP i))])
      | false => some (.ptr H.length 0, H ++ [some (.cells (zeroCells i))])
    | none => none
  | .box _ x => match (σ.ev x).cells.all AV.one with
    | true => some (.ptr H.length 0, H ++ [some (.cells (σ.ev x).cells)])
    | false => none
  | .makeSlice t l c => match ti t with
    | some ⟨.sl e, _, _, _⟩ => match ti e, asI (σ.ev l), asI (σ.ev c) with
      | some ⟨_, _ + 1, by_, z⟩, some l, some c => match decide (0 ≤ l ∧ l ≤ c ∧ (by_ : Int) * c ≤ 281474976710656 ∧ c ≤ 9223372036854775807) with
        | true => some (.buf H.length, H ++ [some (.buf e false (List.replicate l.toNat (pz z)))])
        | false => none
      | _, _, _ => none
    | _ => none
  | .buildSlice t len parts => match ti t with
    | some ⟨.sl e, _, _, _⟩ => match ti e with
      | some ie => evBuildS ie (frzAll H (parts.toList.flatMap fun p => avIds H (σ.ev p.2))) e len (parts.toList.map fun p => (p.1, thaw (frzAll H (parts.toList.flatMap fun p => avIds H (σ.ev p.2))) (σ.ev p.2)))
      | none => none
    | _ => none
  | .store t a x => match ti t with
    | some i => evStore i H (σ.ev a) (σ.ev x)
    | none => none
  | .call c => match c.callee with
    | .builtin .append => match c.args.toList, c.argTypes.toList with
      | [s, x], [t, t'] => match Nat.beq t t' with
        | true => evAppend ti H t (σ.ev s) (σ.ev x)
        | false => evAppZ ti H t t' (σ.ev s) (σ.ev x)
      | _, _ => none
    | .builtin .copy => match c.args.toList, c.argTypes.toList with
      | [x, y], [t, _] => evCopy ti H t (σ.ev x) (σ.ev y)
      | _, _ => none
    | .builtin .clear => match c.args.toList, c.argTypes.toList with
      | [x], [t] => evClear ti H t (σ.ev x)
      | _, _ => none
    | _ => none
  | .lookup t x ix ok => match evLookup ti H t ok (σ.ev x) (σ.ev ix) with
    | some v => some (v, H)
    | none => none
  | .makeMap _ r => match r with
    | none => some (.mp H.length, H ++ [some (.map [])])
    | some _ => none
  | .mapUpdate t x ix v => evMapUpdate ti H t (σ.ev x) (σ.ev ix) (σ.ev v)
  | .insert t x ix v => evMapUpdate ti H t (σ.ev x) (σ.ev ix) (σ.ev v)
  | .convert s d x => match evConvB ti H s d (σ.ev x) with
    | some v => some (v, H)
    | none => none
  | .slice t x lo hi mx => evCutArr ti H t (σ.ev x) (lo.map σ.ev) (hi.map σ.ev) (mx.map σ.ev)
  | _ => none
theorem evE_sound {σ : AS} {op : Op} {v : AV} {H' : AH} {k : AV → AH → Prop} (h : evE ti σ H op = some (v, H')) (hk : k v H') : wpE ti σ H op k := by
  unfold evE at h; unfold wpE
  split at h
  · split at h
    · rename_i hi
      simp only [hi]
      split at h
      · rename_i hb
        simp only [hb]
        injection h with h; injection h with h1 h2; subst h1; subst h2
        exact hk
      · rename_i hb
        simp only [hb]
        injection h with h; injection h with h1 h2; subst h1; subst h2
        exact hk
    · cases h
  · split at h
    · rename_i hb
      simp only [hb]
      injection h with h; injection h with h1 h2; subst h1; subst h2
      exact hk
    · cases h
  · split at h
    · rename_i hi
      simp only [hi]
      split at h
      · rename_i h1 h2 h3
        simp only [h1, h2, h3]
        split at h
        · rename_i hd
          injection h with h; injection h with h4 h5; subst h4; subst h5
          exact ⟨of_decide_eq_true hd, _, rfl, hk⟩
        · cases h
      · cases h
    · cases h
  · split at h
    · rename_i hi
      simp only [hi]
      split at h
      · rename_i hie
        simp only [hie]
        unfold evBuildS at h
        split at h
        · rename_i hf
          simp only [hf]
          split at h
          · rename_i hp
            simp only [hp]
            split at h
            · rename_i hd
              simp only [hd]
              injection h with h; injection h with h4 h5; subst h4; subst h5
              exact ⟨_, rfl, hk⟩
            · cases h
          · cases h
        · cases h
      · cases h
    · cases h
  · split at h
    · rename_i i hi
      simp only [hi]
      unfold evStore at h
      split at h
      · rename_i ha
        simp only [ha]
        split at h
        · rename_i hc
          simp only [hc]
          split at h
          · rename_i hd
            simp only [hd]
            injection h with h; injection h with h4 h5; subst h4; subst h5
            exact hk
          · cases h
        · rename_i hc
          simp only [hc]
          split at h
          · rename_i hg hx
            split at h
            · rename_i h1 h2
              injection h with h; injection h with h4 h5; subst h4; subst h5
              unfold wpStoreArr
              simp only [hg, hx, h1]
              exact ⟨_, _, rfl, Nat.le_of_ble_eq_true h2, rfl, hk⟩
            · cases h
          · cases h
        · cases h
      · rename_i ha
        simp only [ha]
        split at h
        · rename_i h1 h2
          simp only [h1, h2]
          split at h
          · rename_i h3 h4
            simp only [h3]
            split at h
            · rename_i h5
              injection h with h; injection h with h6 h7; subst h6; subst h7
              exact ⟨_, Int.natCast_nonneg _, h4, by simp only [h5]; exact ⟨_, rfl, hk⟩⟩
            · cases h
          · cases h
        · cases h
      · cases h
    · cases h
  · split at h
    · rename_i hc
      simp only [hc]
      split at h
      · rename_i h1 h2
        simp only [h1, h2]
        split at h
        · rename_i hb
          simp only [hb]
          exact evAppend_sound h hk
        · rename_i hb
          simp only [hb]
          exact evAppZ_sound h hk
      · cases h
    · rename_i hc
      simp only [hc]
      split at h
      · rename_i h1 h2
        simp only [h1, h2]
        exact evCopy_sound h hk
      · cases h
    · rename_i hc
      simp only [hc]
      split at h
      · rename_i h1 h2
        simp only [h1, h2]
        exact evClear_sound h hk
      · cases h
    · cases h
  · split at h
    · rename_i hl
      injection h with h; injection h with h4 h5; subst h4; subst h5
      exact evLookup_sound hl hk
    · cases h
  · split at h
    · injection h with h; injection h with h4 h5; subst h4; subst h5
      exact hk
    · cases h
  · exact evMapUpdate_sound h hk
  · exact evMapUpdate_sound h hk
  · split at h
    · rename_i hl
      injection h with h; injection h with h4 h5; subst h4; subst h5
      exact evConvB_sound hl hk
    · cases h
  · exact evCutArr_sound h hk
  · cases h
end
end Go.Abs
namespace Go.Abs
open Go.RowKit
section
variable {P : Program} {ti : TypeId → Option TI}
/-- A call's answer; a call within a quiet region. -/
abbrev CF := FuncId → List AV → AH → EV
abbrev CQ := FuncId → List AV → AH → Option Value
def CF.ok (P : Program) (C : CF) : Prop := ∀ f args H v H', C f args H = some (v, H') → ∀ K : AV → AH → Prop, K v H' → CallA P f args H K
def CQ.ok (P : Program) (C : CQ) : Prop := ∀ f args H v, C f args H = some v → ∀ K : AV → Prop, K (.p (.v v)) → CallQ P f args H K
def evCall (C : CF) (σ : AS) (H : AH) (op : Op) : EV := match op with
  | .call c => match c.callee with
    | .value f => match σ.ev f with
      | .clo (.func g) caps => C g (c.args.toList.map σ.ev ++ caps) H
      | _ => none
    | _ => none
  | _ => none
theorem evCall_sound {C : CF} (hC : C.ok P) {σ : AS} {H : AH} {op : Op} {v : AV} {H' : AH} {k : AV → AH → Prop} (h : evCall C σ H op = some (v, H')) (hk : k v H') : wpCall P σ H op k := by
  unfold evCall at h; unfold wpCall
  split at h
  · split at h
    · rename_i hc
      simp only [hc]
      split at h
      · rename_i hf
        simp only [hf, evArgs_eq]
        exact hC _ _ _ _ _ h k hk
      · cases h
    · cases h
  · cases h
def evOp (ti : TypeId → Option TI) (C : CF) (fr : Fr) (H : AH) (op : Op) : EV := match kindOp op with
  | .quiet => match evQ ti ⟨fr.get, H⟩ op with
    | some v => some (v, H)
    | none => none
  | .eff => match evE ti ⟨fr.get, H⟩ H op with
    | some (v, H') => nH H' fun H' => some (v, H')
    | none => none
  | .call => evCall C ⟨fr.get, H⟩ H op
theorem evOp_sound {C : CF} (hC : C.ok P) {fr : Fr} {H : AH} {op : Op} {v : AV} {H' : AH} {k : AV → AH → Prop} (h : evOp ti C fr H op = some (v, H')) (hk : k v H') : wpOp P ti fr.get H op k := by
  unfold evOp at h; unfold wpOp
  split at h
  · rename_i ho
    simp only [ho]
    split at h
    · rename_i hq
      injection h with h; injection h with h1 h2; subst h1; subst h2
      exact evQ_sound hq hk
    · cases h
  · rename_i ho
    simp only [ho]
    split at h
    · rename_i hq
      rw [nH_eq] at h
      injection h with h; injection h with h1 h2; subst h1; subst h2
      exact evE_sound hq hk
    · cases h
  · rename_i ho
    simp only [ho]
    exact evCall_sound hC h hk
def evCallQ (C : CQ) (σ : AS) (H : AH) (op : Op) : Option AV := match op with
  | .call c => match c.callee with
    | .value f => match σ.ev f with
      | .clo (.func g) caps => match C g (c.args.toList.map σ.ev ++ caps) H with
        | some x => some (.p (.v x))
        | none => none
      | _ => none
    | _ => none
  | _ => none
theorem evCallQ_sound {C : CQ} (hC : C.ok P) {σ : AS} {H : AH} {op : Op} {v : AV} {k : AV → Prop} (h : evCallQ C σ H op = some v) (hk : k v) : wpCallQ P σ H op k := by
  unfold evCallQ at h; unfold wpCallQ
  split at h
  · split at h
    · rename_i hc
      simp only [hc]
      split at h
      · rename_i hf
        simp only [hf, evArgs_eq]
        split at h
        · rename_i hx
          injection h with h; subst h
          exact hC _ _ _ _ hx k hk
        · cases h
      · cases h
    · cases h
  · cases h
def evOpQ (ti : TypeId → Option TI) (C : CQ) (fr : Fr) (H : AH) (op : Op) : Option AV := match kindOp op with
  | .call => evCallQ C ⟨fr.get, H⟩ H op
  | _ => evQ ti ⟨fr.get, H⟩ op
theorem evOpQ_sound {C : CQ} (hC : C.ok P) {fr : Fr} {H : AH} {op : Op} {v : AV} {k : AV → Prop} (h : evOpQ ti C fr H op = some v) (hk : k v) : wpOpQ P ti true fr.get H op k := by
  unfold evOpQ at h; unfold wpOpQ
  cases ho : kindOp op with
  | call =>
    simp only [ho] at h ⊢
    exact evCallQ_sound hC h hk
  | quiet =>
    simp only [ho] at h ⊢
    exact evQ_sound h hk
  | eff =>
    simp only [ho] at h ⊢
    exact evQ_sound h hk
/-! ### Guards, results -/
def evPut (nt : Nat) (dst : Option Tmp) (fr : Fr) (v : AV) : Option Fr := match dst with
  | none => some fr
  | some d => match Nat.blt d nt && fr.has d with
    | true => nA v fun v => some (fr.set d v)
    | false => none
theorem evPut_sound {nt : Nat} {dst : Option Tmp} {fr fr' : Fr} {h : AH} {v : AV} {k : AS → Prop} (he : evPut nt dst fr v = some fr') (hk : k ⟨fr'.get, h⟩) : wpPut nt dst fr.get h v k := by
  unfold evPut at he; unfold wpPut
  split at he
  · injection he with he; subst he
    simp only [frcH_eq]
    exact hk
  · split at he
    · rename_i hd
      simp only [Bool.and_eq_true] at hd
      rw [nA_eq] at he
      injection he with he; subst he
      simp only [hd.1, frc_eq, frcH_eq]
      rw [← Fr.get_set hd.2]
      exact hk
    · cases he
theorem setFr_self {fr : Nat → AV} {d : Nat} {x : AV} (h : fr d = x) : setFr fr d x = fr := by
  funext s
  unfold setFr
  cases hb : Nat.beq s d with
  | true => rw [Nat.eq_of_beq_eq_true hb, h]
  | false => rfl
def evGuard (ops : List Oper) (g : Option (Nat × Bool)) (fr : Fr) : Option Bool := match g with
  | none => some true
  | some (j, want) => match ops[j]? with
    | some oj => match oj.dst with
      | some d => match fr.get d with
        | .p (.v (.bool b)) => match want with
          | true => some b
          | false => some (!b)
        | .tup [] => some false
        | _ => none
      | none => none
    | none => none
theorem evGuard_sound {ops : List Oper} {g : Option (Nat × Bool)} {fr : Fr} {b : Bool} {yes no : (Nat → AV) → Prop} (h : evGuard ops g fr = some b) (hy : b = true → yes fr.get) (hn : b = false → no fr.get) : wpGuard ops g fr.get yes no := by
  unfold evGuard at h; unfold wpGuard
  split at h
  · injection h with h; subst h
    exact hy rfl
  · split at h
    · rename_i ho
      simp only [ho]
      split at h
      · rename_i hd
        simp only [hd]
        split at h
        · rename_i b0 hf
          simp only [hf]
          split at h
          · injection h with h; subst h
            unfold br
            cases b0 with
            | true => simp only; rw [setFr_self hf]; exact hy rfl
            | false => simp only; rw [setFr_self hf]; exact hn rfl
          · injection h with h; subst h
            unfold br
            cases b0 with
            | true => simp only; rw [setFr_self hf]; exact hn rfl
            | false => simp only; rw [setFr_self hf]; exact hy rfl
        · rename_i hf
          simp only [hf]
          injection h with h; subst h
          exact hn rfl
        · cases h
      · cases h
    · cases h
abbrev ER := Option (Fr × AH)
def evOps (ti : TypeId → Option TI) (C : CF) (nt : Nat) (ops : List Oper) : List Oper → Fr → AH → ER
  | [], fr, H => some (fr, H)
  | o :: rest, fr, H => match evGuard ops o.guard fr with
    | some true => match evOp ti C fr H o.op with
      | some (v, H') => match evPut nt o.dst fr v with
        | some fr' => evOps ti C nt ops rest fr' H'
        | none => none
      | none => none
    | some false => match evPut nt o.dst fr (.tup []) with
      | some fr' => evOps ti C nt ops rest fr' H
      | none => none
    | none => none
theorem evOps_sound {C : CF} (hC : C.ok P) {nt : Nat} {ops : List Oper} {K : AS → Prop} : ∀ {rest : List Oper} {fr fr' : Fr} {H H' : AH}, evOps ti C nt ops rest fr H = some (fr', H') → K ⟨fr'.get, H'⟩ → wpOps P ti nt ops rest K ⟨fr.get, H⟩
  | [], fr, fr', H, H', h, hk => by
    injection h with h; injection h with h1 h2; subst h1; subst h2
    exact hk
  | o :: rest, fr, fr', H, H', h, hk => by
    unfold evOps at h
    unfold wpOps
    split at h
    · rename_i hg
      split at h
      · rename_i v H1 ho
        split at h
        · rename_i fr1 hp
          exact evGuard_sound hg (fun _ => evOp_sound hC ho (evPut_sound hp (evOps_sound hC h hk))) (fun e => by cases e)
        · cases h
      · cases h
    · rename_i hg
      split at h
      · rename_i hp
        exact evGuard_sound hg (fun e => by cases e) (fun _ => evPut_sound hp (evOps_sound hC h hk))
      · cases h
    · cases h
def evOpsQ (ti : TypeId → Option TI) (C : CQ) (nt : Nat) (ops : List Oper) : List Oper → Fr → AH → Option Fr
  | [], fr, _ => some fr
  | o :: rest, fr, H => match evGuard ops o.guard fr with
    | some true => match evOpQ ti C fr H o.op with
      | some v => match evPut nt o.dst fr v with
        | some fr' => evOpsQ ti C nt ops rest fr' H
        | none => none
      | none => none
    | some false => match evPut nt o.dst fr (.tup []) with
      | some fr' => evOpsQ ti C nt ops rest fr' H
      | none => none
    | none => none
theorem evOpsQ_sound {C : CQ} (hC : C.ok P) {nt : Nat} {ops : List Oper} {K : AS → Prop} : ∀ {rest : List Oper} {fr fr' : Fr} {H : AH}, evOpsQ ti C nt ops rest fr H = some fr' → K ⟨fr'.get, H⟩ → wpOpsQ P ti nt true ops rest K ⟨fr.get, H⟩
  | [], fr, fr', H, h, hk => by
    injection h with h; subst h
    exact hk
  | o :: rest, fr, fr', H, h, hk => by
    unfold evOpsQ at h
    unfold wpOpsQ
    split at h
    · rename_i hg
      split at h
      · rename_i v ho
        split at h
        · rename_i fr1 hp
          exact evGuard_sound hg (fun _ => evOpQ_sound hC ho (evPut_sound hp (evOpsQ_sound hC h hk))) (fun e => by cases e)
        · cases h
      · cases h
    · rename_i hg
      split at h
      · rename_i hp
        exact evGuard_sound hg (fun e => by cases e) (fun _ => evPut_sound hp (evOpsQ_sound hC h hk))
      · cases h
    · cases h
/-! ### Regions that draw their order -/
def eqFr : Fr → Fr → Bool
  | .leaf, .leaf => true
  | .node x l r, .node y l' r' => eqA x y && eqFr l l' && eqFr r r'
  | _, _ => false
theorem eqFr_eq : ∀ {a b : Fr}, eqFr a b = true → a = b
  | .leaf, .leaf, _ => rfl
  | .node x l r, .node y l' r', h => by
    simp only [eqFr, Bool.and_eq_true] at h
    rw [eqA_eq h.1.1, eqFr_eq h.1.2, eqFr_eq h.2]
  | .leaf, .node _ _ _, h => by cases h
  | .node _ _ _, .leaf, h => by cases h
def eqE : List (Value × Value) → List (Value × Value) → Bool
  | [], [] => true
  | (a, b) :: r, (c, d) :: s => eqV a c && eqV b d && eqE r s
  | _, _ => false
theorem eqE_eq : ∀ {a b : List (Value × Value)}, eqE a b = true → a = b
  | [], [], _ => rfl
  | (a, b) :: r, (c, d) :: s, h => by
    simp only [eqE, Bool.and_eq_true] at h
    rw [eqV_eq h.1.1, eqV_eq h.1.2, eqE_eq h.2]
  | [], _ :: _, h => by cases h
  | _ :: _, [], h => by cases h
def eqO : AO → AO → Bool
  | .cells a, .cells b => eqAL a b
  | .buf e n xs, .buf f m ys => Nat.beq e f && n == m && eqPL xs ys
  | .frz n xs, .frz m ys => n == m && eqPL xs ys
  | .map a, .map b => eqE a b
  | .arr a, .arr b => eqPL a b
  | _, _ => false
theorem eqO_eq {a b : AO} (h : eqO a b = true) : a = b := by
  unfold eqO at h
  split at h
  · rw [eqAL_eq h]
  · simp only [Bool.and_eq_true, beq_iff_eq] at h
    rw [Nat.eq_of_beq_eq_true h.1.1, h.1.2, eqPL_eq h.2]
  · simp only [Bool.and_eq_true, beq_iff_eq] at h
    rw [h.1, eqPL_eq h.2]
  · rw [eqE_eq h]
  · rw [eqPL_eq h]
  · cases h
def eqAH : AH → AH → Bool
  | [], [] => true
  | none :: r, none :: s => eqAH r s
  | some a :: r, some b :: s => eqO a b && eqAH r s
  | _, _ => false
theorem eqAH_eq : ∀ {a b : AH}, eqAH a b = true → a = b
  | [], [], _ => rfl
  | none :: r, none :: s, h => by rw [eqAH_eq (show eqAH r s = true from h)]
  | some a :: r, some b :: s, h => by
    simp only [eqAH, Bool.and_eq_true] at h
    rw [eqO_eq h.1, eqAH_eq h.2]
  | [], _ :: _, h => by cases h
  | none :: _, [], h => by cases h
  | some _ :: _, [], h => by cases h
  | none :: _, some _ :: _, h => by cases h
  | some _ :: _, none :: _, h => by cases h
def eqER (a b : Fr × AH) : Bool := eqFr a.1 b.1 && eqAH a.2 b.2
theorem eqER_eq {a b : Fr × AH} (h : eqER a b = true) : a = b := by
  unfold eqER at h
  simp only [Bool.and_eq_true] at h
  exact Prod.ext (eqFr_eq h.1) (eqAH_eq h.2)
def evFacts (ti : TypeId → Option TI) (H : AH) : List Fact → Bool
  | [] => true
  | f :: fs => match evQ ti ⟨f.fr, H⟩ f.o.op with
    | some (.p y) => eqP y f.p && evFacts ti H fs
    | _ => false
theorem evFacts_sound {H : AH} {K : Prop} (hk : K) : ∀ {fs : List Fact}, evFacts ti H fs = true → factsOK ti H fs K
  | [], _ => hk
  | f :: fs, h => by
    unfold evFacts at h
    split at h
    · rename_i hq
      simp only [Bool.and_eq_true] at h
      refine evQ_sound hq ⟨by rw [eqP_eq h.1], evFacts_sound hk h.2⟩
    · cases h
/-- One operation of a region, with effects. -/
def evStep (ti : TypeId → Option TI) (C : CF) (nt : Nat) (ops : List Oper) (i : Nat) (fr : Fr) (H : AH) : ER := match ops[i]? with
  | some o => match evGuard ops o.guard fr with
    | some true => match evOp ti C fr H o.op with
      | some (v, H') => match evPut nt o.dst fr v with
        | some fr' => some (fr', H')
        | none => none
      | none => none
    | some false => match evPut nt o.dst fr (.tup []) with
      | some fr' => some (fr', H)
      | none => none
    | none => none
  | none => none
theorem evStep_sound {C : CF} (hC : C.ok P) {nt i : Nat} {ops : List Oper} {K : AS → Prop} {fr fr' : Fr} {H H' : AH} (h : evStep ti C nt ops i fr H = some (fr', H')) (hk : K ⟨fr'.get, H'⟩) : wpStep P ti nt ops i K ⟨fr.get, H⟩ := by
  unfold evStep at h
  unfold wpStep
  split at h
  · rename_i ho
    simp only [ho]
    split at h
    · rename_i hg
      split at h
      · rename_i v H1 ho
        split at h
        · rename_i fr1 hp
          injection h with h; injection h with h1 h2; subst h1; subst h2
          exact evGuard_sound hg (fun _ => evOp_sound hC ho (evPut_sound hp hk)) (fun e => by cases e)
        · cases h
      · cases h
    · rename_i hg
      split at h
      · rename_i hp
        injection h with h; injection h with h1 h2; subst h1; subst h2
        exact evGuard_sound hg (fun e => by cases e) (fun _ => evPut_sound hp hk)
      · cases h
    · cases h
  · cases h
/-- A script of orders, run. -/
def evSc (ti : TypeId → Option TI) (C : CF) (nt : Nat) (ops : List Oper) : Sc → List Fact → Fr → AH → ER
  | .done, _, fr, H => some (fr, H)
  | .take i k, fs, fr, H => match ops[i]? with
    | some o => match isLoad o.op with
      | true => none
      | false => match evGuard ops o.guard fr with
        | some true => match evQ ti ⟨fr.get, H⟩ o.op with
          | some v => match evPut nt o.dst fr v with
            | some fr' => evSc ti C nt ops k fs fr' H
            | none => none
          | none => none
        | some false => match evPut nt o.dst fr (.tup []) with
          | some fr' => evSc ti C nt ops k fs fr' H
          | none => none
        | none => none
    | none => none
  | .load i k, fs, fr, H => match ops[i]? with
    | some o => match o.guard with
      | none => match evQ ti ⟨fr.get, H⟩ o.op with
        | some (.p y) => match mkFact fr.get o y, evPut nt o.dst fr (.p y) with
          | some F, some fr' => evSc ti C nt ops k (F :: fs) fr' H
          | _, _ => none
        | _ => none
      | some _ => none
    | none => none
  | .frz i k, fs, fr, H => match ops[i]? with
    | some o => match evGuard ops o.guard fr with
      | some true => match o.op with
        | .load t x => match (AS.mk fr.get H).ev x with
          | .rptr cs => match evLoad ti H t (.rptr cs) with
            | some v => match evPut nt o.dst fr v with
              | some fr' => evSc ti C nt ops k fs fr' H
              | none => none
            | none => none
          | _ => none
        | _ => none
      | some false => match evPut nt o.dst fr (.tup []) with
        | some fr' => evSc ti C nt ops k fs fr' H
        | none => none
      | none => none
    | none => none
  | .one i k, fs, fr, H => match evStep ti C nt ops i fr H with
    | some (fr', H') => match evFacts ti H' fs with
      | true => evSc ti C nt ops k fs fr' H'
      | false => none
    | none => none
  | .two i j k l, fs, fr, H => match evStep ti C nt ops i fr H, evStep ti C nt ops j fr H with
    | some (fr1, H1), some (fr2, H2) => match evFacts ti H1 fs && evFacts ti H2 fs with
      | true => match evSc ti C nt ops k fs fr1 H1, evSc ti C nt ops l fs fr2 H2 with
        | some r, some s => match eqER r s with
          | true => some r
          | false => none
        | _, _ => none
      | false => none
    | _, _ => none
  | .three i j q k l p, fs, fr, H => match evStep ti C nt ops i fr H, evStep ti C nt ops j fr H, evStep ti C nt ops q fr H with
    | some (fr1, H1), some (fr2, H2), some (fr3, H3) => match evFacts ti H1 fs && evFacts ti H2 fs && evFacts ti H3 fs with
      | true => match evSc ti C nt ops k fs fr1 H1, evSc ti C nt ops l fs fr2 H2, evSc ti C nt ops p fs fr3 H3 with
        | some r, some s, some t => match eqER r s && eqER r t with
          | true => some r
          | false => none
        | _, _, _ => none
      | false => none
    | _, _, _ => none
def mkSc (c : Nat) (i : Nat) (k : Sc) : Sc := match c with
  | 0 => .take i k
  | 1 => .load i k
  | _ => .frz i k
/-- An operation without effects, taken early: how, and what is then. -/
def evTry (ti : TypeId → Option TI) (nt : Nat) (ops : List Oper) (i : Nat) (fs : List Fact) (fr : Fr) (H : AH) : Option (Nat × Fr × List Fact) := match ops[i]? with
  | some o => match isLoad o.op with
    | false => match evGuard ops o.guard fr with
      | some true => match evQ ti ⟨fr.get, H⟩ o.op with
        | some v => match evPut nt o.dst fr v with
          | some fr' => some (0, fr', fs)
          | none => none
        | none => none
      | some false => match evPut nt o.dst fr (.tup []) with
        | some fr' => some (0, fr', fs)
        | none => none
      | none => none
    | true => match o.op with
      | .load t x => match evGuard ops o.guard fr with
        | some true => match (AS.mk fr.get H).ev x with
          | .rptr cs => match evLoad ti H t (.rptr cs) with
            | some v => match evPut nt o.dst fr v with
              | some fr' => some (2, fr', fs)
              | none => none
            | none => none
          | _ => match o.guard with
            | none => match evQ ti ⟨fr.get, H⟩ o.op with
              | some (.p y) => match mkFact fr.get o y, evPut nt o.dst fr (.p y) with
                | some F, some fr' => some (1, fr', F :: fs)
                | _, _ => none
              | _ => none
            | some _ => none
        | some false => match evPut nt o.dst fr (.tup []) with
          | some fr' => some (2, fr', fs)
          | none => none
        | none => none
      | _ => none
  | none => none
theorem evTry_sound {nt : Nat} {ops : List Oper} {K : AS → Prop} {i c : Nat} {fs fs' : List Fact} {fr fr' : Fr} {H : AH} {sc : Sc} (h : evTry ti nt ops i fs fr H = some (c, fr', fs')) (hk : wpSc P ti nt ops sc fs' K ⟨fr'.get, H⟩) : wpSc P ti nt ops (mkSc c i sc) fs K ⟨fr.get, H⟩ := by
  unfold evTry at h
  split at h
  · rename_i o ho
    split at h
    · rename_i hl
      split at h
      · rename_i hg
        split at h
        · rename_i hq
          split at h
          · rename_i hp
            injection h with h; injection h with h1 h2; injection h2 with h2 h3; subst h1; subst h2; subst h3
            unfold mkSc wpSc
            simp only [ho, hl]
            exact evGuard_sound hg (fun _ => evQ_sound hq (evPut_sound hp hk)) (fun e => by cases e)
          · cases h
        · cases h
      · rename_i hg
        split at h
        · rename_i hp
          injection h with h; injection h with h1 h2; injection h2 with h2 h3; subst h1; subst h2; subst h3
          unfold mkSc wpSc
          simp only [ho, hl]
          exact evGuard_sound hg (fun e => by cases e) (fun _ => evPut_sound hp hk)
        · cases h
      · cases h
    · split at h
      · rename_i t x hop
        split at h
        · rename_i hg
          split at h
          · rename_i cs hx
            split at h
            · rename_i hl
              split at h
              · rename_i hp
                injection h with h; injection h with h1 h2; injection h2 with h2 h3; subst h1; subst h2; subst h3
                unfold mkSc wpSc
                simp only [ho]
                refine evGuard_sound hg (fun _ => ?_) (fun e => by cases e)
                simp only [hop, hx]
                exact evLoad_sound hl (evPut_sound hp hk)
              · cases h
            · cases h
          · split at h
            · rename_i hgn
              split at h
              · rename_i hq
                split at h
                · rename_i hF hp
                  injection h with h; injection h with h1 h2; injection h2 with h2 h3; subst h1; subst h2; subst h3
                  unfold mkSc wpSc
                  simp only [ho, hgn]
                  refine evQ_sound hq ?_
                  simp only [hF]
                  exact evPut_sound hp hk
                · cases h
              · cases h
            · cases h
        · rename_i hg
          split at h
          · rename_i hp
            injection h with h; injection h with h1 h2; injection h2 with h2 h3; subst h1; subst h2; subst h3
            unfold mkSc wpSc
            simp only [ho]
            exact evGuard_sound hg (fun e => by cases e) (fun _ => evPut_sound hp hk)
          · cases h
        · cases h
      · cases h
  · cases h
def evFindQ (ti : TypeId → Option TI) (nt : Nat) (ops : List Oper) (ls : Array Bool) (fs : List Fact) (fr : Fr) (H : AH) : List Nat → Option (Nat × Nat × Fr × List Fact)
  | [] => none
  | i :: r => match Region.free .any ops.toArray ls i with
    | true => match evTry ti nt ops i fs fr H with
      | some (c, fr', fs') => some (i, c, fr', fs')
      | none => evFindQ ti nt ops ls fs fr H r
    | false => evFindQ ti nt ops ls fs fr H r
theorem evFindQ_spec {nt : Nat} {ops : List Oper} {ls : Array Bool} {fs : List Fact} {fr : Fr} {H : AH} {i c : Nat} {fr' : Fr} {fs' : List Fact} : ∀ {r : List Nat}, evFindQ ti nt ops ls fs fr H r = some (i, c, fr', fs') → i ∈ r ∧ Region.free .any ops.toArray ls i = true ∧ evTry ti nt ops i fs fr H = some (c, fr', fs')
  | [], h => by cases h
  | j :: r, h => by
    unfold evFindQ at h
    split at h
    · rename_i hf
      split at h
      · rename_i ht
        injection h with h; injection h with h1 h2; injection h2 with h2 h3; injection h3 with h3 h4; subst h1; subst h2; subst h3; subst h4
        exact ⟨List.mem_cons_self .., hf, ht⟩
      · obtain ⟨h1, h2⟩ := evFindQ_spec h
        exact ⟨List.mem_cons_of_mem _ h1, h2⟩
    · obtain ⟨h1, h2⟩ := evFindQ_spec h
      exact ⟨List.mem_cons_of_mem _ h1, h2⟩
/-- All orders of a region, as far as they can differ. -/
def evAuto (ti : TypeId → Option TI) (C : CF) (nt : Nat) (ops : List Oper) : Nat → Array Bool → List Fact → Fr → AH → ER
  | 0, ls, _, fr, H => match (Region.ready .any ops.toArray ls).isEmpty with
    | true => some (fr, H)
    | false => none
  | n + 1, ls, fs, fr, H => match Region.ready .any ops.toArray ls with
    | [] => some (fr, H)
    | i :: r => match evFindQ ti nt ops ls fs fr H (i :: r) with
      | some (j, _, fr', fs') => evAuto ti C nt ops n (ls.setIfInBounds j true) fs' fr' H
      | none => match r with
        | [] => match evStep ti C nt ops i fr H with
          | some (fr', H') => match evFacts ti H' fs && ops[i]?.isSome with
            | true => evAuto ti C nt ops n (ls.setIfInBounds i true) fs fr' H'
            | false => none
          | none => none
        | [j] => match evStep ti C nt ops i fr H, evStep ti C nt ops j fr H with
          | some (fr1, H1), some (fr2, H2) => match evFacts ti H1 fs && evFacts ti H2 fs && (ops[i]?.isSome && ops[j]?.isSome) with
            | true => match evAuto ti C nt ops n (ls.setIfInBounds i true) fs fr1 H1, evAuto ti C nt ops n (ls.setIfInBounds j true) fs fr2 H2 with
              | some r, some s => match eqER r s with
                | true => some r
                | false => none
              | _, _ => none
            | false => none
          | _, _ => none
        | _ => none
theorem evAuto_sound {C : CF} (hC : C.ok P) {nt : Nat} {ops : List Oper} : ∀ {n : Nat} {ls : Array Bool} {fs : List Fact} {fr : Fr} {H : AH} {r : Fr × AH}, evAuto ti C nt ops n ls fs fr H = some r →
    ∃ sc, scB ops.toArray sc n ls = true ∧ ∀ K : AS → Prop, K ⟨r.1.get, r.2⟩ → wpSc P ti nt ops sc fs K ⟨fr.get, H⟩
  | 0, ls, fs, fr, H, r, h => by
    unfold evAuto at h
    split at h
    · rename_i he
      injection h with h; subst h
      exact ⟨.done, by simp only [scB, he], fun K hk => hk⟩
    · cases h
  | n + 1, ls, fs, fr, H, r, h => by
    unfold evAuto at h
    split at h
    · rename_i he
      injection h with h; subst h
      exact ⟨.done, by simp only [scB, he]; rfl, fun K hk => hk⟩
    · rename_i i r0 hr
      split at h
      · rename_i j c fr' fs' hq
        obtain ⟨h1, h2, h3⟩ := evFindQ_spec hq
        obtain ⟨sc, h4, h5⟩ := evAuto_sound hC h
        refine ⟨mkSc c j sc, ?_, fun K hk => evTry_sound h3 (h5 K hk)⟩
        have h6 : (Region.ready .any ops.toArray ls).contains j = true := by rw [hr]; exact List.contains_iff_mem.2 h1
        unfold mkSc
        split <;> simp only [scB, h6, h2, h4, Bool.and_self]
      · split at h
        · split at h
          · rename_i hs
            split at h
            · rename_i hf
              simp only [Bool.and_eq_true] at hf
              obtain ⟨sc, h4, h5⟩ := evAuto_sound hC h
              refine ⟨.one i sc, ?_, fun K hk => ?_⟩
              · simp only [scB, hr, h4, Bool.and_true, List.getElem?_toArray, hf.2]
                exact beq_self_eq_true [i]
              · unfold wpSc
                exact evStep_sound hC hs (evFacts_sound (h5 K hk) hf.1)
            · cases h
          · cases h
        · rename_i j _
          split at h
          · rename_i hs1 hs2
            split at h
            · rename_i hf
              simp only [Bool.and_eq_true] at hf
              split at h
              · rename_i ha hb
                split at h
                · rename_i he
                  injection h with h; subst h
                  have he := eqER_eq he
                  obtain ⟨sc, h4, h5⟩ := evAuto_sound hC ha
                  obtain ⟨sc2, h6, h7⟩ := evAuto_sound hC hb
                  refine ⟨.two i j sc sc2, ?_, fun K hk => ?_⟩
                  · simp only [scB, hr, h4, h6, Bool.and_true, List.getElem?_toArray, hf.2.1, hf.2.2]
                    exact beq_self_eq_true [i, j]
                  · unfold wpSc
                    exact ⟨evStep_sound hC hs1 (evFacts_sound (h5 K hk) hf.1.1), evStep_sound hC hs2 (evFacts_sound (h7 K (he ▸ hk)) hf.1.2)⟩
                · cases h
              · cases h
            · cases h
          · cases h
        · cases h
def evDraw2 (ti : TypeId → Option TI) (C : CF) (nt : Nat) (ops : List Oper) (fr : Fr) (H : AH) : ER := match Region.noSelect ops.toArray with
  | true => evAuto ti C nt ops ops.length (Array.replicate ops.length false) [] fr H
  | false => none
def evDraw (ti : TypeId → Option TI) (C : CF) (Q : CQ) (nt : Nat) (ops : List Oper) (fr : Fr) (H : AH) : ER := match Region.lexB .any ops.toArray with
  | true => match evOpsQ ti Q nt ops ops fr H with
    | some fr' => some (fr', H)
    | none => evDraw2 ti C nt ops fr H
  | false => evDraw2 ti C nt ops fr H
theorem evDraw2_sound {C : CF} (hm : P.follows .mixedOrders = true) (hC : C.ok P) {nt k0 : Nat} {ops : List Oper} {K : AS → Prop} {fr : Fr} {H : AH} {r : Fr × AH} (h : evDraw2 ti C nt ops fr H = some r) (hk : K ⟨r.1.get, r.2⟩) : DrawA true P ti nt k0 ops K ⟨fr.get, H⟩ := by
  unfold evDraw2 at h
  split at h
  · rename_i hn
    obtain ⟨sc, h1, h2⟩ := evAuto_sound hC h
    exact .orders sc hm hn h1 (h2 K hk)
  · cases h
theorem evDraw_sound {C : CF} {Q : CQ} (hm : P.follows .mixedOrders = true) (hC : C.ok P) (hQ : Q.ok P) {nt k0 : Nat} {ops : List Oper} {K : AS → Prop} {fr : Fr} {H : AH} {r : Fr × AH} (h : evDraw ti C Q nt ops fr H = some r) (hk : K ⟨r.1.get, r.2⟩) : DrawA true P ti nt k0 ops K ⟨fr.get, H⟩ := by
  unfold evDraw at h
  split at h
  · rename_i hb
    split at h
    · rename_i hq
      injection h with h; subst h
      exact .quiet hm hb (evOpsQ_sound hQ hq hk)
    · exact evDraw2_sound hm hC h hk
  · exact evDraw2_sound hm hC h hk
/-! ### Code -/
def evC (ti : TypeId → Option TI) (C : CF) (Q : CQ) (nt : Nat) : Nat → Code → Fr → AH → Option (Exit × Fr × AH)
  | 0, _, _, _ => none
  | n + 1, c, fr, H => match c with
    | .skip => some (.normal, fr, H)
    | .region _ ops draw => match draw with
      | true => match evDraw ti C Q nt ops.toList fr H with
        | some (fr', H') => some (.normal, fr', H')
        | none => none
      | false => match evOps ti C nt ops.toList ops.toList fr H with
        | some (fr', H') => some (.normal, fr', H')
        | none => none
    | .seq x y => match evC ti C Q nt n x fr H with
      | some (.normal, fr', H') => evC ti C Q nt n y fr' H'
      | r => r
    | .cond c x y => match (AS.mk fr.get H).ev c with
      | .p (.v (.bool b)) => match b with
        | true => evC ti C Q nt n x fr H
        | false => evC ti C Q nt n y fr H
      | _ => none
    | .block id c => match evC ti C Q nt n c fr H with
      | some (.exit i, fr', H') => match Nat.beq i id with
        | true => some (.normal, fr', H')
        | false => some (.exit i, fr', H')
      | r => r
    | .loop c => match evC ti C Q nt n c fr H with
      | some (.normal, fr', H') => evC ti C Q nt n (.loop c) fr' H'
      | r => r
    | .exit id => some (.exit id, fr, H)
    | .scope c => match evC ti C Q nt n c fr H with
      | some (.goto _, _, _) => none
      | r => r
    | .label _ => some (.normal, fr, H)
    | .ret => some (.ret, fr, H)
    | _ => none
theorem evC_sound {C : CF} {Q : CQ} (hm : P.follows .mixedOrders = true) (hC : C.ok P) (hQ : Q.ok P) {nt k0 : Nat} : ∀ {n : Nat} {c : Code} {fr fr' : Fr} {H H' : AH} {e : Exit}, evC ti C Q nt n c fr H = some (e, fr', H') → ∀ X : Exit → AS → Prop, X e ⟨fr'.get, H'⟩ → wpA P ti nt k0 c X ⟨fr.get, H⟩
  | 0, c, fr, fr', H, H', e, h, X, hX => by cases h
  | n + 1, c, fr, fr', H, H', e, h, X, hX => by
    unfold evC at h
    split at h
    · injection h with h; injection h with h1 h2; injection h2 with h2 h3; subst h1; subst h2; subst h3
      exact hX
    · unfold wpA wpG
      split at h
      · split at h
        · rename_i hd
          injection h with h; injection h with h1 h2; injection h2 with h2 h3; subst h1; subst h2; subst h3
          exact evDraw_sound hm hC hQ hd hX
        · cases h
      · split at h
        · rename_i hd
          injection h with h; injection h with h1 h2; injection h2 with h2 h3; subst h1; subst h2; subst h3
          exact evOps_sound hC hd hX
        · cases h
    · unfold wpA wpG
      split at h
      · rename_i h1
        exact evC_sound hm hC hQ h1 _ (evC_sound hm hC hQ h X hX)
      · rename_i hne
        refine evC_sound hm hC hQ h _ ?_
        cases e with
        | normal => exact (hne _ _ h).elim
        | _ => exact hX
    · unfold wpA wpG
      split at h
      · rename_i hb
        simp only [hb]
        refine .plain ?_
        unfold br
        split at h
        · exact evC_sound hm hC hQ h X hX
        · exact evC_sound hm hC hQ h X hX
      · cases h
    · unfold wpA wpG
      split at h
      · rename_i i _ _ h1
        refine evC_sound hm hC hQ h1 _ ?_
        unfold inBlockA
        split at h
        · rename_i hb
          injection h with h; injection h with h1 h2; injection h2 with h2 h3; subst h1; subst h2; subst h3
          simp only [hb]
          exact hX
        · rename_i hb
          injection h with h; injection h with h1 h2; injection h2 with h2 h3; subst h1; subst h2; subst h3
          simp only [hb]
          exact hX
      · rename_i hne
        refine evC_sound hm hC hQ h _ ?_
        cases e with
        | exit i => exact (hne _ _ _ h).elim
        | _ => exact hX
    · rename_i c
      unfold wpA wpG
      split at h
      · rename_i h1
        refine LoopA.unroll (evC_sound hm hC hQ h1 _ ?_)
        have := evC_sound (k0 := k0) hm hC hQ h X hX
        unfold wpA wpG at this
        exact this
      · rename_i hne
        refine LoopA.unroll (evC_sound hm hC hQ h _ ?_)
        cases e with
        | normal => exact (hne _ _ h).elim
        | _ => exact hX
    · injection h with h; injection h with h1 h2; injection h2 with h2 h3; subst h1; subst h2; subst h3
      exact hX
    · unfold wpA wpG
      split at h
      · cases h
      · rename_i hne
        refine evC_sound hm hC hQ h _ ?_
        cases e with
        | goto l => exact (hne _ _ _ h).elim
        | _ => exact hX
    · injection h with h; injection h with h1 h2; injection h2 with h2 h3; subst h1; subst h2; subst h3
      exact hX
    · injection h with h; injection h with h1 h2; injection h2 with h2 h3; subst h1; subst h2; subst h3
      exact hX
    · cases h
end
end Go.Abs
namespace Go.Abs
open Go.RowKit
section
variable {P : Program} {ti : TypeId → Option TI}
def evRes (ti : TypeId → Option TI) : List ResultVar → AS → Option (List AV)
  | [], _ => some []
  | .tmp t :: r, σ => match evRes ti r σ with
    | some l => some (σ.fr t :: l)
    | none => none
  | .cell a t :: r, σ => match evLoad ti σ.h t (σ.fr a), evRes ti r σ with
    | some x, some l => some (x :: l)
    | _, _ => none
theorem evRes_sound {σ : AS} : ∀ {rs : List ResultVar} {l : List AV}, evRes ti rs σ = some l → ∀ k : List AV → Prop, k l → resA ti rs σ k
  | [], l, h, k, hk => by injection h with h; subst h; exact hk
  | .tmp t :: r, l, h, k, hk => by
    unfold evRes at h
    unfold resA
    rw [frc_eq]
    split at h
    · rename_i hr
      injection h with h; subst h
      exact evRes_sound hr _ hk
    · cases h
  | .cell a t :: r, l, h, k, hk => by
    unfold evRes at h
    unfold resA
    split at h
    · rename_i hx hr
      injection h with h; subst h
      refine evLoad_sound hx ?_
      rw [frc_eq]
      exact evRes_sound hr _ hk
    · cases h
def isRet : Exit → Bool
  | .normal => true
  | .ret => true
  | _ => false
def depthOf (n : Nat) : Nat := Nat.log2 n + 2
/-- The run of a function's body: what it returns, and the heap behind it. -/
def evFn (ti : TypeId → Option TI) (C : CF) (Q : CQ) (fuel : Nat) (fn : Func) (args : List AV) (H : AH) : EV := match fn.body with
  | some c => match Nat.ble args.length fn.ntmps && !(fn.name == "runtime.NumGoroutine") && hasAll (Fr.of (depthOf fn.ntmps) (frArgs args)) args.length with
    | true => match evC ti C Q fn.ntmps fuel c (Fr.of (depthOf fn.ntmps) (frArgs args)) H with
      | some (e, fr', H') => match isRet e with
        | true => match evRes ti fn.results.toList ⟨fr'.get, H'⟩ with
          | some l => some (tupOf l, H')
          | none => none
        | false => none
      | none => none
    | false => none
  | none => none
def evBody (P : Program) (ti : TypeId → Option TI) (C : CF) (Q : CQ) (fuel : Nat) (f : FuncId) (args : List AV) (H : AH) : EV := match P.funcs[f]? with
  | some fn => evFn ti C Q fuel fn args H
  | none => none
theorem evBody_gen {C : CF} {Q : CQ} (hT : TabOK P ti) (hm : P.follows .mixedOrders = true) (hC : C.ok P) (hQ : Q.ok P) {fuel : Nat} {f : FuncId} {args : List AV} {H : AH} {r : AV} {H' : AH} (h : evBody P ti C Q fuel f args H = some (r, H'))
    {K : AV → AH → Prop} (hK : ∀ fr, RetK ti H.length ⟨fr, H'⟩ r K) : ACall P f args H K := by
  unfold evBody at h
  split at h
  · rename_i fn hf
    unfold evFn at h
    split at h
    · rename_i c hb
      split at h
      · rename_i hd
        simp only [Bool.and_eq_true, Bool.not_eq_true'] at hd
        split at h
        · rename_i e fr' H1 hc
          split at h
          · rename_i he
            split at h
            · rename_i l hr
              injection h with h; injection h with h1 h2; subst h1; subst h2
              refine acall_enter hf hb hd.1.2 hT hd.1.1 ?_
              have := evC_sound (k0 := H.length) hm hC hQ hc (wpRet ti fn.results.toList H.length K) ?_
              · rw [Fr.of_args hd.2] at this
                exact this
              · have h9 : resA ti fn.results.toList ⟨fr'.get, H1⟩ fun l => RetK ti H.length ⟨fr'.get, H1⟩ (tupOf l) K := evRes_sound hr _ (hK _)
                cases e <;> first | exact h9 | cases he
            · cases h
          · cases h
        · cases h
      · cases h
    · cases h
  · cases h
theorem evBody_sound {C : CF} {Q : CQ} (hT : TabOK P ti) (hm : P.follows .mixedOrders = true) (hC : C.ok P) (hQ : Q.ok P) {fuel : Nat} {f : FuncId} {args : List AV} {H : AH} {r : AV} {H' : AH} (h : evBody P ti C Q fuel f args H = some (r, H'))
    {K : AV → AH → Prop} (hK : K r H') : ACall P f args H K := evBody_gen hT hm hC hQ h fun _ => .raw _ _ _ hK
def bufIds (H : AH) : AV → List Nat
  | .tup l => l.flatMap (avIds H)
  | x => avIds H x
def isP : AV → Bool
  | .p _ => true
  | _ => false
def pureA : AV → Bool
  | .p _ => true
  | .tup l => l.all isP
  | _ => false
theorem renL_p {ρ : Nat → Nat} : ∀ {l : List AV}, l.all isP = true → renL ρ l = l ∧ wfL 0 l = true
  | [], _ => ⟨rfl, rfl⟩
  | .p x :: r, h => by
    simp only [List.all_cons, Bool.and_eq_true] at h
    obtain ⟨h1, h2⟩ := renL_p (ρ := ρ) h.2
    exact ⟨by unfold renL; rw [h1]; rfl, by unfold wfL; rw [h2]; rfl⟩
theorem pureA_ren {ρ : Nat → Nat} {r : AV} (h : pureA r = true) : r.ren ρ = r ∧ r.wf 0 = true := by
  unfold pureA at h
  split at h
  · exact ⟨rfl, rfl⟩
  · obtain ⟨h1, h2⟩ := renL_p (ρ := ρ) h
    exact ⟨by unfold AV.ren; rw [h1], by unfold AV.wf; exact h2⟩
  · cases h
abbrev PF := FuncId → List AV → Option AV
def PF.ok (P : Program) (U : PF) : Prop := ∀ f args r, U f args = some r → ACall P f args [] fun r' H' => r' = r ∧ H' = []
/-- A result made plain. -/
def retP (H' : AH) (r : AV) : Option AV := match r with
  | .sub id lo hi => match H'[id]? with
    | some (some (.buf _ nl xs)) => some (.p (.list nl ((xs.take hi).drop lo)))
    | _ => none
  | _ => match pureA (thawT (frzAll H' (bufIds H' r)) r) with
    | true => some (thawT (frzAll H' (bufIds H' r)) r)
    | false => none
def evBodyP (P : Program) (ti : TypeId → Option TI) (C : CF) (Q : CQ) (fuel : Nat) (f : FuncId) (args : List AV) : Option AV := match evBody P ti C Q fuel f args [] with
  | some (r, H') => retP H' r
  | none => none
theorem evBodyP_sound {C : CF} {Q : CQ} (hT : TabOK P ti) (hm : P.follows .mixedOrders = true) (hC : C.ok P) (hQ : Q.ok P) {fuel : Nat} : PF.ok P (evBodyP P ti C Q fuel) := by
  intro f args r h
  unfold evBodyP at h
  split at h
  · rename_i r0 H' hb
    unfold retP at h
    split at h
    · rename_i id lo hi
      split at h
      · rename_i e nl xs hl
        injection h with h; subst h
        refine evBody_gen hT hm hC hQ hb fun fr => .subz _ id lo hi e nl xs _ hl ?_
        exact .mk _ _ _ [] _ [] rfl rfl trivial rfl rfl ⟨rfl, rfl⟩
      · cases h
    · split at h
      · rename_i hp
        injection h with h; subst h
        refine evBody_gen hT hm hC hQ hb fun fr => .frz _ _ _ (bufIds H' r0) ?_
        exact .mk _ _ _ [] _ [] rfl (pureA_ren hp).1.symm trivial rfl (by rw [show ([] : AH).length = 0 from rfl, (pureA_ren (ρ := id) hp).2]; rfl) ⟨rfl, rfl⟩
      · cases h
  · cases h
def look (f : FuncId) (args : List AV) : List (FuncId × List AV × AV) → Option AV
  | [] => none
  | (g, as_, r) :: t => match Nat.beq g f with
    | true => match eqAL as_ args with
      | true => some r
      | false => look f args t
    | false => look f args t
def tabOk (P : Program) (tab : List (FuncId × List AV × AV)) : Prop := ∀ e ∈ tab, ACall P e.1 e.2.1 [] fun r' H' => r' = e.2.2 ∧ H' = []
theorem look_sound {f : FuncId} {args : List AV} {r : AV} : ∀ {tab : List (FuncId × List AV × AV)}, tabOk P tab → look f args tab = some r → ACall P f args [] fun r' H' => r' = r ∧ H' = []
  | [], _, h => by cases h
  | (g, as_, r0) :: t, ht, h => by
    unfold look at h
    split at h
    · rename_i hg
      split at h
      · rename_i ha
        injection h with h; subst h
        have := ht _ (List.mem_cons_self ..)
        simp only [Nat.eq_of_beq_eq_true hg, eqAL_eq ha] at this
        exact this
      · exact look_sound (fun e he => ht e (List.mem_cons_of_mem _ he)) h
    · exact look_sound (fun e he => ht e (List.mem_cons_of_mem _ he)) h
def cqOf (U : PF) : CQ := fun f args H => match U f (toLocL H [] true args) with
  | some (.p (.v x)) => some x
  | _ => none
theorem cqOf_ok {U : PF} (hU : U.ok P) : (cqOf U).ok P := by
  intro f args H v h K hK
  unfold cqOf at h
  split at h
  · rename_i hx
    injection h with h; subst h
    exact ⟨_, hU _ _ _ hx, hK⟩
  · cases h
def flatAB : AV → Bool
  | .p x => x.flatb
  | .tup l => l.all fun y => match y with
    | .p x => x.flatb
    | _ => false
  | _ => false
theorem flatAB_flat {r : AV} (h : flatAB r = true) : r.flat ∧ ∀ ρ, r.ren ρ = r := by
  unfold flatAB at h
  split at h
  · exact ⟨flat_ofB h, fun _ => rfl⟩
  · rename_i l
    have key : ∀ l : List AV, (l.all fun y => match y with
        | .p x => x.flatb
        | _ => false) = true → flatL l ∧ ∀ ρ, renL ρ l = l := by
      intro l
      induction l with
      | nil => exact fun _ => ⟨trivial, fun _ => rfl⟩
      | cons y r ih =>
        intro h
        simp only [List.all_cons, Bool.and_eq_true] at h
        obtain ⟨h1, h2⟩ := h
        obtain ⟨h3, h4⟩ := ih h2
        split at h1
        · exact ⟨⟨flat_ofB h1, h3⟩, fun ρ => by unfold renL; rw [h4]; rfl⟩
        · cases h1
    obtain ⟨h1, h2⟩ := key l h
    exact ⟨h1, fun ρ => by unfold AV.ren; rw [h2]⟩
  · cases h
def callBy (mode : Nat) (W : CF) (U : PF) : CF := fun f args H => match mode with
  | 0 => W f args H
  | 1 => match U f (toLocL H [] true args) with
    | some r => match flatAB r with
      | true => some (r, H)
      | false => none
    | none => none
  | _ => match U f (toLocL (frzAll H (args.flatMap (avIds H))) [] false args) with
    | some r => match pureA r with
      | true => some (r, frzAll H (args.flatMap (avIds H)))
      | false => none
    | none => none
theorem backH_nil (H : AH) : backH H [] [] = H := by simp [backH, setIds, renH]
theorem callBy_ok {mode : Nat} {W : CF} {U : PF} (hW : W.ok P) (hU : U.ok P) : (callBy mode W U).ok P := by
  intro f args H v H' h K hK
  unfold callBy at h
  split at h
  · exact hW _ _ _ _ _ h K hK
  · split at h
    · rename_i r hr
      split at h
      · rename_i hf
        injection h with h; injection h with h1 h2; subst h1; subst h2
        obtain ⟨h3, h4⟩ := flatAB_flat hf
        refine .lend ((hU _ _ _ hr).mono ?_)
        rintro r' H' ⟨rfl, rfl⟩
        refine ⟨h3, trivial, ?_⟩
        rw [h4]
        simpa [renH] using hK
      · cases h
    · cases h
  · split at h
    · rename_i r hr
      split at h
      · rename_i hf
        injection h with h; injection h with h1 h2; subst h1; subst h2
        refine .loc [] (args.flatMap (avIds H)) rfl rfl ((hU _ _ _ hr).mono ?_)
        rintro r' H' ⟨rfl, rfl⟩
        rw [(pureA_ren hf).1, backH_nil]
        exact hK
      · cases h
    · cases h
/-- Functions without a body: what the model's stand-ins give. -/
abbrev XF := FuncId → List AV → Option AV
def XF.ok (P : Program) (X : XF) : Prop := ∀ f args v, X f args = some v → ExtA P f args v
theorem two_args {args : List AV} {x y : Value} {P : Program} {H : AH} {m : Nat → Value} {S : Nat → Prop} {w : World} {vals : Array Value} (ha : args = [.p (.v x), .p (.v y)]) (hl : vals.size = args.length)
    (hr : ∀ (j : Nat) (x : AV), args[j]? = some x → Rd P H m S w x (vals.getD j undef)) : vals = #[x, y] := by
  subst ha
  obtain ⟨l⟩ := vals
  match l, hl with
  | [a, b], _ =>
    have h0 := hr 0 _ rfl
    have h1 := hr 1 _ rfl
    have e0 : a = x := by cases h0 with | p _ _ h => cases h; rfl
    have e1 : b = y := by cases h1 with | p _ _ h => cases h; rfl
    rw [e0, e1]
theorem ExtA.indexByte {P : Program} {f : FuncId} {fn : Func} (hf : P.funcs[f]? = some fn) (hname : (fn.name == "runtime.NumGoroutine") = false) (hb : fn.body.isNone = true) (hn : Extern.findNext fn = none) (he : Extern.find fn = some Extern.BytealgIndexByte.indexByte) (s : ByteArray) (c : Int) :
    ExtA P f [.p (.v (.string s)), .p (.v (.int .u8 c))] (.p (.v (.int .i64 (Lib.indexByte s.data.toList c.toNat.toUInt8)))) :=
  ⟨fun H m S w vals hp hl hr => by
    rw [two_args rfl hl hr, run_callFunc_extern hf hname hb hn he, Lib.run_indexByteString]
    exact ⟨_, rfl, .p _ _ (.v _ rfl)⟩⟩
theorem ExtA.count {P : Program} {f : FuncId} {fn : Func} (hf : P.funcs[f]? = some fn) (hname : (fn.name == "runtime.NumGoroutine") = false) (hb : fn.body.isNone = true) (hn : Extern.findNext fn = none) (he : Extern.find fn = some Extern.BytealgCount.count) (s : ByteArray) (c : Int) :
    ExtA P f [.p (.v (.string s)), .p (.v (.int .u8 c))] (.p (.v (.int .i64 (Lib.countByte s.data.toList c.toNat.toUInt8 : Nat)))) :=
  ⟨fun H m S w vals hp hl hr => by
    rw [two_args rfl hl hr, run_callFunc_extern hf hname hb hn he, Lib.run_countString]
    exact ⟨_, rfl, .p _ _ (.v _ rfl)⟩⟩
/-- A call: by its stand-in, or by its body. -/
def orExt (X : XF) (C : CF) : CF := fun f args H => match X f args with
  | some v => some (v, H)
  | none => C f args H
theorem orExt_ok {P : Program} {X : XF} {C : CF} (hX : X.ok P) (hC : C.ok P) : (orExt X C).ok P := by
  intro f args H v H' h K hK
  unfold orExt at h
  split at h
  · rename_i hx
    injection h with h; injection h with h1 h2; subst h1; subst h2
    exact .ext _ (hX _ _ _ hx) hK
  · exact hC _ _ _ _ _ h K hK
/-- All calls: how each function is called is said by 'mode' (0: with the whole heap; 1: lent, its result is flat; 2: what it is given is frozen). -/
def evPair (P : Program) (ti : TypeId → Option TI) (X : XF) (fuel : Nat) (mode : FuncId → Nat) (tab : List (FuncId × List AV × AV)) : Nat → PF × CF
  | 0 => (fun _ _ => none, fun _ _ _ => none)
  | n + 1 =>
    (fun f args => match look f args tab with
      | some r => some r
      | none => evBodyP P ti (evPair P ti X fuel mode tab n).2 (cqOf (evPair P ti X fuel mode tab n).1) fuel f args,
     orExt X fun f args H => callBy (mode f) (evBody P ti (evPair P ti X fuel mode tab n).2 (cqOf (evPair P ti X fuel mode tab n).1) fuel)
      (fun f args => match look f args tab with
      | some r => some r
      | none => evBodyP P ti (evPair P ti X fuel mode tab n).2 (cqOf (evPair P ti X fuel mode tab n).1) fuel f args) f args H)
theorem evPair_ok (hT : TabOK P ti) (hm : P.follows .mixedOrders = true) {X : XF} (hX : X.ok P) {fuel : Nat} {mode : FuncId → Nat} {tab : List (FuncId × List AV × AV)} (ht : tabOk P tab) : ∀ n, (evPair P ti X fuel mode tab n).1.ok P ∧ (evPair P ti X fuel mode tab n).2.ok P
  | 0 => ⟨fun _ _ _ h => (by cases h), fun _ _ _ _ _ h => (by cases h)⟩
  | n + 1 => by
    obtain ⟨h1, h2⟩ := evPair_ok hT hm hX (fuel := fuel) (mode := mode) ht n
    have hU : PF.ok P (evPair P ti X fuel mode tab (n + 1)).1 := by
      intro f args r h
      simp only [evPair] at h
      split at h
      · rename_i hl
        injection h with h; subst h
        exact look_sound ht hl
      · exact evBodyP_sound hT hm h2 (cqOf_ok h1) _ _ _ h
    refine ⟨hU, orExt_ok hX fun f args H v H' h K hK => ?_⟩
    exact callBy_ok (W := evBody P ti (evPair P ti X fuel mode tab n).2 (cqOf (evPair P ti X fuel mode tab n).1) fuel) (U := (evPair P ti X fuel mode tab (n + 1)).1)
      (fun _ _ _ _ _ h K hK => .all (evBody_sound hT hm h2 (cqOf_ok h1) h hK)) hU _ _ _ _ _ h K hK
/-- A closed call, by its run. -/
theorem ev_acall (hT : TabOK P ti) (hm : P.follows .mixedOrders = true) {X : XF} (hX : X.ok P) {fuel : Nat} {mode : FuncId → Nat} {tab : List (FuncId × List AV × AV)} (ht : tabOk P tab) (n : Nat) {f : FuncId} {args : List AV} {r : AV} (h : (evPair P ti X fuel mode tab n).1 f args = some r) :
    ACall P f args [] fun r' H' => r' = r ∧ H' = [] := (evPair_ok hT hm hX ht n).1 _ _ _ h
end
end Go.Abs
namespace Go.Proofs.YtbcndmkgjdoojaaGreatDoor
open Go.Abs
set_option maxRecDepth 100000
/-- Functions without a body. -/
def xf (f : FuncId) (args : List AV) : Option AV := match args with
  | [.p (.v (.string s)), .p (.v (.int .u8 c))] => match Nat.beq f 240 with
    | true => some (.p (.v (.int .i64 (Lib.indexByte s.data.toList c.toNat.toUInt8))))
    | false => match Nat.beq f 239 with
      | true => some (.p (.v (.int .i64 (Lib.countByte s.data.toList c.toNat.toUInt8 : Nat))))
      | false => none
  | _ => none
theorem xf_ok : XF.ok Tryz.prog xf := by
  intro f args v h
  unfold xf at h
  split at h
  · split at h
    · rename_i hf
      have hf := Nat.eq_of_beq_eq_true hf
      subst hf
      injection h with h; subst h
      exact ExtA.indexByte Tryz.func240 (by kernel_rfl) (by kernel_rfl) (by kernel_rfl) (by kernel_rfl) _ _
    · split at h
      · rename_i hf
        have hf := Nat.eq_of_beq_eq_true hf
        subst hf
        injection h with h; subst h
        exact ExtA.count Tryz.func239 (by kernel_rfl) (by kernel_rfl) (by kernel_rfl) (by kernel_rfl) _ _
      · cases h
  · cases h
theorem mixed : Tryz.prog.follows .mixedOrders = true := by kernel_rfl
open Go.Abs
theorem gpB {P : Prop} (h : P := by
  (first | ((first | apply AppA.snoc (f := pB) (a := _) rfl | apply AppA.one (f := pB) (a := _) rfl); (first | omega | (simp only [lenS] at *; omega) | grind)) | apply IsL.set (f := pB) (a := _) rfl | apply IsL.rep (f := pB) (a := _) rfl | apply IsL.lit (f := pB) [] rfl | apply IsL.lit (f := pB) [_] rfl | apply IsL.lit (f := pB) [_, _] rfl | apply IsL.lit (f := pB) [_, _, _] rfl) <;> (solve_by_elim (newGoals := .nonDependentOnly) (symm := false) (exfalso := false) (transparency := .reducible) only [rfl, park_])) : P := h
theorem gpI {P : Prop} (h : P := by
  (first | ((first | apply AppA.snoc (f := pI) (a := _) rfl | apply AppA.one (f := pI) (a := _) rfl); (first | omega | (simp only [lenS] at *; omega) | grind)) | apply IsL.set (f := pI) (a := _) rfl | apply IsL.rep (f := pI) (a := _) rfl | apply IsL.lit (f := pI) [] rfl | apply IsL.lit (f := pI) [_] rfl | apply IsL.lit (f := pI) [_, _] rfl | apply IsL.lit (f := pI) [_, _, _] rfl) <;> (solve_by_elim (newGoals := .nonDependentOnly) (symm := false) (exfalso := false) (transparency := .reducible) only [rfl, park_])) : P := h
/-- Kept for later: a goal of a walk's step. -/
theorem park_ {P : Prop} (x : P) (_ : x = x) : P := x
theorem ar_ {P : Prop} (h : P := by (first | omega | (simp only [lenS] at *; omega) | grind)) : P := h
theorem ar2_ {P : Prop} (h : P := by (first | omega | (simp only []; omega) | (simp; omega) | (first | omega | (simp only [lenS] at *; omega) | grind))) : P := h
/-- One step of a walk. -/
theorem gC {P : Prop} (h : P := by
  (first | ((first | apply LenA.map | apply NilA.map | apply NilA.mk); intro _) | ((first | apply NW.as | apply ValA.as); with_reducible assumption) | ((first | apply NW.i64 | apply NW.u32 | apply NW.u64 | apply NW.u8 | apply InA.nat | apply InA.map | apply CutA.lo | apply CutA.hi); (first | omega | (simp only [lenS] at *; omega) | grind)) | ((first | (apply RemA.as; assumption) | apply RemA.self); (first | omega | (simp only [lenS] at *; omega) | grind)) | (apply ValA.as; assumption) | apply ValA.self | (apply NW.as; assumption) | (apply SzA.map; (intro _; rfl)) | with_reducible apply br_pt | with_reducible apply br_pf | with_reducible apply br_mt | with_reducible apply br_mf | apply Both.mk | ((first | apply br_T | apply br_F | apply br_mT | apply br_mF); assumption) | ((first | apply br_lss | apply br_leq | apply br_gtr | apply br_geq | apply br_dec | apply br_beq | apply br_bne | apply br_beqB | apply br_bneB | apply br_not | apply br_m | apply br_intro) <;> intro h0 <;> first | (exfalso; first | omega | exact tf h0 (by assumption) | exact tf (by assumption) h0 | exact h0 (by assumption) | exact h0 rfl | exact of_decide_eq_false h0 rfl) | skip) | refine ArrA.mk _ rfl rfl ?_ | (apply IdxA.lit; omega; exact rfl) | ((first | apply IdxA.of_nat | (apply IdxA.of_map; (first | omega | (simp only [lenS] at *; omega) | grind))); rotate_left; (first | omega | (simp only [lenS] at *; omega) | grind)) | apply AppC.own | apply CutO.part | (apply And.intro; (first | with_reducible rfl | (show (_ : AV) = _; rfl) | (first | omega | (simp only [lenS] at *; omega) | grind)))) <;> (solve_by_elim (newGoals := .nonDependentOnly) (symm := false) (exfalso := false) (transparency := .reducible) only [rfl, park_])) : P := h
theorem gE {P : Prop} (h : P := by
  ((first | apply AppA.map | apply AppA.nil); (first | omega | (simp only [lenS] at *; omega) | grind)) <;> (solve_by_elim (newGoals := .nonDependentOnly) (symm := false) (exfalso := false) (transparency := .reducible) only [rfl, park_])) : P := h
open Go.Abs
set_option maxRecDepth 100000
theorem tmod_range (x n : Int) (h : 0 < n) : x.tmod n < n ∧ -n < x.tmod n := ⟨Int.tmod_lt_of_pos x h, Int.lt_tmod_of_pos x h⟩
def modI (x n : Int) : Int := if n < 1 then 0 else if x.tmod n < 0 then x.tmod n + n else x.tmod n
theorem modI_range (x n : Int) : 0 ≤ modI x n ∧ (modI x n < n ∨ modI x n = 0) := by
  unfold modI
  split
  · omega
  · have h1 := tmod_range x n (by omega)
    split <;> omega
theorem Mod_call (x n : Int) (hn : n ≤ 4611686018427387904) : ACall Tryz.prog 21 [.p (pI x), .p (pI n)] [] fun r H => r = .p (pI (modI x n)) ∧ H = [] := by
  refine acall_enter Tryz.func21 rfl rfl tabOK rfl ?_
  have h1 : ¬ n < 1 → x.tmod n < n := fun h => (tmod_range x n (by omega)).1
  have h2 : ¬ n < 1 → -n < x.tmod n := fun h => (tmod_range x n (by omega)).2
  (conv => whnf); repeat' ((first | apply CondA.plain | refine' gC | refine' gpI | refine' gpB | refine' gE | (apply DrawA.quiet (by kernel_rfl) (by kernel_rfl); (conv => whnf); fail_if_success (show False))) <;> (conv => whnf))
  all_goals refine RetK.p ⟨?_, rfl⟩
  · rw [modI, if_pos (by omega)]; rfl
  · rw [modI, if_neg (by omega), if_pos (by omega)]; rfl
  · rw [modI, if_neg (by omega), if_neg (by omega)]; rfl
/-- A source of numbers. -/
def src (nl : Bool) (ts : List Int) (i : Nat) : AH := [some (.cells [.p (.list nl (ts.map pI)), .p (pI i)])]
theorem Raw_call (nl : Bool) (ts : List Int) (i : Nat) (h : i ≤ ts.length) :
    ACall Tryz.prog 22 [.ptr 0 0] (src nl ts i) fun r H => ∃ v i', i' ≤ ts.length ∧ r = .p (pI v) ∧ H = src nl ts i' := by
  refine acall_enter Tryz.func22 rfl rfl tabOK rfl ?_
  (conv => whnf); repeat' ((first | apply CondA.plain | refine' gC | refine' gpI | refine' gpB | refine' gE | (apply DrawA.quiet (by kernel_rfl) (by kernel_rfl); (conv => whnf); fail_if_success (show False))) <;> (conv => whnf))
  · (refine' RetK.auto (.p (pI 0)) (src nl ts i) rfl rfl rfl rfl _ _ _ <;> repeat' (first | exact trivial | refine And.intro ?_ ?_ | with_reducible rfl | (refine pIEq ?_; exact ar_) | (refine bufMap ?_) | (refine bufNil ?_) | (refine bufEq ?_) | rfl))
    exact ⟨0, i, h, rfl, rfl⟩
  · (refine' RetK.auto (.p (pI ts[((i : Int) + 1 - 1).toNat])) (src nl ts (i + 1)) rfl rfl rfl rfl _ _ _ <;> repeat' (first | exact trivial | refine And.intro ?_ ?_ | with_reducible rfl | (refine pIEq ?_; exact ar_) | (refine bufMap ?_) | (refine bufNil ?_) | (refine bufEq ?_) | rfl))
    exact ⟨_, i + 1, by omega, rfl, rfl⟩
theorem N_call (nl : Bool) (ts : List Int) (i : Nat) (h : i ≤ ts.length) (n : Int) (hn : n ≤ 4611686018427387904) :
    ACall Tryz.prog 8 [.ptr 0 0, .p (pI n)] (src nl ts i) fun r H => ∃ v i', 0 ≤ v ∧ (v < n ∨ v = 0) ∧ i' ≤ ts.length ∧ r = .p (pI v) ∧ H = src nl ts i' := by
  refine acall_enter Tryz.func8 rfl rfl tabOK rfl ?_
  (conv => whnf); repeat' ((first | apply CondA.plain | refine' gC | refine' gpI | refine' gpB | refine' gE | (apply DrawA.quiet (by kernel_rfl) (by kernel_rfl); (conv => whnf); fail_if_success (show False))) <;> (conv => whnf))
  refine CallA.all ((Raw_call nl ts i h).mono ?_)
  rintro r H ⟨v, i', hi', rfl, rfl⟩
  (conv => whnf); repeat' ((first | apply CondA.plain | refine' gC | refine' gpI | refine' gpB | refine' gE | (apply DrawA.quiet (by kernel_rfl) (by kernel_rfl); (conv => whnf); fail_if_success (show False)) | (refine CallA.scalar (Mod_call v n hn) ?_)) <;> (conv => whnf))
  have hr := modI_range v n
  (refine' RetK.auto (.p (pI (modI v n))) (src nl ts i') rfl rfl rfl rfl _ _ _ <;> repeat' (first | exact trivial | refine And.intro ?_ ?_ | with_reducible rfl | (refine pIEq ?_; exact ar_) | (refine bufMap ?_) | (refine bufNil ?_) | (refine bufEq ?_) | rfl))
  exact ⟨_, i', hr.1, hr.2, hi', rfl, rfl⟩
theorem Range_call (nl : Bool) (ts : List Int) (i : Nat) (h : i ≤ ts.length) (lo hi : Int) (h1 : -1152921504606846976 ≤ lo ∧ lo ≤ 1152921504606846976) (h2 : -1152921504606846976 ≤ hi ∧ hi ≤ 1152921504606846976) :
    ACall Tryz.prog 20 [.ptr 0 0, .p (pI lo), .p (pI hi)] (src nl ts i) fun r H => ∃ v i', lo ≤ v ∧ (v ≤ hi ∨ v = lo) ∧ i' ≤ ts.length ∧ r = .p (pI v) ∧ H = src nl ts i' := by
  refine acall_enter Tryz.func20 rfl rfl tabOK rfl ?_
  (conv => whnf); repeat' ((first | apply CondA.plain | refine' gC | refine' gpI | refine' gpB | refine' gE | (apply DrawA.quiet (by kernel_rfl) (by kernel_rfl); (conv => whnf); fail_if_success (show False))) <;> (conv => whnf))
  refine CallA.all ((N_call nl ts i h _ (by omega)).mono ?_)
  rintro r H ⟨v, i', hv, hv2, hi', rfl, rfl⟩
  (conv => whnf); repeat' ((first | apply CondA.plain | refine' gC | refine' gpI | refine' gpB | refine' gE | (apply DrawA.quiet (by kernel_rfl) (by kernel_rfl); (conv => whnf); fail_if_success (show False))) <;> (conv => whnf))
  (refine' RetK.auto (.p (pI (lo + v))) (src nl ts i') rfl rfl rfl rfl _ _ _ <;> repeat' (first | exact trivial | refine And.intro ?_ ?_ | with_reducible rfl | (refine pIEq ?_; exact ar_) | (refine bufMap ?_) | (refine bufNil ?_) | (refine bufEq ?_) | rfl))
  exact ⟨_, i', by omega, by omega, hi', rfl, rfl⟩
theorem Pick_call (nl nl2 : Bool) (ts : List Int) (i : Nat) (h : i ≤ ts.length) (xs : List Int) (h0 : 0 < xs.length) (h1 : xs.length ≤ 1000000) :
    ACall Tryz.prog 9 [.ptr 0 0, .p (.list nl2 (xs.map pI))] (src nl ts i) fun r H => ∃ v i', v ∈ xs ∧ i' ≤ ts.length ∧ r = .p (pI v) ∧ H = src nl ts i' := by
  refine acall_enter Tryz.func9 rfl rfl tabOK rfl ?_
  (conv => whnf); repeat' ((first | apply CondA.plain | refine' gC | refine' gpI | refine' gpB | refine' gE | (apply DrawA.quiet (by kernel_rfl) (by kernel_rfl); (conv => whnf); fail_if_success (show False))) <;> (conv => whnf))
  refine CallA.loc [0] [] rfl rfl ((N_call nl ts i h _ (by omega)).mono ?_)
  rintro r H ⟨v, i', hv, hv2, hi', rfl, rfl⟩
  (conv => whnf); repeat' ((first | apply CondA.plain | refine' gC | refine' gpI | refine' gpB | refine' gE | (apply DrawA.quiet (by kernel_rfl) (by kernel_rfl); (conv => whnf); fail_if_success (show False))) <;> (conv => whnf))
  (refine' RetK.auto (.p (pI (xs[v.toNat]'(by omega)))) (src nl ts i') rfl rfl rfl rfl _ _ _ <;> repeat' (first | exact trivial | refine And.intro ?_ ?_ | with_reducible rfl | (refine pIEq ?_; exact ar_) | (refine bufMap ?_) | (refine bufNil ?_) | (refine bufEq ?_) | rfl))
  exact ⟨_, i', List.getElem_mem _, hi', rfl, rfl⟩
theorem New_call (nl : Bool) (ts : List Int) : ACall Tryz.prog 4 [.p (.list nl (ts.map pI))] [] fun r H => ∃ ts', r = .ptr 0 0 ∧ H = src nl ts' 0 := by
  refine acall_enter Tryz.func4 rfl rfl tabOK rfl ?_
  (conv => whnf); repeat' ((first | apply CondA.plain | refine' gC | refine' gpI | refine' gpB | refine' gE | (apply DrawA.quiet (by kernel_rfl) (by kernel_rfl); (conv => whnf); fail_if_success (show False))) <;> (conv => whnf))
  (refine' RetK.auto (.ptr 0 0) (src nl ((ts.take (if (500 : Int) < (ts.length : Int) then 500 else (ts.length : Int)).toNat)) 0) rfl rfl rfl rfl _ _ _ <;> repeat' (first | exact trivial | refine And.intro ?_ ?_ | with_reducible rfl | (refine pIEq ?_; exact ar_) | (refine bufMap ?_) | (refine bufNil ?_) | (refine bufEq ?_) | rfl))
  exact ⟨_, rfl, rfl⟩
theorem mem_take_succ {xs : List Int} {c : Nat} (h : c < xs.length) (x : Int) : x ∈ xs.take (c + 1) ↔ x ∈ xs.take c ∨ x = xs[c] := by
  rw [List.take_succ_eq_append_getElem h, List.mem_append, List.mem_singleton]
theorem In_call (nl : Bool) (xs : List Int) (x : Int) : ACall Tryz.prog 52 [.p (.list nl (xs.map pI)), .p (pI x)] [] fun r H => r = .p (pB (xs.contains x)) ∧ H = [] := by
  refine acall_enter Tryz.func52 rfl rfl tabOK rfl ?_
  (conv => whnf); repeat' ((first | apply CondA.plain | refine' gC | refine' gpI | refine' gpB | refine' gE | (apply DrawA.quiet (by kernel_rfl) (by kernel_rfl); (conv => whnf); fail_if_success (show False))) <;> (conv => whnf))
  refine loop_rule (fun (c : Nat) => ⟨[(0, .p (.list nl (xs.map pI))), (1, .p (pI x)), (5, .p (pI c))], []⟩) (fun (c : Nat) => c ≤ xs.length ∧ x ∉ xs.take c) (fun (c : Nat) => xs.length - c) 0 ?_ ?_ ?_; (refine SubA.auto rfl rfl rfl rfl ?_ ?_ <;> repeat' (first | exact trivial | refine And.intro ?_ ?_ | with_reducible rfl | (refine pIEq ?_; exact ar_) | (refine bufMap ?_) | (refine bufNil ?_) | (refine bufEq ?_) | rfl))
  · simp
  rintro c ⟨hc, hn⟩
  have ht := fun h => mem_take_succ (xs := xs) (c := c) h x
  (conv => whnf); repeat' ((first | apply CondA.plain | refine' gC | refine' gpI | refine' gpB | refine' gE | (apply DrawA.quiet (by kernel_rfl) (by kernel_rfl); (conv => whnf); fail_if_success (show False))) <;> (conv => whnf))
  · (refine RetK.p ?_ <;> repeat' (first | exact trivial | refine And.intro ?_ ?_ | with_reducible rfl | (refine pIEq ?_; exact ar_) | (refine bufMap ?_) | (refine bufNil ?_) | (refine bufEq ?_) | rfl); all_goals try first | refine pBEq ?_ | refine pIEq ?_)
    grind
  · (refine' ⟨c + 1, _, _, _⟩; rotate_right; (refine SubA.auto rfl rfl rfl rfl ?_ ?_ <;> repeat' (first | exact trivial | refine And.intro ?_ ?_ | with_reducible rfl | (refine pIEq ?_; exact ar_) | (refine bufMap ?_) | (refine bufNil ?_) | (refine bufEq ?_) | rfl)); rotate_right; exact ar2_)
    grind
  · (refine RetK.p ?_ <;> repeat' (first | exact trivial | refine And.intro ?_ ?_ | with_reducible rfl | (refine pIEq ?_; exact ar_) | (refine bufMap ?_) | (refine bufNil ?_) | (refine bufEq ?_) | rfl); all_goals try first | refine pBEq ?_ | refine pIEq ?_)
    have hc' : c = xs.length := by omega
    rw [hc', List.take_length] at hn
    grind
open Go.Abs
set_option maxRecDepth 100000
theorem Order_call (nl : Bool) (ts : List Int) (i : Nat) (h : i ≤ ts.length) (n : Nat) (hn : n ≤ 1000) :
    ACall Tryz.prog 53 [.ptr 0 0, .p (pI n)] (src nl ts i) fun r H => ∃ (xs : List Int) (nl2 : Bool) (i' : Nat), xs.length = n ∧ i' ≤ ts.length ∧ r = .p (.list nl2 (xs.map pI)) ∧ H = src nl ts i' := by
  refine acall_enter Tryz.func53 rfl rfl tabOK rfl ?_
  (conv => whnf); repeat' ((first | apply CondA.plain | refine' gC | refine' gpI | refine' gpB | refine' gE | (apply DrawA.quiet (by kernel_rfl) (by kernel_rfl); (conv => whnf); fail_if_success (show False))) <;> (conv => whnf))
  refine loop_rule (fun (⟨c, xs, nl2, i2⟩ : Nat × List Int × Bool × Nat) => ⟨[(0, .ptr 0 0), (1, .p (pI n)), (5, .p (.list nl2 (xs.map pI))), (6, .p (pI c))], src nl ts i2⟩) (fun (⟨c, xs, nl2, i2⟩ : Nat × List Int × Bool × Nat) => c ≤ n ∧ xs.length = c ∧ i2 ≤ ts.length) (fun (⟨c, xs, nl2, i2⟩ : Nat × List Int × Bool × Nat) => n - c) (0, [], true, i) ?_ ?_ ?_; (refine SubA.auto rfl rfl rfl rfl ?_ ?_ <;> repeat' (first | exact trivial | refine And.intro ?_ ?_ | with_reducible rfl | (refine pIEq ?_; exact ar_) | (refine bufMap ?_) | (refine bufNil ?_) | (refine bufEq ?_) | rfl))
  · exact ⟨by omega, rfl, h⟩
  rintro ⟨c, xs, nl2, i2⟩ ⟨hc, hl, hi2⟩
  (conv => whnf); repeat' ((first | apply CondA.plain | refine' gC | refine' gpI | refine' gpB | refine' gE | (apply DrawA.quiet (by kernel_rfl) (by kernel_rfl); (conv => whnf); fail_if_success (show False))) <;> (conv => whnf))
  · refine CallA.loc [0] [] rfl rfl ((N_call nl ts i2 hi2 _ (by omega)).mono ?_)
    rintro r H ⟨v, i', hv, hv2, hi', rfl, rfl⟩
    (conv => whnf); repeat' ((first | apply CondA.plain | refine' gC | refine' gpI | refine' gpB | refine' gE | (apply DrawA.quiet (by kernel_rfl) (by kernel_rfl); (conv => whnf); fail_if_success (show False))) <;> (conv => whnf))
    refine IsL.mk ((xs.take v.toNat).map pI) (by simp [List.map_take]) ?_
    (conv => whnf); repeat' ((first | apply CondA.plain | refine' gC | refine' gpI | refine' gpB | refine' gE | (apply DrawA.quiet (by kernel_rfl) (by kernel_rfl); (conv => whnf); fail_if_success (show False))) <;> (conv => whnf))
    (refine' ⟨(c + 1, _, _, i'), _, _, _⟩; rotate_right; (refine SubA.thawed _ [3] [5] ?_; refine SubA.auto rfl rfl rfl rfl ?_ ?_ <;> repeat' (first | exact trivial | refine And.intro ?_ ?_ | with_reducible rfl | (refine pIEq ?_; exact ar_) | (refine bufMap ?_) | (refine bufNil ?_) | (refine bufEq ?_) | rfl)); rotate_right; exact ar2_)
    exact ⟨by omega, by simp; omega, hi'⟩
  · (refine' RetK.auto (.p (.list nl2 (xs.map pI))) (src nl ts i2) rfl rfl rfl rfl _ _ _ <;> repeat' (first | exact trivial | refine And.intro ?_ ?_ | with_reducible rfl | (refine pIEq ?_; exact ar_) | (refine bufMap ?_) | (refine bufNil ?_) | (refine bufEq ?_) | rfl))
    exact ⟨xs, nl2, i2, by omega, hi2, rfl, rfl⟩
def pR (r : Int × Int) : PV := .agg [pI r.1, pI r.2]
/-- What is a rate. -/
def rV (n d : Int) : Bool := decide (0 ≤ n ∧ n ≤ 144115188075855872 ∧ 1 ≤ d ∧ d ≤ 16777216 ∧ Int.gcd n d = 1)
theorem gcd_step {a b : Int} (ha : 0 ≤ a) (hb : 0 < b) : Int.gcd b (a.tmod b) = Int.gcd a b := by
  obtain ⟨m, rfl⟩ := Int.eq_ofNat_of_zero_le ha
  obtain ⟨n, rfl⟩ := Int.eq_ofNat_of_zero_le (show 0 ≤ b by omega)
  rw [← Int.ofNat_tmod, Int.gcd_natCast_natCast, Int.gcd_natCast_natCast, Nat.gcd_comm m n, Nat.gcd_rec n m, Nat.gcd_comm]
theorem rdiv_call (a b : Int) (ha : 0 ≤ a) (hb : 0 ≤ b) : ACall Tryz.prog 107 [.p (pI a), .p (pI b)] [] fun r H => r = .p (pI (Int.gcd a b)) ∧ H = [] := by
  refine acall_enter Tryz.func107 rfl rfl tabOK rfl ?_
  (conv => whnf); repeat' ((first | apply CondA.plain | refine' gC | refine' gpI | refine' gpB | refine' gE | (apply DrawA.quiet (by kernel_rfl) (by kernel_rfl); (conv => whnf); fail_if_success (show False))) <;> (conv => whnf))
  refine loop_rule (fun (⟨x, y⟩ : Int × Int) => ⟨[(0, .p (pI x)), (1, .p (pI y))], []⟩) (fun (⟨x, y⟩ : Int × Int) => 0 ≤ x ∧ 0 ≤ y ∧ Int.gcd x y = Int.gcd a b) (fun (⟨x, y⟩ : Int × Int) => y.toNat) (a, b) ?_ ?_ ?_; (refine SubA.auto rfl rfl rfl rfl ?_ ?_ <;> repeat' (first | exact trivial | refine And.intro ?_ ?_ | with_reducible rfl | (refine pIEq ?_; exact ar_) | (refine bufMap ?_) | (refine bufNil ?_) | (refine bufEq ?_) | rfl))
  · exact ⟨ha, hb, rfl⟩
  rintro ⟨x, y⟩ ⟨hx, hy, hg⟩
  have h1 : y ≠ 0 → x.tmod y < y ∧ 0 ≤ x.tmod y := fun h => ⟨Int.tmod_lt_of_pos x (by omega), Int.tmod_nonneg _ hx⟩
  have h2 : y ≠ 0 → Int.gcd y (x.tmod y) = Int.gcd a b := fun h => (gcd_step hx (by omega)).trans hg
  (conv => whnf); repeat' ((first | apply CondA.plain | refine' gC | refine' gpI | refine' gpB | refine' gE | (apply DrawA.quiet (by kernel_rfl) (by kernel_rfl); (conv => whnf); fail_if_success (show False))) <;> (conv => whnf))
  · generalize x.tmod y = z at h1 h2 ⊢
    (refine' ⟨(y, z), _, _, _⟩; rotate_right; (refine SubA.auto rfl rfl rfl rfl ?_ ?_ <;> repeat' (first | exact trivial | refine And.intro ?_ ?_ | with_reducible rfl | (refine pIEq ?_; exact ar_) | (refine bufMap ?_) | (refine bufNil ?_) | (refine bufEq ?_) | rfl)); rotate_right; exact ar2_)
    exact ⟨hy, (h1 h0).2, h2 h0⟩
  · (refine RetK.p ?_ <;> repeat' (first | exact trivial | refine And.intro ?_ ?_ | with_reducible rfl | (refine pIEq ?_; exact ar_) | (refine bufMap ?_) | (refine bufNil ?_) | (refine bufEq ?_) | rfl); all_goals try first | refine pBEq ?_ | refine pIEq ?_)
    subst h0
    rw [← hg]
    simp
    omega
open Go.Abs
set_option maxRecDepth 100000
theorem call_flat2 {P : Program} {f : FuncId} {args : List AV} {H : AH} {K : AV → AH → Prop} {x y : PV} (hx : x.flat) (hy : y.flat) (h : ACall P f (toLocL H [] true args) [] fun r H' => r = .tup [.p x, .p y] ∧ H' = []) (hk : K (.tup [.p x, .p y]) H) : CallA P f args H K :=
  .lend (h.mono fun r H' ⟨h1, h2⟩ => by subst h1; subst h2; exact ⟨⟨hx, hy, trivial⟩, trivial, by simpa [renH, AV.ren, renL] using hk⟩)
theorem pR_flat (r : Int × Int) : (pR r).flat := by simp [pR, PV.flat, PV.flat1, pI]
theorem pI_flat (n : Int) : (pI n).flat := trivial
theorem gcd_pos {a b : Int} (h : 0 < b) : 0 < (Int.gcd a b : Int) := by
  have := Int.gcd_pos_of_ne_zero_right a (show b ≠ 0 by omega)
  omega
theorem gcd_pos' {a b : Int} (h : 0 < a) : 0 < (Int.gcd a b : Int) := by
  have := Int.gcd_pos_of_ne_zero_left b (show a ≠ 0 by omega)
  omega
theorem tdiv_le {a b : Int} (ha : 0 ≤ a) (hb : 0 < b) : 0 ≤ a.tdiv b ∧ a.tdiv b ≤ a := ⟨Int.tdiv_nonneg ha (by omega), by
  rw [Int.tdiv_eq_ediv_of_nonneg ha]
  exact Int.ediv_le_self _ ha⟩
theorem cdiv_call (a b : Int) (ha : 0 ≤ a) (hb : 0 ≤ b) : ACall Tryz.prog 168 [.p (pI a), .p (pI b)] [] fun r H => r = .p (pI (Int.gcd a b)) ∧ H = [] := by
  refine acall_enter Tryz.func168 rfl rfl tabOK rfl ?_
  (conv => whnf); repeat' ((first | apply CondA.plain | refine' gC | refine' gpI | refine' gpB | refine' gE | (apply DrawA.quiet (by kernel_rfl) (by kernel_rfl); (conv => whnf); fail_if_success (show False))) <;> (conv => whnf))
  refine loop_rule (fun (⟨x, y⟩ : Int × Int) => ⟨[(0, .p (pI x)), (1, .p (pI y))], []⟩) (fun (⟨x, y⟩ : Int × Int) => 0 ≤ x ∧ 0 ≤ y ∧ Int.gcd x y = Int.gcd a b) (fun (⟨x, y⟩ : Int × Int) => y.toNat) (a, b) ?_ ?_ ?_; (refine SubA.auto rfl rfl rfl rfl ?_ ?_ <;> repeat' (first | exact trivial | refine And.intro ?_ ?_ | with_reducible rfl | (refine pIEq ?_; exact ar_) | (refine bufMap ?_) | (refine bufNil ?_) | (refine bufEq ?_) | rfl))
  · exact ⟨ha, hb, rfl⟩
  rintro ⟨x, y⟩ ⟨hx, hy, hg⟩
  have h1 : y ≠ 0 → x.tmod y < y ∧ 0 ≤ x.tmod y := fun h => ⟨Int.tmod_lt_of_pos x (by omega), Int.tmod_nonneg _ hx⟩
  have h2 : y ≠ 0 → Int.gcd y (x.tmod y) = Int.gcd a b := fun h => (gcd_step hx (by omega)).trans hg
  (conv => whnf); repeat' ((first | apply CondA.plain | refine' gC | refine' gpI | refine' gpB | refine' gE | (apply DrawA.quiet (by kernel_rfl) (by kernel_rfl); (conv => whnf); fail_if_success (show False))) <;> (conv => whnf))
  · generalize x.tmod y = z at h1 h2 ⊢
    (refine' ⟨(y, z), _, _, _⟩; rotate_right; (refine SubA.auto rfl rfl rfl rfl ?_ ?_ <;> repeat' (first | exact trivial | refine And.intro ?_ ?_ | with_reducible rfl | (refine pIEq ?_; exact ar_) | (refine bufMap ?_) | (refine bufNil ?_) | (refine bufEq ?_) | rfl)); rotate_right; exact ar2_)
    exact ⟨hy, (h1 h0).2, h2 h0⟩
  · (refine RetK.p ?_ <;> repeat' (first | exact trivial | refine And.intro ?_ ?_ | with_reducible rfl | (refine pIEq ?_; exact ar_) | (refine bufMap ?_) | (refine bufNil ?_) | (refine bufEq ?_) | rfl); all_goals try first | refine pBEq ?_ | refine pIEq ?_)
    subst h0
    rw [← hg]
    simp
    omega
theorem rV_call (n d : Int) : ACall Tryz.prog 59 [.p (.agg [pI n, pI d])] [] fun r H => r = .p (pB (rV n d)) ∧ H = [] := by
  refine acall_enter Tryz.func59 rfl rfl tabOK rfl ?_
  (conv => whnf); repeat' ((first | apply CondA.plain | refine' gC | refine' gpI | refine' gpB | refine' gE | (apply DrawA.quiet (by kernel_rfl) (by kernel_rfl); (conv => whnf); fail_if_success (show False)) | (refine CallA.scalar (rdiv_call _ _ (by omega) (by omega)) ?_)) <;> (conv => whnf))
  all_goals (refine RetK.p ?_ <;> repeat' (first | exact trivial | refine And.intro ?_ ?_ | with_reducible rfl | (refine pIEq ?_; exact ar_) | (refine bufMap ?_) | (refine bufNil ?_) | (refine bufEq ?_) | rfl); all_goals try first | refine pBEq ?_ | refine pIEq ?_)
  all_goals (rw [Bool.eq_iff_iff]; simp [rV] <;> omega)
theorem cV_call (n d : Int) : ACall Tryz.prog 137 [.p (.agg [pI n, pI d])] [] fun r H => r = .p (pB (rV n d)) ∧ H = [] := by
  refine acall_enter Tryz.func137 rfl rfl tabOK rfl ?_
  (conv => whnf); repeat' ((first | apply CondA.plain | refine' gC | refine' gpI | refine' gpB | refine' gE | (apply DrawA.quiet (by kernel_rfl) (by kernel_rfl); (conv => whnf); fail_if_success (show False)) | (refine CallA.scalar (cdiv_call _ _ (by omega) (by omega)) ?_)) <;> (conv => whnf))
  all_goals (refine RetK.p ?_ <;> repeat' (first | exact trivial | refine And.intro ?_ ?_ | with_reducible rfl | (refine pIEq ?_; exact ar_) | (refine bufMap ?_) | (refine bufNil ?_) | (refine bufEq ?_) | rfl); all_goals try first | refine pBEq ?_ | refine pIEq ?_)
  all_goals (rw [Bool.eq_iff_iff]; simp [rV] <;> omega)
/-- A quotient as a rate. -/
def newR (n d : Int) : (Int × Int) × Int := if n < 0 ∨ d < 1 then ((0, 0), 2) else if rV (n.tdiv (Int.gcd n d)) (d.tdiv (Int.gcd n d)) then ((n.tdiv (Int.gcd n d), d.tdiv (Int.gcd n d)), 0) else ((0, 0), 2)
def cnSc : Sc := (.take 0 (.take 1 (.take 2 (.take 3 (.take 4 (.take 5 (.take 6 (.one 7 (.one 8 .done)))))))))
theorem cNew_call (n d : Int) (hn : -9223372036854775808 ≤ n ∧ n ≤ 9223372036854775807) (hd : -9223372036854775808 ≤ d ∧ d ≤ 9223372036854775807) : ACall Tryz.prog 189 [.p (pI n), .p (pI d)] [] fun r H => r = .tup [.p (pR (newR n d).1), .p (pI (newR n d).2)] ∧ H = [] := by
  refine acall_enter Tryz.func189 rfl rfl tabOK rfl ?_
  have hg : 1 ≤ d → 0 < (Int.gcd n d : Int) := fun h => gcd_pos (by omega)
  have h1 : 0 ≤ n → 1 ≤ d → 0 ≤ n.tdiv (Int.gcd n d) ∧ n.tdiv (Int.gcd n d) ≤ n := fun h h' => tdiv_le h (hg h')
  have h2 : 1 ≤ d → 0 ≤ d.tdiv (Int.gcd n d) ∧ d.tdiv (Int.gcd n d) ≤ d := fun h => tdiv_le (by omega) (hg h)
  (conv => whnf); repeat' ((first | apply CondA.plain | refine' gC | refine' gpI | refine' gpB | refine' gE | (refine CallA.scalar (cdiv_call _ _ (by omega) (by omega)) ?_) | (refine CallA.scalar (cV_call _ _) ?_) | (apply DrawA.orders cnSc (by kernel_rfl) (by kernel_rfl) (by kernel_rfl))) <;> (conv => whnf))
  all_goals first
    | ((refine' RetK.auto (.tup [.p (pR (n.tdiv (Int.gcd n d), d.tdiv (Int.gcd n d))), .p (pI 0)]) ([]) rfl rfl rfl rfl _ _ _ <;> repeat' (first | exact trivial | refine And.intro ?_ ?_ | with_reducible rfl | (refine pIEq ?_; exact ar_) | (refine bufMap ?_) | (refine bufNil ?_) | (refine bufEq ?_) | rfl))
       rw [newR, if_neg (by omega), if_pos (by assumption)])
    | ((refine' RetK.auto (.tup [.p (pR (0, 0)), .p (pI 2)]) ([]) rfl rfl rfl rfl _ _ _ <;> repeat' (first | exact trivial | refine And.intro ?_ ?_ | with_reducible rfl | (refine pIEq ?_; exact ar_) | (refine bufMap ?_) | (refine bufNil ?_) | (refine bufEq ?_) | rfl))
       first
         | rw [newR, if_pos (by omega)]
         | rw [newR, if_neg (by omega), if_neg (by simp_all)])
open Go.Abs
set_option maxRecDepth 100000
theorem rV_spec {n d : Int} (h : rV n d = true) : 0 ≤ n ∧ n ≤ 144115188075855872 ∧ 1 ≤ d ∧ d ≤ 16777216 := by
  have := of_decide_eq_true h
  omega
def overP (n d k : Int) : Int × Int := (n.tdiv (Int.gcd n k), d * k.tdiv (Int.gcd n k))
def timesP (n d k : Int) : Int × Int := if n > (144115188075855872 : Int).tdiv (k.tdiv (Int.gcd k d)) then (-1, 1) else (n * k.tdiv (Int.gcd k d), d.tdiv (Int.gcd k d))
def scaledR (n d k : Int) (f : Int × Int) : (Int × Int) × Int := if rV n d = false then ((0, 0), 1) else if k < 1 ∨ k > 64 then ((0, 0), 2) else newR f.1 f.2
theorem tdiv_pos {a b : Int} (ha : 0 < a) (hb : 0 < b) (h : b ∣ a) : 0 < a.tdiv b := by
  obtain ⟨c, rfl⟩ := h
  rw [Int.mul_tdiv_cancel_left _ (by omega)]
  exact Int.pos_of_mul_pos_right ha (by omega)
theorem over1_call (n d k : Int) (hV : rV n d = true) (hk : 1 ≤ k ∧ k ≤ 64) : ACall Tryz.prog 167 [.ptr 0 0, .ptr 1 0] [some (.cells [.p (pI n), .p (pI d)]), some (.cells [.p (pI k)])] fun r H => r = .tup [.p (pI (overP n d k).1), .p (pI (overP n d k).2)] ∧ H = [some (.cells [.p (pI n), .p (pI d)]), some (.cells [.p (pI k)])] := by
  refine acall_enter Tryz.func167 rfl rfl tabOK rfl ?_
  have hr := rV_spec hV
  have hg : 0 < (Int.gcd n k : Int) := gcd_pos (by omega)
  have h1 := tdiv_le (a := n) (by omega) hg
  have h2 := tdiv_le (a := k) (by omega) hg
  have h3 : 0 ≤ d * k.tdiv (Int.gcd n k) := Int.mul_nonneg (by omega) h2.1
  have h4 : d * k.tdiv (Int.gcd n k) ≤ 16777216 * 64 := Int.mul_le_mul (by omega) (by omega) h2.1 (by omega)
  (conv => whnf); repeat' ((first | apply CondA.plain | refine' gC | refine' gpI | refine' gpB | refine' gE | (apply DrawA.quiet (by kernel_rfl) (by kernel_rfl); (conv => whnf); fail_if_success (show False)) | (refine CallA.scalar (cdiv_call _ _ (by omega) (by omega)) ?_)) <;> (conv => whnf))
  (refine' RetK.auto (.tup [.p (pI (overP n d k).1), .p (pI (overP n d k).2)]) ([some (.cells [.p (pI n), .p (pI d)]), some (.cells [.p (pI k)])]) rfl rfl rfl rfl _ _ _ <;> repeat' (first | exact trivial | refine And.intro ?_ ?_ | with_reducible rfl | (refine pIEq ?_; exact ar_) | (refine bufMap ?_) | (refine bufNil ?_) | (refine bufEq ?_) | rfl))
theorem times1_call (n d k : Int) (hV : rV n d = true) (hk : 1 ≤ k ∧ k ≤ 64) : ACall Tryz.prog 169 [.ptr 0 0, .ptr 1 0] [some (.cells [.p (pI k)]), some (.cells [.p (pI n), .p (pI d)])] fun r H => r = .tup [.p (pI (timesP n d k).1), .p (pI (timesP n d k).2)] ∧ H = [some (.cells [.p (pI k)]), some (.cells [.p (pI n), .p (pI d)])] := by
  refine acall_enter Tryz.func169 rfl rfl tabOK rfl ?_
  have hr := rV_spec hV
  have hg : 0 < (Int.gcd k d : Int) := gcd_pos (by omega)
  have h1 := tdiv_le (a := d) (by omega) hg
  have h2 := tdiv_le (a := k) (by omega) hg
  have h5 : 0 < k.tdiv (Int.gcd k d) := tdiv_pos (by omega) hg (Int.gcd_dvd_left ..)
  have h6 := tdiv_le (a := 144115188075855872) (by omega) h5
  have h3 : 0 ≤ n * k.tdiv (Int.gcd k d) := Int.mul_nonneg (by omega) h2.1
  have h4 : n ≤ (144115188075855872 : Int).tdiv (k.tdiv (Int.gcd k d)) → n * k.tdiv (Int.gcd k d) ≤ 144115188075855872 := fun h =>
    Int.le_trans (Int.mul_le_mul_of_nonneg_right h h2.1) (by rw [Int.tdiv_eq_ediv_of_nonneg (by omega)]; exact Int.ediv_mul_le _ (by omega))
  (conv => whnf); repeat' ((first | apply CondA.plain | refine' gC | refine' gpI | refine' gpB | refine' gE | (apply DrawA.quiet (by kernel_rfl) (by kernel_rfl); (conv => whnf); fail_if_success (show False)) | (refine CallA.scalar (cdiv_call _ _ (by omega) (by omega)) ?_)) <;> (conv => whnf))
  · have e : timesP n d k = (-1, 1) := if_pos h0
    rw [e]
    (refine' RetK.auto (.tup [.p (pI (-1)), .p (pI 1)]) ([some (.cells [.p (pI k)]), some (.cells [.p (pI n), .p (pI d)])]) rfl rfl rfl rfl _ _ _ <;> repeat' (first | exact trivial | refine And.intro ?_ ?_ | with_reducible rfl | (refine pIEq ?_; exact ar_) | (refine bufMap ?_) | (refine bufNil ?_) | (refine bufEq ?_) | rfl))
  · have e : timesP n d k = (n * k.tdiv (Int.gcd k d), d.tdiv (Int.gcd k d)) := if_neg (by omega)
    rw [e]
    (refine' RetK.auto (.tup [.p (pI (n * k.tdiv (Int.gcd k d))), .p (pI (d.tdiv (Int.gcd k d)))]) ([some (.cells [.p (pI k)]), some (.cells [.p (pI n), .p (pI d)])]) rfl rfl rfl rfl _ _ _ <;> repeat' (first | exact trivial | refine And.intro ?_ ?_ | with_reducible rfl | (refine pIEq ?_; exact ar_) | (refine bufMap ?_) | (refine bufNil ?_) | (refine bufEq ?_) | rfl))
theorem overP_range {n d k : Int} (hV : rV n d = true) (hk : 1 ≤ k ∧ k ≤ 64) : (-9223372036854775808 ≤ (overP n d k).1 ∧ (overP n d k).1 ≤ 9223372036854775807) ∧ -9223372036854775808 ≤ (overP n d k).2 ∧ (overP n d k).2 ≤ 9223372036854775807 := by
  have hr := rV_spec hV
  have hg : 0 < (Int.gcd n k : Int) := gcd_pos (by omega)
  have h1 := tdiv_le (a := n) (by omega) hg
  have h2 := tdiv_le (a := k) (by omega) hg
  have h3 : 0 ≤ d * k.tdiv (Int.gcd n k) := Int.mul_nonneg (by omega) h2.1
  have h4 : d * k.tdiv (Int.gcd n k) ≤ 16777216 * 64 := Int.mul_le_mul (by omega) (by omega) h2.1 (by omega)
  simp only [overP]
  omega
theorem timesP_range {n d k : Int} (hV : rV n d = true) (hk : 1 ≤ k ∧ k ≤ 64) : (-9223372036854775808 ≤ (timesP n d k).1 ∧ (timesP n d k).1 ≤ 9223372036854775807) ∧ -9223372036854775808 ≤ (timesP n d k).2 ∧ (timesP n d k).2 ≤ 9223372036854775807 := by
  have hr := rV_spec hV
  have hg : 0 < (Int.gcd k d : Int) := gcd_pos (by omega)
  have h1 := tdiv_le (a := d) (by omega) hg
  have h2 := tdiv_le (a := k) (by omega) hg
  have h3 : 0 ≤ n * k.tdiv (Int.gcd k d) := Int.mul_nonneg (by omega) h2.1
  have h4 : n ≤ (144115188075855872 : Int).tdiv (k.tdiv (Int.gcd k d)) → n * k.tdiv (Int.gcd k d) ≤ 144115188075855872 := fun h =>
    Int.le_trans (Int.mul_le_mul_of_nonneg_right h h2.1) (by rw [Int.tdiv_eq_ediv_of_nonneg (by omega)]; exact Int.ediv_mul_le _ (by have := tdiv_pos (a := k) (by omega) hg (Int.gcd_dvd_left ..); omega))
  unfold timesP
  split
  · omega
  · simp only
    omega
theorem scaledover_call (n d k : Int) : ACall Tryz.prog 166 [.p (.agg [pI n, pI d]), .p (pI k), .clo (.func 167) [.ptr 0 0, .ptr 1 0]] [some (.cells [.p (pI n), .p (pI d)]), some (.cells [.p (pI k)])] fun r H => r = .tup [.p (pR (scaledR n d k (overP n d k)).1), .p (pI (scaledR n d k (overP n d k)).2)] ∧ H = [some (.cells [.p (pI n), .p (pI d)]), some (.cells [.p (pI k)])] := by
  refine acall_enter Tryz.func166 rfl rfl tabOK rfl ?_
  have hn := fun hV hk => overP_range (n := n) (d := d) (k := k) hV hk
  (conv => whnf); repeat' ((first | apply CondA.plain | refine' gC | refine' gpI | refine' gpB | refine' gE | (apply DrawA.quiet (by kernel_rfl) (by kernel_rfl); (conv => whnf); fail_if_success (show False)) | (refine CallA.scalar (cV_call _ _) ?_)) <;> (conv => whnf))
  · (refine' RetK.auto (.tup [.p (pR (0, 0)), .p (pI 1)]) ([some (.cells [.p (pI n), .p (pI d)]), some (.cells [.p (pI k)])]) rfl rfl rfl rfl _ _ _ <;> repeat' (first | exact trivial | refine And.intro ?_ ?_ | with_reducible rfl | (refine pIEq ?_; exact ar_) | (refine bufMap ?_) | (refine bufNil ?_) | (refine bufEq ?_) | rfl))
    rw [scaledR, if_pos h0]
  · rename_i hv
    (refine' RetK.auto (.tup [.p (pR (0, 0)), .p (pI 2)]) ([some (.cells [.p (pI n), .p (pI d)]), some (.cells [.p (pI k)])]) rfl rfl rfl rfl _ _ _ <;> repeat' (first | exact trivial | refine And.intro ?_ ?_ | with_reducible rfl | (refine pIEq ?_; exact ar_) | (refine bufMap ?_) | (refine bufNil ?_) | (refine bufEq ?_) | rfl))
    rw [scaledR, if_neg (by simp [hv]), if_pos (by omega)]
  · rename_i hv _
    (refine' RetK.auto (.tup [.p (pR (0, 0)), .p (pI 2)]) ([some (.cells [.p (pI n), .p (pI d)]), some (.cells [.p (pI k)])]) rfl rfl rfl rfl _ _ _ <;> repeat' (first | exact trivial | refine And.intro ?_ ?_ | with_reducible rfl | (refine pIEq ?_; exact ar_) | (refine bufMap ?_) | (refine bufNil ?_) | (refine bufEq ?_) | rfl))
    rw [scaledR, if_neg (by simp [hv]), if_pos (by omega)]
  · rename_i hv hk1
    have hb := hn hv ⟨hk1, h0⟩
    have e : scaledR n d k (overP n d k) = newR (overP n d k).1 (overP n d k).2 := by rw [scaledR, if_neg (by simp [hv]), if_neg (by omega)]
    rw [e]
    refine CallA.loc [0, 1] [] rfl rfl ((over1_call n d k hv ⟨hk1, h0⟩).mono ?_)
    rintro r H ⟨rfl, rfl⟩
    (conv => whnf); repeat' ((first | apply CondA.plain | refine' gC | refine' gpI | refine' gpB | refine' gE | (apply DrawA.quiet (by kernel_rfl) (by kernel_rfl); (conv => whnf); fail_if_success (show False)) | (refine call_flat2 (pR_flat _) (pI_flat _) (cNew_call _ _ hb.1 hb.2) ?_)) <;> (conv => whnf))
    (refine' RetK.auto (.tup [.p (pR (newR (overP n d k).1 (overP n d k).2).1), .p (pI (newR (overP n d k).1 (overP n d k).2).2)]) ([some (.cells [.p (pI n), .p (pI d)]), some (.cells [.p (pI k)])]) rfl rfl rfl rfl _ _ _ <;> repeat' (first | exact trivial | refine And.intro ?_ ?_ | with_reducible rfl | (refine pIEq ?_; exact ar_) | (refine bufMap ?_) | (refine bufNil ?_) | (refine bufEq ?_) | rfl))
theorem cover_call (n d k : Int) : ACall Tryz.prog 135 [.p (.agg [pI n, pI d]), .p (pI k)] [] fun r H => r = .tup [.p (pR (scaledR n d k (overP n d k)).1), .p (pI (scaledR n d k (overP n d k)).2)] ∧ H = [] := by
  refine acall_enter Tryz.func135 rfl rfl tabOK rfl ?_
  (conv => whnf); repeat' ((first | apply CondA.plain | refine' gC | refine' gpI | refine' gpB | refine' gE | (apply DrawA.quiet (by kernel_rfl) (by kernel_rfl); (conv => whnf); fail_if_success (show False))) <;> (conv => whnf))
  refine CallA.loc [0, 1] [] rfl rfl ((scaledover_call n d k).mono ?_)
  rintro r H ⟨rfl, rfl⟩
  (conv => whnf); repeat' ((first | apply CondA.plain | refine' gC | refine' gpI | refine' gpB | refine' gE | (apply DrawA.quiet (by kernel_rfl) (by kernel_rfl); (conv => whnf); fail_if_success (show False))) <;> (conv => whnf))
  (refine' RetK.auto (.tup [.p (pR (scaledR n d k (overP n d k)).1), .p (pI (scaledR n d k (overP n d k)).2)]) ([]) rfl rfl rfl rfl _ _ _ <;> repeat' (first | exact trivial | refine And.intro ?_ ?_ | with_reducible rfl | (refine pIEq ?_; exact ar_) | (refine bufMap ?_) | (refine bufNil ?_) | (refine bufEq ?_) | rfl))
theorem scaledtimes_call (n d k : Int) : ACall Tryz.prog 166 [.p (.agg [pI n, pI d]), .p (pI k), .clo (.func 169) [.ptr 1 0, .ptr 0 0]] [some (.cells [.p (pI n), .p (pI d)]), some (.cells [.p (pI k)])] fun r H => r = .tup [.p (pR (scaledR n d k (timesP n d k)).1), .p (pI (scaledR n d k (timesP n d k)).2)] ∧ H = [some (.cells [.p (pI n), .p (pI d)]), some (.cells [.p (pI k)])] := by
  refine acall_enter Tryz.func166 rfl rfl tabOK rfl ?_
  have hn := fun hV hk => timesP_range (n := n) (d := d) (k := k) hV hk
  (conv => whnf); repeat' ((first | apply CondA.plain | refine' gC | refine' gpI | refine' gpB | refine' gE | (apply DrawA.quiet (by kernel_rfl) (by kernel_rfl); (conv => whnf); fail_if_success (show False)) | (refine CallA.scalar (cV_call _ _) ?_)) <;> (conv => whnf))
  · (refine' RetK.auto (.tup [.p (pR (0, 0)), .p (pI 1)]) ([some (.cells [.p (pI n), .p (pI d)]), some (.cells [.p (pI k)])]) rfl rfl rfl rfl _ _ _ <;> repeat' (first | exact trivial | refine And.intro ?_ ?_ | with_reducible rfl | (refine pIEq ?_; exact ar_) | (refine bufMap ?_) | (refine bufNil ?_) | (refine bufEq ?_) | rfl))
    rw [scaledR, if_pos h0]
  · rename_i hv
    (refine' RetK.auto (.tup [.p (pR (0, 0)), .p (pI 2)]) ([some (.cells [.p (pI n), .p (pI d)]), some (.cells [.p (pI k)])]) rfl rfl rfl rfl _ _ _ <;> repeat' (first | exact trivial | refine And.intro ?_ ?_ | with_reducible rfl | (refine pIEq ?_; exact ar_) | (refine bufMap ?_) | (refine bufNil ?_) | (refine bufEq ?_) | rfl))
    rw [scaledR, if_neg (by simp [hv]), if_pos (by omega)]
  · rename_i hv _
    (refine' RetK.auto (.tup [.p (pR (0, 0)), .p (pI 2)]) ([some (.cells [.p (pI n), .p (pI d)]), some (.cells [.p (pI k)])]) rfl rfl rfl rfl _ _ _ <;> repeat' (first | exact trivial | refine And.intro ?_ ?_ | with_reducible rfl | (refine pIEq ?_; exact ar_) | (refine bufMap ?_) | (refine bufNil ?_) | (refine bufEq ?_) | rfl))
    rw [scaledR, if_neg (by simp [hv]), if_pos (by omega)]
  · rename_i hv hk1
    have hb := hn hv ⟨hk1, h0⟩
    have e : scaledR n d k (timesP n d k) = newR (timesP n d k).1 (timesP n d k).2 := by rw [scaledR, if_neg (by simp [hv]), if_neg (by omega)]
    rw [e]
    refine CallA.loc [1, 0] [] rfl rfl ((times1_call n d k hv ⟨hk1, h0⟩).mono ?_)
    rintro r H ⟨rfl, rfl⟩
    (conv => whnf); repeat' ((first | apply CondA.plain | refine' gC | refine' gpI | refine' gpB | refine' gE | (apply DrawA.quiet (by kernel_rfl) (by kernel_rfl); (conv => whnf); fail_if_success (show False)) | (refine call_flat2 (pR_flat _) (pI_flat _) (cNew_call _ _ hb.1 hb.2) ?_)) <;> (conv => whnf))
    (refine' RetK.auto (.tup [.p (pR (newR (timesP n d k).1 (timesP n d k).2).1), .p (pI (newR (timesP n d k).1 (timesP n d k).2).2)]) ([some (.cells [.p (pI n), .p (pI d)]), some (.cells [.p (pI k)])]) rfl rfl rfl rfl _ _ _ <;> repeat' (first | exact trivial | refine And.intro ?_ ?_ | with_reducible rfl | (refine pIEq ?_; exact ar_) | (refine bufMap ?_) | (refine bufNil ?_) | (refine bufEq ?_) | rfl))
theorem ctimes_call (n d k : Int) : ACall Tryz.prog 136 [.p (.agg [pI n, pI d]), .p (pI k)] [] fun r H => r = .tup [.p (pR (scaledR n d k (timesP n d k)).1), .p (pI (scaledR n d k (timesP n d k)).2)] ∧ H = [] := by
  refine acall_enter Tryz.func136 rfl rfl tabOK rfl ?_
  (conv => whnf); repeat' ((first | apply CondA.plain | refine' gC | refine' gpI | refine' gpB | refine' gE | (apply DrawA.quiet (by kernel_rfl) (by kernel_rfl); (conv => whnf); fail_if_success (show False))) <;> (conv => whnf))
  refine CallA.loc [0, 1] [] rfl rfl ((scaledtimes_call n d k).mono ?_)
  rintro r H ⟨rfl, rfl⟩
  (conv => whnf); repeat' ((first | apply CondA.plain | refine' gC | refine' gpI | refine' gpB | refine' gE | (apply DrawA.quiet (by kernel_rfl) (by kernel_rfl); (conv => whnf); fail_if_success (show False))) <;> (conv => whnf))
  (refine' RetK.auto (.tup [.p (pR (scaledR n d k (timesP n d k)).1), .p (pI (scaledR n d k (timesP n d k)).2)]) ([]) rfl rfl rfl rfl _ _ _ <;> repeat' (first | exact trivial | refine And.intro ?_ ?_ | with_reducible rfl | (refine pIEq ?_; exact ar_) | (refine bufMap ?_) | (refine bufNil ?_) | (refine bufEq ?_) | rfl))
def withinR (n d lo hi : Int) : Bool := rV n d && decide (lo ≤ n.tdiv d ∧ (n.tdiv d < hi ∨ n.tdiv d = hi ∧ n.tmod d = 0))
theorem cWithin_call (n d lo hi : Int) : ACall Tryz.prog 114 [.p (.agg [pI n, pI d]), .p (pI lo), .p (pI hi)] [] fun r H => r = .p (pB (withinR n d lo hi)) ∧ H = [] := by
  refine acall_enter Tryz.func114 rfl rfl tabOK rfl ?_
  have h1 : rV n d = true → 0 < d ∧ 0 ≤ n.tdiv d ∧ n.tdiv d ≤ n ∧ n ≤ 144115188075855872 := fun h => by
    have := rV_spec h
    have := tdiv_le (a := n) (b := d) (by omega) (by omega)
    omega
  (conv => whnf); repeat' ((first | apply CondA.plain | refine' gC | refine' gpI | refine' gpB | refine' gE | (apply DrawA.quiet (by kernel_rfl) (by kernel_rfl); (conv => whnf); fail_if_success (show False)) | (refine CallA.scalar (cV_call _ _) ?_)) <;> (conv => whnf))
  all_goals (refine RetK.p ?_ <;> repeat' (first | exact trivial | refine And.intro ?_ ?_ | with_reducible rfl | (refine pIEq ?_; exact ar_) | (refine bufMap ?_) | (refine bufNil ?_) | (refine bufEq ?_) | rfl); all_goals try first | refine pBEq ?_ | refine pIEq ?_)
  all_goals first
    | (rw [withinR, ‹rV n d = false›]; rfl)
    | (rw [withinR, ‹rV n d = true›, Bool.eq_iff_iff, Bool.true_and, decide_eq_true_iff]; simp <;> omega)
open Go.Abs
set_option maxRecDepth 100000
def rnSc : Sc := (.take 0 (.take 1 (.take 2 (.take 3 (.take 4 (.take 5 (.take 6 (.one 7 (.one 8 .done)))))))))
theorem rNew_call (n d : Int) (hn : -9223372036854775808 ≤ n ∧ n ≤ 9223372036854775807) (hd : -9223372036854775808 ≤ d ∧ d ≤ 9223372036854775807) : ACall Tryz.prog 106 [.p (pI n), .p (pI d)] [] fun r H => r = .tup [.p (pR (newR n d).1), .p (pI (newR n d).2)] ∧ H = [] := by
  refine acall_enter Tryz.func106 rfl rfl tabOK rfl ?_
  have hg : 1 ≤ d → 0 < (Int.gcd n d : Int) := fun h => gcd_pos (by omega)
  have h1 : 0 ≤ n → 1 ≤ d → 0 ≤ n.tdiv (Int.gcd n d) ∧ n.tdiv (Int.gcd n d) ≤ n := fun h h' => tdiv_le h (hg h')
  have h2 : 1 ≤ d → 0 ≤ d.tdiv (Int.gcd n d) ∧ d.tdiv (Int.gcd n d) ≤ d := fun h => tdiv_le (by omega) (hg h)
  (conv => whnf); repeat' ((first | apply CondA.plain | refine' gC | refine' gpI | refine' gpB | refine' gE | (refine CallA.scalar (rdiv_call _ _ (by omega) (by omega)) ?_) | (refine CallA.scalar (rV_call _ _) ?_) | (apply DrawA.orders rnSc (by kernel_rfl) (by kernel_rfl) (by kernel_rfl))) <;> (conv => whnf))
  all_goals first
    | ((refine' RetK.auto (.tup [.p (pR (n.tdiv (Int.gcd n d), d.tdiv (Int.gcd n d))), .p (pI 0)]) ([]) rfl rfl rfl rfl _ _ _ <;> repeat' (first | exact trivial | refine And.intro ?_ ?_ | with_reducible rfl | (refine pIEq ?_; exact ar_) | (refine bufMap ?_) | (refine bufNil ?_) | (refine bufEq ?_) | rfl))
       rw [newR, if_neg (by omega), if_pos (by assumption)])
    | ((refine' RetK.auto (.tup [.p (pR (0, 0)), .p (pI 2)]) ([]) rfl rfl rfl rfl _ _ _ <;> repeat' (first | exact trivial | refine And.intro ?_ ?_ | with_reducible rfl | (refine pIEq ?_; exact ar_) | (refine bufMap ?_) | (refine bufNil ?_) | (refine bufEq ?_) | rfl))
       first
         | rw [newR, if_pos (by omega)]
         | rw [newR, if_neg (by omega), if_neg (by simp_all)])
theorem rfactor_call (k : Int) : ACall Tryz.prog 105 [.p (pI k)] [] fun r H => r = .p (pB (decide (1 ≤ k ∧ k ≤ 64))) ∧ H = [] := by
  refine acall_enter Tryz.func105 rfl rfl tabOK rfl ?_
  (conv => whnf); repeat' ((first | apply CondA.plain | refine' gC | refine' gpI | refine' gpB | refine' gE | (apply DrawA.quiet (by kernel_rfl) (by kernel_rfl); (conv => whnf); fail_if_success (show False))) <;> (conv => whnf))
  all_goals (refine RetK.p ?_ <;> repeat' (first | exact trivial | refine And.intro ?_ ?_ | with_reducible rfl | (refine pIEq ?_; exact ar_) | (refine bufMap ?_) | (refine bufNil ?_) | (refine bufEq ?_) | rfl); all_goals try first | refine pBEq ?_ | refine pIEq ?_)
  all_goals (rw [Bool.eq_iff_iff]; simp <;> omega)
theorem rOver_call (n d k : Int) : ACall Tryz.prog 57 [.p (.agg [pI n, pI d]), .p (pI k)] [] fun r H => ∃ a e, r = .tup [.p (pR a), .p (pI e)] ∧ H = [] := by
  refine acall_enter Tryz.func57 rfl rfl tabOK rfl ?_
  have hr := fun h => rV_spec (n := n) (d := d) h
  have h1 : rV n d = true → 1 ≤ k ∧ k ≤ 64 → 0 ≤ d * k ∧ d * k ≤ 16777216 * 64 := fun h hk => ⟨Int.mul_nonneg (by have := hr h; omega) (by omega), Int.mul_le_mul (hr h).2.2.2 hk.2 (by omega) (by omega)⟩
  (conv => whnf); repeat' ((first | apply CondA.plain | refine' gC | refine' gpI | refine' gpB | refine' gE | (apply DrawA.quiet (by kernel_rfl) (by kernel_rfl); (conv => whnf); fail_if_success (show False)) | (refine CallA.scalar (rV_call _ _) ?_) | (refine CallA.scalar (rfactor_call _) ?_) | (refine call_flat2 (pR_flat _) (pI_flat _) (rNew_call _ _ (by grind) (by grind)) ?_)) <;> (conv => whnf))
  all_goals first
    | ((refine' RetK.auto (.tup [.p (pR (0, 0)), .p (pI 1)]) ([]) rfl rfl rfl rfl _ _ _ <;> repeat' (first | exact trivial | refine And.intro ?_ ?_ | with_reducible rfl | (refine pIEq ?_; exact ar_) | (refine bufMap ?_) | (refine bufNil ?_) | (refine bufEq ?_) | rfl)); exact ⟨_, _, rfl, rfl⟩)
    | ((refine' RetK.auto (.tup [.p (pR (0, 0)), .p (pI 2)]) ([]) rfl rfl rfl rfl _ _ _ <;> repeat' (first | exact trivial | refine And.intro ?_ ?_ | with_reducible rfl | (refine pIEq ?_; exact ar_) | (refine bufMap ?_) | (refine bufNil ?_) | (refine bufEq ?_) | rfl)); exact ⟨_, _, rfl, rfl⟩)
    | ((refine' RetK.auto (.tup [.p (pR (newR n (d * k)).1), .p (pI (newR n (d * k)).2)]) ([]) rfl rfl rfl rfl _ _ _ <;> repeat' (first | exact trivial | refine And.intro ?_ ?_ | with_reducible rfl | (refine pIEq ?_; exact ar_) | (refine bufMap ?_) | (refine bufNil ?_) | (refine bufEq ?_) | rfl)); exact ⟨_, _, rfl, rfl⟩)
def rtSc : Sc := (.take 0 (.load 1 (.take 2 (.take 3 (.take 4 (.take 5 (.take 6 (.load 7 (.take 8 (.take 9 (.one 10 (.take 11 (.take 12 (.one 13 (.take 14 .done)))))))))))))))
theorem rTimes_call (n d k : Int) : ACall Tryz.prog 58 [.p (.agg [pI n, pI d]), .p (pI k)] [] fun r H => ∃ a e, r = .tup [.p (pR a), .p (pI e)] ∧ H = [] := by
  refine acall_enter Tryz.func58 rfl rfl tabOK rfl ?_
  have hr := fun h => rV_spec (n := n) (d := d) h
  have hg : 1 ≤ k → 0 < (Int.gcd k d : Int) := fun h => gcd_pos' (by omega)
  have h1 : 1 ≤ k → 1 ≤ d → 0 ≤ d.tdiv (Int.gcd k d) ∧ d.tdiv (Int.gcd k d) ≤ d := fun h h' => tdiv_le (by omega) (hg h)
  have h2 : 1 ≤ k → 0 ≤ k.tdiv (Int.gcd k d) ∧ k.tdiv (Int.gcd k d) ≤ k := fun h => tdiv_le (by omega) (hg h)
  have h5 : 1 ≤ k → 0 < k.tdiv (Int.gcd k d) := fun h => tdiv_pos (by omega) (hg h) (Int.gcd_dvd_left ..)
  have h6 : 1 ≤ k → 0 ≤ (144115188075855872 : Int).tdiv (k.tdiv (Int.gcd k d)) ∧ (144115188075855872 : Int).tdiv (k.tdiv (Int.gcd k d)) ≤ 144115188075855872 := fun h => tdiv_le (by omega) (h5 h)
  have h3 : 1 ≤ k → 0 ≤ n → 0 ≤ n * k.tdiv (Int.gcd k d) := fun h h' => Int.mul_nonneg h' (h2 h).1
  have h4 : 1 ≤ k → n ≤ (144115188075855872 : Int).tdiv (k.tdiv (Int.gcd k d)) → n * k.tdiv (Int.gcd k d) ≤ 144115188075855872 := fun hk h =>
    Int.le_trans (Int.mul_le_mul_of_nonneg_right h (h2 hk).1) (by rw [Int.tdiv_eq_ediv_of_nonneg (by omega)]; exact Int.ediv_mul_le _ (by have := h5 hk; omega))
  cases hV : rV n d
  · (conv => whnf); repeat' ((first | apply CondA.plain | refine' gC | refine' gpI | refine' gpB | refine' gE | (apply DrawA.quiet (by kernel_rfl) (by kernel_rfl); (conv => whnf); fail_if_success (show False)) | (refine CallA.scalar (rV_call _ _) ?_)) <;> (conv => whnf))
    (refine' RetK.auto (.tup [.p (pR (0, 0)), .p (pI 1)]) ([]) rfl rfl rfl rfl _ _ _ <;> repeat' (first | exact trivial | refine And.intro ?_ ?_ | with_reducible rfl | (refine pIEq ?_; exact ar_) | (refine bufMap ?_) | (refine bufNil ?_) | (refine bufEq ?_) | rfl))
    exact ⟨_, _, rfl, rfl⟩
  replace hr := hr hV
  by_cases hk : 1 ≤ k ∧ k ≤ 64
  rotate_left
  · have hkf : decide (1 ≤ k ∧ k ≤ 64) = false := decide_eq_false hk
    (conv => whnf); repeat' ((first | apply CondA.plain | refine' gC | refine' gpI | refine' gpB | refine' gE | (apply DrawA.quiet (by kernel_rfl) (by kernel_rfl); (conv => whnf); fail_if_success (show False)) | (refine CallA.scalar (rV_call _ _) ?_) | (refine CallA.scalar (rfactor_call _) ?_)) <;> (conv => whnf))
    (refine' RetK.auto (.tup [.p (pR (0, 0)), .p (pI 2)]) ([]) rfl rfl rfl rfl _ _ _ <;> repeat' (first | exact trivial | refine And.intro ?_ ?_ | with_reducible rfl | (refine pIEq ?_; exact ar_) | (refine bufMap ?_) | (refine bufNil ?_) | (refine bufEq ?_) | rfl))
    exact ⟨_, _, rfl, rfl⟩
  have hkt : decide (1 ≤ k ∧ k ≤ 64) = true := decide_eq_true hk
  replace h1 := h1 (by omega) (by omega)
  replace h2 := h2 (by omega)
  replace h3 := h3 (by omega) (by omega)
  replace h4 := h4 (by omega)
  replace h5 := h5 (by omega)
  replace h6 := h6 (by omega)
  replace hg := hg (by omega)
  (conv => whnf); repeat' ((first | apply CondA.plain | refine' gC | refine' gpI | refine' gpB | refine' gE | (refine CallA.scalar (rV_call _ _) ?_) | (refine CallA.scalar (rfactor_call _) ?_) | (refine CallA.scalar (rdiv_call _ _ (by omega) (by omega)) ?_) | (apply DrawA.orders rtSc (by kernel_rfl) (by kernel_rfl) (by decide +kernel)) | ((apply DrawA.quiet (by kernel_rfl) (by kernel_rfl))) | (refine call_flat2 (pR_flat _) (pI_flat _) (rNew_call _ _ (by omega) (by omega)) ?_)) <;> (conv => whnf))
  · (refine' RetK.auto (.tup [.p (pR (0, 0)), .p (pI 2)]) ([]) rfl rfl rfl rfl _ _ _ <;> repeat' (first | exact trivial | refine And.intro ?_ ?_ | with_reducible rfl | (refine pIEq ?_; exact ar_) | (refine bufMap ?_) | (refine bufNil ?_) | (refine bufEq ?_) | rfl))
    exact ⟨_, _, rfl, rfl⟩
  · (refine' RetK.auto (.tup [.p (pR (newR (n * k.tdiv (Int.gcd k d)) (d.tdiv (Int.gcd k d))).1), .p (pI (newR (n * k.tdiv (Int.gcd k d)) (d.tdiv (Int.gcd k d))).2)]) ([]) rfl rfl rfl rfl _ _ _ <;> repeat' (first | exact trivial | refine And.intro ?_ ?_ | with_reducible rfl | (refine pIEq ?_; exact ar_) | (refine bufMap ?_) | (refine bufNil ?_) | (refine bufEq ?_) | rfl))
    exact ⟨_, _, rfl, rfl⟩
open Go.Abs
structure Ck where
  kind : Int
  pn : Bool
  ps : List Int
  cn : Bool
  cs : List Int
  lo : Int
  hi : Int
def Ck.pv (c : Ck) : PV := .agg [pI c.kind, .list c.pn (c.ps.map pI), .list c.cn (c.cs.map pI), pI c.lo, pI c.hi]
theorem gCkpv {P : Prop} (h : P := by
  (first | ((first | apply AppA.snoc (f := Ck.pv) (a := _) rfl | apply AppA.one (f := Ck.pv) (a := _) rfl | (apply AppA.snoc (f := Ck.pv) (a := ⟨_, _, _, _, _⟩); dsimp only [Ck.pv]; exact rfl) | (apply AppA.one (f := Ck.pv) (a := ⟨_, _, _, _, _⟩); dsimp only [Ck.pv]; exact rfl)); exact ar_) | apply IsL.set (f := Ck.pv) (a := _) rfl | apply IsL.rep (f := Ck.pv) (a := _) rfl | (apply IsL.set (f := Ck.pv) (a := ⟨_, _, _, _, _⟩); dsimp only [Ck.pv]; exact rfl) | (apply IsL.rep (f := Ck.pv) (a := ⟨_, _, _, _, _⟩); dsimp only [Ck.pv]; exact rfl) | apply IsL.lit (f := Ck.pv) [] rfl | apply IsL.lit (f := Ck.pv) [_] rfl | apply IsL.lit (f := Ck.pv) [_, _] rfl | apply IsL.lit (f := Ck.pv) [_, _, _] rfl | apply IsL.lit (f := Ck.pv) [] rfl | apply IsL.lit (f := Ck.pv) [⟨_, _, _, _, _⟩] rfl | apply IsL.lit (f := Ck.pv) [⟨_, _, _, _, _⟩, ⟨_, _, _, _, _⟩] rfl | apply IsL.lit (f := Ck.pv) [⟨_, _, _, _, _⟩, ⟨_, _, _, _, _⟩, ⟨_, _, _, _, _⟩] rfl) <;> (solve_by_elim (newGoals := .nonDependentOnly) (symm := false) (exfalso := false) (transparency := .reducible) only [rfl, park_])) : P := h
set_option maxRecDepth 100000
theorem call_exB {P : Program} {f : FuncId} {args : List AV} {H : AH} {K : AV → AH → Prop} {p : Bool → Prop} (h : ACall P f (toLocL H [] true args) [] fun r H' => ∃ b : Bool, r = .p (pB b) ∧ H' = [] ∧ p b) (hk : ∀ b, p b → K (.p (pB b)) H) : CallA P f args H K :=
  .lend (h.mono fun r H' ⟨b, h1, h2, h3⟩ => by subst h1; subst h2; exact ⟨trivial, trivial, by simpa [renH, AV.ren] using hk b h3⟩)
theorem rdifferent_call (nl : Bool) (l : List Int) (lo hi : Int) : ACall Tryz.prog 103 [.p (.list nl (l.map pI)), .p (pI lo), .p (pI hi)] [] fun r H => ∃ b : Bool, r = .p (pB b) ∧ H = [] ∧ (b = true → ∀ x ∈ l, lo ≤ x ∧ x ≤ hi) := by
  refine acall_enter Tryz.func103 rfl rfl tabOK rfl ?_
  (conv => whnf); repeat' ((first | apply CondA.plain | refine' gC | refine' gpI | refine' gpB | refine' gCkpv | refine' gE | (apply DrawA.quiet (by kernel_rfl) (by kernel_rfl); (conv => whnf); fail_if_success (show False))) <;> (conv => whnf))
  refine loop_rule (fun (c : Nat) => ⟨[(0, .p (.list nl (l.map pI))), (1, .p (pI lo)), (2, .p (pI hi)), (9, .p (.list nl (l.map pI))), (10, .p (pI l.length)), (11, .p (pI c))], []⟩) (fun (c : Nat) => c ≤ l.length ∧ ∀ x ∈ l.take c, lo ≤ x ∧ x ≤ hi) (fun (c : Nat) => l.length - c) 0 ?_ ?_ ?_; (refine SubA.auto rfl rfl rfl rfl ?_ ?_ <;> repeat' (first | exact trivial | refine And.intro ?_ ?_ | with_reducible rfl | (refine pIEq ?_; exact ar_) | (refine bufMap ?_) | (refine bufNil ?_) | (refine bufEq ?_) | rfl))
  · simp
  rintro c ⟨hc, hn⟩
  have ht := fun h => mem_take_succ (xs := l) (c := c) h
  (conv => whnf); repeat' ((first | apply CondA.plain | refine' gC | refine' gpI | refine' gpB | refine' gCkpv | refine' gE | (apply DrawA.quiet (by kernel_rfl) (by kernel_rfl); (conv => whnf); fail_if_success (show False)) | (refine CallA.scalar (In_call _ _ _) ?_)) <;> (conv => whnf))
  · (refine RetK.p ?_ <;> repeat' (first | exact trivial | refine And.intro ?_ ?_ | with_reducible rfl | (refine pIEq ?_; exact ar_) | (refine bufMap ?_) | (refine bufNil ?_) | (refine bufEq ?_) | rfl); all_goals try first | refine pBEq ?_ | refine pIEq ?_)
    exact ⟨_, rfl, rfl, fun h => by cases h⟩
  · (refine RetK.p ?_ <;> repeat' (first | exact trivial | refine And.intro ?_ ?_ | with_reducible rfl | (refine pIEq ?_; exact ar_) | (refine bufMap ?_) | (refine bufNil ?_) | (refine bufEq ?_) | rfl); all_goals try first | refine pBEq ?_ | refine pIEq ?_)
    exact ⟨_, rfl, rfl, fun h => by cases h⟩
  · (refine RetK.p ?_ <;> repeat' (first | exact trivial | refine And.intro ?_ ?_ | with_reducible rfl | (refine pIEq ?_; exact ar_) | (refine bufMap ?_) | (refine bufNil ?_) | (refine bufEq ?_) | rfl); all_goals try first | refine pBEq ?_ | refine pIEq ?_)
    exact ⟨_, rfl, rfl, fun h => by cases h⟩
  · (refine' ⟨c + 1, _, _, _⟩; rotate_right; (refine SubA.auto rfl rfl rfl rfl ?_ ?_ <;> repeat' (first | exact trivial | refine And.intro ?_ ?_ | with_reducible rfl | (refine pIEq ?_; exact ar_) | (refine bufMap ?_) | (refine bufNil ?_) | (refine bufEq ?_) | rfl)); rotate_right; exact ar2_)
    grind
  · (refine RetK.p ?_ <;> repeat' (first | exact trivial | refine And.intro ?_ ?_ | with_reducible rfl | (refine pIEq ?_; exact ar_) | (refine bufMap ?_) | (refine bufNil ?_) | (refine bufEq ?_) | rfl); all_goals try first | refine pBEq ?_ | refine pIEq ?_)
    have hc' : c = l.length := by omega
    rw [hc', List.take_length] at hn
    exact ⟨_, rfl, rfl, fun _ => hn⟩
theorem rInts_call (nl n2 : Bool) (xs ys : List Int) : ACall Tryz.prog 104 [.p (.list nl (xs.map pI)), .p (.list n2 (ys.map pI))] [] fun r H => ∃ b : Bool, r = .p (pB b) ∧ H = [] ∧ (b = true → xs.length = ys.length) := by
  refine acall_enter Tryz.func104 rfl rfl tabOK rfl ?_
  (conv => whnf); repeat' ((first | apply CondA.plain | refine' gC | refine' gpI | refine' gpB | refine' gCkpv | refine' gE | (apply DrawA.quiet (by kernel_rfl) (by kernel_rfl); (conv => whnf); fail_if_success (show False))) <;> (conv => whnf))
  · (refine RetK.p ?_ <;> repeat' (first | exact trivial | refine And.intro ?_ ?_ | with_reducible rfl | (refine pIEq ?_; exact ar_) | (refine bufMap ?_) | (refine bufNil ?_) | (refine bufEq ?_) | rfl); all_goals try first | refine pBEq ?_ | refine pIEq ?_)
    exact ⟨_, rfl, rfl, fun h => by cases h⟩
  · refine loop_rule (fun (c : Nat) => ⟨[(0, .p (.list nl (xs.map pI))), (1, .p (.list n2 (ys.map pI))), (5, .p (pI c))], []⟩) (fun (c : Nat) => c ≤ xs.length) (fun (c : Nat) => xs.length - c) 0 ?_ ?_ ?_; (refine SubA.auto rfl rfl rfl rfl ?_ ?_ <;> repeat' (first | exact trivial | refine And.intro ?_ ?_ | with_reducible rfl | (refine pIEq ?_; exact ar_) | (refine bufMap ?_) | (refine bufNil ?_) | (refine bufEq ?_) | rfl))
    · omega
    rintro c hc
    replace hc : c ≤ xs.length := hc
    (conv => whnf); repeat' ((first | apply CondA.plain | refine' gC | refine' gpI | refine' gpB | refine' gCkpv | refine' gE | (apply DrawA.quiet (by kernel_rfl) (by kernel_rfl); (conv => whnf); fail_if_success (show False))) <;> (conv => whnf))
    · (refine RetK.p ?_ <;> repeat' (first | exact trivial | refine And.intro ?_ ?_ | with_reducible rfl | (refine pIEq ?_; exact ar_) | (refine bufMap ?_) | (refine bufNil ?_) | (refine bufEq ?_) | rfl); all_goals try first | refine pBEq ?_ | refine pIEq ?_)
      exact ⟨_, rfl, rfl, fun h => by cases h⟩
    · (refine' ⟨c + 1, _, _, _⟩; rotate_right; (refine SubA.auto rfl rfl rfl rfl ?_ ?_ <;> repeat' (first | exact trivial | refine And.intro ?_ ?_ | with_reducible rfl | (refine pIEq ?_; exact ar_) | (refine bufMap ?_) | (refine bufNil ?_) | (refine bufEq ?_) | rfl)); rotate_right; exact ar2_)
      omega
    · (refine RetK.p ?_ <;> repeat' (first | exact trivial | refine And.intro ?_ ?_ | with_reducible rfl | (refine pIEq ?_; exact ar_) | (refine bufMap ?_) | (refine bufNil ?_) | (refine bufEq ?_) | rfl); all_goals try first | refine pBEq ?_ | refine pIEq ?_)
      exact ⟨_, rfl, rfl, fun _ => by omega⟩
/-- What the choices of a clock must be, as far as it is needed. -/
def ChOK (c : Ck) : Prop := 1 ≤ c.cs.length ∧ (c.kind = 1 ∨ (c.kind = 4 ∧ ∀ k ∈ c.cs, 0 ≤ k ∧ k < c.ps.length) ∨ ((c.kind = 2 ∨ c.kind = 3 ∨ c.kind = 5) ∧ 1 ≤ c.ps.length))
theorem rchoices_call (c : Ck) : ACall Tryz.prog 54 [.p c.pv] [] fun r H => ∃ b : Bool, r = .p (pB b) ∧ H = [] ∧ (b = true → ChOK c) := by
  refine acall_enter Tryz.func54 rfl rfl tabOK rfl ?_
  (conv => whnf); repeat' ((first | apply CondA.plain | refine' gC | refine' gpI | refine' gpB | refine' gCkpv | refine' gE | (apply DrawA.quiet (by kernel_rfl) (by kernel_rfl); (conv => whnf); fail_if_success (show False)) | ((refine call_exB (rdifferent_call _ _ _ _) ?_; intro b0 hb0)) | ((refine call_exB (rInts_call _ _ _ _) ?_; intro b0 hb0))) <;> (conv => whnf))
  all_goals (refine RetK.p ?_ <;> repeat' (first | exact trivial | refine And.intro ?_ ?_ | with_reducible rfl | (refine pIEq ?_; exact ar_) | (refine bufMap ?_) | (refine bufNil ?_) | (refine bufEq ?_) | rfl); all_goals try first | refine pBEq ?_ | refine pIEq ?_)
  all_goals refine ⟨_, rfl, rfl, fun hb => ?_⟩
  all_goals first
    | (cases hb; done)
    | (simp only [cond_true, decide_eq_true_eq] at hb; unfold ChOK; simp_all; done)
    | (simp only [cond_true, decide_eq_true_eq] at hb; unfold ChOK; grind)
open Go.Abs
set_option maxRecDepth 100000
theorem rfactors_call (nl : Bool) (l : List Ck) (hl : ∀ (i : Nat) (h : i < l.length), ∀ p ∈ l[i].ps, 0 ≤ p ∧ p < i) (h100 : l.length ≤ 100) : ACall Tryz.prog 55 [.p (.list nl (l.map Ck.pv))] [] fun r H => ∃ (xs : List Int) (nl2 : Bool), r = .buf 0 ∧ H = [some (AO.buf 3 nl2 (xs.map pI))] := by
  refine acall_enter Tryz.func55 rfl rfl tabOK rfl ?_
  (conv => whnf); repeat' ((first | apply CondA.plain | refine' gC | refine' gpI | refine' gpB | refine' gCkpv | refine' gE | (apply DrawA.quiet (by kernel_rfl) (by kernel_rfl); (conv => whnf); fail_if_success (show False))) <;> (conv => whnf))
  refine loop_rule (fun (⟨c, xs, nl2⟩ : Nat × List Int × Bool) => ⟨[(3, .buf 0), (9, .p (.list nl (l.map Ck.pv))), (10, .p (pI l.length)), (11, .p (pI c))], [some (AO.buf 3 nl2 (xs.map pI))]⟩) (fun (⟨c, xs, nl2⟩ : Nat × List Int × Bool) => c ≤ l.length ∧ xs.length = c ∧ ∀ x ∈ xs, 0 ≤ x ∧ x ≤ c) (fun (⟨c, xs, nl2⟩ : Nat × List Int × Bool) => l.length - c) (0, [], true) ?_ ?_ ?_; (refine SubA.auto1 (3, 3) rfl rfl rfl rfl rfl ?_ ?_ <;> repeat' (first | exact trivial | refine And.intro ?_ ?_ | with_reducible rfl | (refine pIEq ?_; exact ar_) | (refine bufMap ?_) | (refine bufNil ?_) | (refine bufEq ?_) | rfl))
  · simp
  rintro ⟨c, xs, nl2⟩ ⟨hc, hx, hr⟩
  try simp only at hc hx hr
  (conv => whnf); repeat' ((first | apply CondA.plain | refine' gC | refine' gpI | refine' gpB | refine' gCkpv | refine' gE | (apply DrawA.quiet (by kernel_rfl) (by kernel_rfl); (conv => whnf); fail_if_success (show False))) <;> (conv => whnf))
  · have hcl : c < l.length := by omega
    have hps := hl c hcl
    refine loop_rule (fun (⟨k, n⟩ : Nat × Int) => ⟨[(3, .buf 0), (5, .ptr 1 0), (6, .p (pI n)), (9, .p (.list nl (l.map Ck.pv))), (10, .p (pI l.length)), (11, .p (pI c)), (16, .p (.list (l[c]).pn ((l[c]).ps.map pI))), (17, .p (pI (l[c]).ps.length)), (18, .p (pI k))], [some (AO.buf 3 nl2 (xs.map pI)), some (.cells [.p (pI (l[c]).kind), .p (.list (l[c]).pn ((l[c]).ps.map pI)), .p (.list (l[c]).cn ((l[c]).cs.map pI)), .p (pI (l[c]).lo), .p (pI (l[c]).hi)])]⟩) (fun (⟨k, n⟩ : Nat × Int) => k ≤ (l[c]).ps.length ∧ 0 ≤ n ∧ n ≤ c) (fun (⟨k, n⟩ : Nat × Int) => (l[c]).ps.length - k) (0, 0) ?_ ?_ ?_; (refine SubA.auto rfl rfl rfl rfl ?_ ?_ <;> repeat' (first | exact trivial | refine And.intro ?_ ?_ | with_reducible rfl | (refine pIEq ?_; exact ar_) | (refine bufMap ?_) | (refine bufNil ?_) | (refine bufEq ?_) | rfl))
    · simp
    rintro ⟨k, n⟩ ⟨hk, hn0, hn1⟩
    try simp only at hk hn0 hn1
    have hp : ∀ h : k < (l[c]).ps.length, 0 ≤ (l[c]).ps[k] ∧ (l[c]).ps[k] < xs.length := fun h => by have := hps _ (List.getElem_mem h); omega
    have hr' : ∀ (j : Nat) (h : j < xs.length), 0 ≤ xs[j] ∧ xs[j] ≤ c := fun j h => hr _ (List.getElem_mem h)
    (conv => whnf); repeat' ((first | apply CondA.plain | refine' gC | refine' gpI | refine' gpB | refine' gCkpv | refine' gE | (apply DrawA.quiet (by kernel_rfl) (by kernel_rfl); (conv => whnf); fail_if_success (show False))) <;> (conv => whnf))
    · (refine' ⟨(k + 1, _), _, _, _⟩; rotate_right; (refine SubA.auto rfl rfl rfl rfl ?_ ?_ <;> repeat' (first | exact trivial | refine And.intro ?_ ?_ | with_reducible rfl | (refine pIEq ?_; exact ar_) | (refine bufMap ?_) | (refine bufNil ?_) | (refine bufEq ?_) | rfl)); rotate_right; exact ar2_)
      have hk' : k < (l[c]).ps.length := by omega
      have h1 := hp hk'
      have h2 := hr' ((l[c]).ps[k]).toNat (by omega)
      refine ⟨by omega, ?_⟩
      split <;> omega
    · (refine' ⟨(c + 1, _, _), _, _, _⟩; rotate_right; (refine SubA.auto rfl rfl rfl rfl ?_ ?_ <;> repeat' (first | exact trivial | refine And.intro ?_ ?_ | with_reducible rfl | (refine pIEq ?_; exact ar_) | (refine bufMap ?_) | (refine bufNil ?_) | (refine bufEq ?_) | rfl)); rotate_right; exact ar2_)
      exact ⟨by omega, by simp [hx], by intro x hx'; rcases List.mem_append.1 hx' with h | h; (have := hr x h; omega); (simp at h; omega)⟩
    · (refine' ⟨(c + 1, _, _), _, _, _⟩; rotate_right; (refine SubA.auto rfl rfl rfl rfl ?_ ?_ <;> repeat' (first | exact trivial | refine And.intro ?_ ?_ | with_reducible rfl | (refine pIEq ?_; exact ar_) | (refine bufMap ?_) | (refine bufNil ?_) | (refine bufEq ?_) | rfl)); rotate_right; exact ar2_)
      exact ⟨by omega, by simp [hx], by intro x hx'; rcases List.mem_append.1 hx' with h | h; (have := hr x h; omega); (simp at h; omega)⟩
    · (refine' ⟨(c + 1, _, _), _, _, _⟩; rotate_right; (refine SubA.auto rfl rfl rfl rfl ?_ ?_ <;> repeat' (first | exact trivial | refine And.intro ?_ ?_ | with_reducible rfl | (refine pIEq ?_; exact ar_) | (refine bufMap ?_) | (refine bufNil ?_) | (refine bufEq ?_) | rfl)); rotate_right; exact ar2_)
      exact ⟨by omega, by simp [hx], by intro x hx'; rcases List.mem_append.1 hx' with h | h; (have := hr x h; omega); (simp at h; omega)⟩
  · (refine' RetK.auto (.buf 0) ([some (AO.buf 3 nl2 (xs.map pI))]) rfl rfl rfl rfl _ _ _ <;> repeat' (first | exact trivial | refine And.intro ?_ ?_ | with_reducible rfl | (refine pIEq ?_; exact ar_) | (refine bufMap ?_) | (refine bufNil ?_) | (refine bufEq ?_) | rfl))
    exact ⟨_, _, rfl, rfl⟩
open Go.Abs
set_option maxRecDepth 100000
def CkV (c : Ck) (i : Nat) : Prop := (∀ p ∈ c.ps, 0 ≤ p ∧ p < i) ∧ ChOK c ∧ c.ps.length ≤ 8 ∧ c.cs.length ≤ 8
def AllV (l : List Ck) : Prop := ∀ (i : Nat) (h : i < l.length), CkV l[i] i
theorem rCheck_call (nl : Bool) (l : List Ck) : ACall Tryz.prog 19 [.p (.list nl (l.map Ck.pv))] [] fun r H => ∃ e : Int, r = .p (pI e) ∧ H = [] ∧ (e = 0 → AllV l ∧ l.length ≤ 16) := by
  refine acall_enter Tryz.func19 rfl rfl tabOK rfl ?_
  (conv => whnf); repeat' ((first | apply CondA.plain | refine' gC | refine' gpI | refine' gpB | refine' gCkpv | refine' gE | (apply DrawA.quiet (by kernel_rfl) (by kernel_rfl); (conv => whnf); fail_if_success (show False))) <;> (conv => whnf))
  · (refine RetK.p ?_ <;> repeat' (first | exact trivial | refine And.intro ?_ ?_ | with_reducible rfl | (refine pIEq ?_; exact ar_) | (refine bufMap ?_) | (refine bufNil ?_) | (refine bufEq ?_) | rfl); all_goals try first | refine pBEq ?_ | refine pIEq ?_)
    exact ⟨_, rfl, rfl, fun h => by cases h⟩
  refine loop_rule (fun (c : Nat) => ⟨[(0, .p (.list nl (l.map Ck.pv))), (15, .p (.list nl (l.map Ck.pv))), (16, .p (pI l.length)), (17, .p (pI c))], []⟩) (fun (c : Nat) => c ≤ l.length ∧ ∀ x ∈ l.take c, x.ps.length ≤ 8 ∧ x.cs.length ≤ 8) (fun (c : Nat) => l.length - c) 0 ?_ ?_ ?_; (refine SubA.auto rfl rfl rfl rfl ?_ ?_ <;> repeat' (first | exact trivial | refine And.intro ?_ ?_ | with_reducible rfl | (refine pIEq ?_; exact ar_) | (refine bufMap ?_) | (refine bufNil ?_) | (refine bufEq ?_) | rfl))
  · simp
  rintro c ⟨hc, hn⟩
  (conv => whnf); repeat' ((first | apply CondA.plain | refine' gC | refine' gpI | refine' gpB | refine' gCkpv | refine' gE | (apply DrawA.quiet (by kernel_rfl) (by kernel_rfl); (conv => whnf); fail_if_success (show False))) <;> (conv => whnf))
  · (refine RetK.p ?_ <;> repeat' (first | exact trivial | refine And.intro ?_ ?_ | with_reducible rfl | (refine pIEq ?_; exact ar_) | (refine bufMap ?_) | (refine bufNil ?_) | (refine bufEq ?_) | rfl); all_goals try first | refine pBEq ?_ | refine pIEq ?_)
    exact ⟨_, rfl, rfl, fun h => by cases h⟩
  · (refine RetK.p ?_ <;> repeat' (first | exact trivial | refine And.intro ?_ ?_ | with_reducible rfl | (refine pIEq ?_; exact ar_) | (refine bufMap ?_) | (refine bufNil ?_) | (refine bufEq ?_) | rfl); all_goals try first | refine pBEq ?_ | refine pIEq ?_)
    exact ⟨_, rfl, rfl, fun h => by cases h⟩
  · have hcl : c < l.length := by omega
    (refine' ⟨c + 1, _, _, _⟩; rotate_right; (refine SubA.auto rfl rfl rfl rfl ?_ ?_ <;> repeat' (first | exact trivial | refine And.intro ?_ ?_ | with_reducible rfl | (refine pIEq ?_; exact ar_) | (refine bufMap ?_) | (refine bufNil ?_) | (refine bufEq ?_) | rfl)); rotate_right; exact ar2_)
    refine ⟨by omega, fun x hx => ?_⟩
    rw [List.take_succ_eq_append_getElem hcl, List.mem_append, List.mem_singleton] at hx
    rcases hx with hx | rfl
    · exact hn x hx
    · constructor <;> omega
  have hc' : c = l.length := by omega
  rw [hc', List.take_length] at hn
  clear hc hc' h0
  refine loop_rule (fun (⟨c, pr⟩ : Nat × Int) => ⟨[(0, .p (.list nl (l.map Ck.pv))), (5, .p (pI pr)), (32, .p (.list nl (l.map Ck.pv))), (33, .p (pI l.length)), (34, .p (pI c))], []⟩) (fun (⟨c, pr⟩ : Nat × Int) => c ≤ l.length ∧ 0 ≤ pr ∧ pr ≤ 1099511627776 ∧ ∀ (i : Nat) (h : i < l.length), i < c → CkV l[i] i) (fun (⟨c, pr⟩ : Nat × Int) => l.length - c) (0, 1) ?_ ?_ ?_; (refine SubA.auto rfl rfl rfl rfl ?_ ?_ <;> repeat' (first | exact trivial | refine And.intro ?_ ?_ | with_reducible rfl | (refine pIEq ?_; exact ar_) | (refine bufMap ?_) | (refine bufNil ?_) | (refine bufEq ?_) | rfl))
  · exact ⟨by omega, by omega, by omega, fun i h h' => by omega⟩
  rintro ⟨c, pr⟩ ⟨hc, hp0, hp1, hv⟩
  (conv => whnf); repeat' ((first | apply CondA.plain | refine' gC | refine' gpI | refine' gpB | refine' gCkpv | refine' gE | (apply DrawA.quiet (by kernel_rfl) (by kernel_rfl); (conv => whnf); fail_if_success (show False))) <;> (conv => whnf))
  · have hcl : c < l.length := by omega
    refine loop_rule (fun (k : Nat) => ⟨[(0, .p (.list nl (l.map Ck.pv))), (5, .p (pI pr)), (6, .p (pI c)), (7, .ptr 0 0), (32, .p (.list nl (l.map Ck.pv))), (33, .p (pI l.length)), (34, .p (pI c)), (40, .p (.list (l[c]).pn ((l[c]).ps.map pI))), (41, .p (pI (l[c]).ps.length)), (42, .p (pI k))], [some (.cells [.p (pI (l[c]).kind), .p (.list (l[c]).pn ((l[c]).ps.map pI)), .p (.list (l[c]).cn ((l[c]).cs.map pI)), .p (pI (l[c]).lo), .p (pI (l[c]).hi)])]⟩) (fun (k : Nat) => k ≤ (l[c]).ps.length ∧ ∀ p ∈ (l[c]).ps.take k, 0 ≤ p ∧ p < c) (fun (k : Nat) => (l[c]).ps.length - k) 0 ?_ ?_ ?_; (refine SubA.auto rfl rfl rfl rfl ?_ ?_ <;> repeat' (first | exact trivial | refine And.intro ?_ ?_ | with_reducible rfl | (refine pIEq ?_; exact ar_) | (refine bufMap ?_) | (refine bufNil ?_) | (refine bufEq ?_) | rfl))
    · simp
    rintro k ⟨hk, hkn⟩
    have ht : ∀ (h : k < (l[c]).ps.length) (x : Int), x ∈ (l[c]).ps.take (k + 1) ↔ x ∈ (l[c]).ps.take k ∨ x = (l[c]).ps[k] := fun h x => mem_take_succ h x
    have h8 := hn _ (List.getElem_mem hcl)
    have hm : 0 ≤ pr * ((l[c]).cs.length : Int) ∧ pr * ((l[c]).cs.length : Int) ≤ 1099511627776 * 8 := ⟨Int.mul_nonneg hp0 (by omega), Int.mul_le_mul hp1 (by omega) (by omega) (by omega)⟩
    (conv => whnf); repeat' ((first | apply CondA.plain | refine' gC | refine' gpI | refine' gpB | refine' gCkpv | refine' gE | (apply DrawA.quiet (by kernel_rfl) (by kernel_rfl); (conv => whnf); fail_if_success (show False)) | ((refine call_exB (rchoices_call l[c]) ?_; intro b0 hb0))) <;> (conv => whnf))
    · (refine RetK.p ?_ <;> repeat' (first | exact trivial | refine And.intro ?_ ?_ | with_reducible rfl | (refine pIEq ?_; exact ar_) | (refine bufMap ?_) | (refine bufNil ?_) | (refine bufEq ?_) | rfl); all_goals try first | refine pBEq ?_ | refine pIEq ?_)
      exact ⟨_, rfl, rfl, fun h => by cases h⟩
    · (refine RetK.p ?_ <;> repeat' (first | exact trivial | refine And.intro ?_ ?_ | with_reducible rfl | (refine pIEq ?_; exact ar_) | (refine bufMap ?_) | (refine bufNil ?_) | (refine bufEq ?_) | rfl); all_goals try first | refine pBEq ?_ | refine pIEq ?_)
      exact ⟨_, rfl, rfl, fun h => by cases h⟩
    · (refine' ⟨k + 1, _, _, _⟩; rotate_right; (refine SubA.auto rfl rfl rfl rfl ?_ ?_ <;> repeat' (first | exact trivial | refine And.intro ?_ ?_ | with_reducible rfl | (refine pIEq ?_; exact ar_) | (refine bufMap ?_) | (refine bufNil ?_) | (refine bufEq ?_) | rfl)); rotate_right; exact ar2_)
      grind
    · (refine RetK.p ?_ <;> repeat' (first | exact trivial | refine And.intro ?_ ?_ | with_reducible rfl | (refine pIEq ?_; exact ar_) | (refine bufMap ?_) | (refine bufNil ?_) | (refine bufEq ?_) | rfl); all_goals try first | refine pBEq ?_ | refine pIEq ?_)
      exact ⟨_, rfl, rfl, fun h => by cases h⟩
    · (refine RetK.p ?_ <;> repeat' (first | exact trivial | refine And.intro ?_ ?_ | with_reducible rfl | (refine pIEq ?_; exact ar_) | (refine bufMap ?_) | (refine bufNil ?_) | (refine bufEq ?_) | rfl); all_goals try first | refine pBEq ?_ | refine pIEq ?_)
      exact ⟨_, rfl, rfl, fun h => by cases h⟩
    · (refine RetK.p ?_ <;> repeat' (first | exact trivial | refine And.intro ?_ ?_ | with_reducible rfl | (refine pIEq ?_; exact ar_) | (refine bufMap ?_) | (refine bufNil ?_) | (refine bufEq ?_) | rfl); all_goals try first | refine pBEq ?_ | refine pIEq ?_)
      exact ⟨_, rfl, rfl, fun h => by cases h⟩
    · (refine RetK.p ?_ <;> repeat' (first | exact trivial | refine And.intro ?_ ?_ | with_reducible rfl | (refine pIEq ?_; exact ar_) | (refine bufMap ?_) | (refine bufNil ?_) | (refine bufEq ?_) | rfl); all_goals try first | refine pBEq ?_ | refine pIEq ?_)
      exact ⟨_, rfl, rfl, fun h => by cases h⟩
    · have hk' : k = (l[c]).ps.length := by omega
      rw [hk', List.take_length] at hkn
      have hnew : ∀ (i : Nat) (h : i < l.length), i < c + 1 → CkV l[i] i := fun i h h' => by
        rcases Nat.lt_or_ge i c with hlt | hge
        · exact hv i h hlt
        · obtain rfl : i = c := by omega
          exact ⟨hkn, hb0 (by assumption), h8⟩
      (refine' ⟨(c + 1, _), _, _, _⟩; rotate_right; (refine SubA.auto rfl rfl rfl rfl ?_ ?_ <;> repeat' (first | exact trivial | refine And.intro ?_ ?_ | with_reducible rfl | (refine pIEq ?_; exact ar_) | (refine bufMap ?_) | (refine bufNil ?_) | (refine bufEq ?_) | rfl)); rotate_right; exact ar2_)
      refine ⟨by omega, ?_, ?_, hnew⟩
      · split <;> omega
      · split <;> omega
  · (refine RetK.p ?_ <;> repeat' (first | exact trivial | refine And.intro ?_ ?_ | with_reducible rfl | (refine pIEq ?_; exact ar_) | (refine bufMap ?_) | (refine bufNil ?_) | (refine bufEq ?_) | rfl); all_goals try first | refine pBEq ?_ | refine pIEq ?_)
    exact ⟨_, rfl, rfl, fun h => by cases h⟩
  have hall : AllV l := fun i h => hv i h (by omega)
  refine CallA.loc [] [] rfl rfl ((rfactors_call nl l (fun i h => (hall i h).1) (by omega)).mono ?_)
  rintro r H ⟨xs, nl2, rfl, rfl⟩
  (conv => whnf); repeat' ((first | apply CondA.plain | refine' gC | refine' gpI | refine' gpB | refine' gCkpv | refine' gE | (apply DrawA.quiet (by kernel_rfl) (by kernel_rfl); (conv => whnf); fail_if_success (show False))) <;> (conv => whnf))
  refine loop_rule (fun (k : Nat) => ⟨[(84, .buf 0), (85, .p (pI xs.length)), (86, .p (pI k))], [some (AO.buf 3 nl2 (xs.map pI))]⟩) (fun (k : Nat) => k ≤ xs.length) (fun (k : Nat) => xs.length - k) 0 ?_ ?_ ?_; (refine SubA.auto rfl rfl rfl rfl ?_ ?_ <;> repeat' (first | exact trivial | refine And.intro ?_ ?_ | with_reducible rfl | (refine pIEq ?_; exact ar_) | (refine bufMap ?_) | (refine bufNil ?_) | (refine bufEq ?_) | rfl))
  · omega
  intro k hk
  replace hk : k ≤ xs.length := hk
  (conv => whnf); repeat' ((first | apply CondA.plain | refine' gC | refine' gpI | refine' gpB | refine' gCkpv | refine' gE | (apply DrawA.quiet (by kernel_rfl) (by kernel_rfl); (conv => whnf); fail_if_success (show False))) <;> (conv => whnf))
  · (refine' RetK.auto (.p (pI 3)) ([]) rfl rfl rfl rfl _ _ _ <;> repeat' (first | exact trivial | refine And.intro ?_ ?_ | with_reducible rfl | (refine pIEq ?_; exact ar_) | (refine bufMap ?_) | (refine bufNil ?_) | (refine bufEq ?_) | rfl))
    exact ⟨_, rfl, rfl, fun h => by cases h⟩
  · (refine' ⟨k + 1, _, _, _⟩; rotate_right; (refine SubA.auto rfl rfl rfl rfl ?_ ?_ <;> repeat' (first | exact trivial | refine And.intro ?_ ?_ | with_reducible rfl | (refine pIEq ?_; exact ar_) | (refine bufMap ?_) | (refine bufNil ?_) | (refine bufEq ?_) | rfl)); rotate_right; exact ar2_)
    omega
  · (refine' RetK.auto (.p (pI 0)) ([]) rfl rfl rfl rfl _ _ _ <;> repeat' (first | exact trivial | refine And.intro ?_ ?_ | with_reducible rfl | (refine pIEq ?_; exact ar_) | (refine bufMap ?_) | (refine bufNil ?_) | (refine bufEq ?_) | rfl))
    exact ⟨_, rfl, rfl, fun _ => ⟨hall, by omega⟩⟩
open Go.Abs
set_option maxRecDepth 100000
def oASC0 : Sc := (.one 4 (.one 5 (.one 6 (.take 7 (.one 8 .done)))))
def oASC1 : Sc := (.one 5 (.one 6 (.take 7 (.one 8 .done))))
def oASC2 : Sc := (.one 1 (.one 6 (.take 7 (.one 8 .done))))
def oASC3 : Sc := (.two 1 5 oASC1 oASC2)
def oA : Sc := (.take 0 (.take 2 (.take 3 (.two 1 4 oASC0 oASC3))))
def oBSC0 : Sc := (.one 4 (.take 5 (.one 6 (.take 7 (.take 8 (.one 9 .done))))))
def oBSC1 : Sc := (.one 6 (.take 7 (.take 8 (.one 9 .done))))
def oBSC2 : Sc := (.one 1 (.take 7 (.take 8 (.one 9 .done))))
def oBSC3 : Sc := (.take 5 (.two 1 6 oBSC1 oBSC2))
def oB : Sc := (.take 0 (.take 2 (.take 3 (.two 1 4 oBSC0 oBSC3))))
def oC : Sc := (.take 0 (.load 1 (.take 2 (.one 3 (.one 4 (.take 5 (.take 6 (.one 7 .done))))))))
set_option maxHeartbeats 4000000 in
theorem one_call (nl : Bool) (ts : List Int) (i : Nat) (h : i ≤ ts.length) (k : Nat) (hk : k ≤ 100) :
    ACall Tryz.prog 18 [.ptr 0 0, .p (pI k)] (src nl ts i) fun r H => ∃ (c : Ck) (i' : Nat), c.cs.length ≤ 4 ∧ i' ≤ ts.length ∧ r = .p c.pv ∧ H = src nl ts i' := by
  refine acall_enter Tryz.func18 rfl rfl tabOK rfl ?_
  (conv => whnf); repeat' ((first | apply CondA.plain | refine' gC | refine' gpI | refine' gpB | refine' gCkpv | refine' gE | (apply DrawA.quiet (by kernel_rfl) (by kernel_rfl); (conv => whnf); fail_if_success (show False)) | (apply IsL.lit (f := pI) [1, 2, 2, 3, 3, 4, 4, 5, 5] rfl)) <;> (conv => whnf))
  refine CallA.loc [0] [2] rfl rfl ((Pick_call nl false ts i h [1, 2, 2, 3, 3, 4, 4, 5, 5] (by simp) (by simp)).mono ?_)
  rintro r H ⟨kd, i1, hv, hi1, rfl, rfl⟩
  (conv => whnf); repeat' ((first | refine' gC | refine' gpI | refine' gpB | refine' gCkpv | refine' gE | (apply DrawA.quiet (by kernel_rfl) (by kernel_rfl); (conv => whnf); fail_if_success (show False))) <;> (conv => whnf))
  refine CondA.meet (fun (⟨pn, ps, cn, cs, i2⟩ : Bool × List Int × Bool × List Int × Nat) => ⟨[(0, .ptr 0 0), (4, .ptr 1 0), (5, .ptr 2 0)], src nl ts i2 ++ [some (.cells [.p (pI 0), .p (.list true []), .p (.list true []), .p (pI 0), .p (pI 0)]), some (.cells [.p (pI kd), .p (.list pn (ps.map pI)), .p (.list cn (cs.map pI)), .p (pI 0), .p (pI 0)])]⟩) (fun (⟨pn, ps, cn, cs, i2⟩ : Bool × List Int × Bool × List Int × Nat) => cs.length ≤ 4 ∧ i2 ≤ ts.length) ?_ ?_
  · (conv => whnf); repeat' ((first | apply CondA.plain | refine' gC | refine' gpI | refine' gpB | refine' gCkpv | refine' gE | (apply DrawA.quiet (by kernel_rfl) (by kernel_rfl); (conv => whnf); fail_if_success (show False)) | (apply IsL.lit (f := pI) [10, 12, 32, 24000000] rfl)) <;> (conv => whnf))
    · refine CallA.loc [0] [4] rfl rfl ((Pick_call nl false ts i1 hi1 [10, 12, 32, 24000000] (by simp) (by simp)).mono ?_)
      rintro r H ⟨v, i2, hv2, hi2, rfl, rfl⟩
      (conv => whnf); repeat' ((first | apply CondA.plain | refine' gC | refine' gpI | refine' gpB | refine' gCkpv | refine' gE | (apply DrawA.quiet (by kernel_rfl) (by kernel_rfl); (conv => whnf); fail_if_success (show False))) <;> (conv => whnf))
      (refine' ⟨(true, [], false, [v], i2), _, _⟩; rotate_right; (refine SubA.thawed _ [5] [] ?_; refine SubA.cells _ [3] ?_; refine SubA.auto rfl rfl rfl rfl ?_ ?_ <;> repeat' (first | exact trivial | refine And.intro ?_ ?_ | with_reducible rfl | (refine pIEq ?_; exact ar_) | (refine bufMap ?_) | (refine bufNil ?_) | (refine bufEq ?_) | rfl)); rotate_right; exact ar2_)
    · rename_i hkd
      refine CallA.loc [0] [] rfl rfl ((N_call nl ts i1 hi1 k (by omega)).mono ?_)
      rintro r H ⟨v, i2, hv0, hv2, hi2, rfl, rfl⟩
      (conv => whnf); repeat' ((first | apply CondA.plain | refine' gC | refine' gpI | refine' gpB | refine' gCkpv | refine' gE | (apply DrawA.quiet (by kernel_rfl) (by kernel_rfl); (conv => whnf); fail_if_success (show False))) <;> (conv => whnf))
      refine CallA.loc [0] [] rfl rfl ((Range_call nl ts i2 hi2 1 4 (by omega) (by omega)).mono ?_)
      rintro r H ⟨j0, i3, hj0, hj1, hi3, rfl, rfl⟩
      (conv => whnf); repeat' ((first | apply CondA.plain | refine' gC | refine' gpI | refine' gpB | refine' gCkpv | refine' gE | (apply DrawA.quiet (by kernel_rfl) (by kernel_rfl); (conv => whnf); fail_if_success (show False))) <;> (conv => whnf))
      refine loop_rule (fun (⟨j, xs, nx, i⟩ : Int × List Int × Bool × Nat) => ⟨[(0, .ptr 0 0), (4, .ptr 1 0), (5, .ptr 2 0), (6, .p (pI j))], src nl ts i ++ [some (.cells [.p (pI 0), .p (.list true []), .p (.list true []), .p (pI 0), .p (pI 0)]), some (.cells [.p (pI kd), .p (.list false (([v] : List Int).map pI)), .buf 3, .p (pI 0), .p (pI 0)]), some (AO.buf 3 nx (xs.map pI))]⟩) (fun (⟨j, xs, nx, i⟩ : Int × List Int × Bool × Nat) => 0 ≤ j ∧ (xs.length : Int) + j ≤ 4 ∧ i ≤ ts.length) (fun (⟨j, xs, nx, i⟩ : Int × List Int × Bool × Nat) => j.toNat) (j0, [], true, i3) ?_ ?_ ?_; (refine SubA.thawed _ [4] [] ?_; refine SubA.cells _ [3] ?_; refine SubA.cell _ 3 2 3 _ _ _ _ _ rfl rfl rfl ?_; refine SubA.auto rfl rfl rfl rfl ?_ ?_ <;> repeat' (first | exact trivial | refine And.intro ?_ ?_ | with_reducible rfl | (refine pIEq ?_; exact ar_) | (refine bufMap ?_) | (refine bufNil ?_) | (refine bufEq ?_) | rfl))
      · exact ⟨by omega, by simp; omega, hi3⟩
      rintro ⟨j, xs, nx, i4⟩ ⟨hj, hl, hi4⟩
      try simp only at hj hl hi4
      (conv => whnf); repeat' ((first | apply CondA.plain | refine' gC | refine' gpI | refine' gpB | refine' gCkpv | refine' gE | (apply DrawA.quiet (by kernel_rfl) (by kernel_rfl); (conv => whnf); fail_if_success (show False)) | (apply IsL.lit (f := pI) [1, 2, 3, 4, 5, 8, 64] rfl)) <;> (conv => whnf))
      · refine CallA.loc [0] [4] rfl rfl ((Pick_call nl false ts i4 hi4 [1, 2, 3, 4, 5, 8, 64] (by simp) (by simp)).mono ?_)
        rintro r H ⟨f, i5, hf, hi5, rfl, rfl⟩
        (conv => whnf); repeat' ((first | apply CondA.plain | refine' gC | refine' gpI | refine' gpB | refine' gCkpv | refine' gE | (apply DrawA.quiet (by kernel_rfl) (by kernel_rfl); (conv => whnf); fail_if_success (show False)) | (refine CallA.scalar (In_call _ _ _) ?_)) <;> (conv => whnf))
        · (refine' ⟨(j - 1, xs ++ [f], _, i5), _, _, _⟩; rotate_right; (refine SubA.auto rfl rfl rfl rfl ?_ ?_ <;> repeat' (first | exact trivial | refine And.intro ?_ ?_ | with_reducible rfl | (refine pIEq ?_; exact ar_) | (refine bufMap ?_) | (refine bufNil ?_) | (refine bufEq ?_) | rfl)); rotate_right; exact ar2_)
          exact ⟨by omega, by simp; omega, hi5⟩
        · (refine' ⟨(j - 1, xs, nx, i5), _, _, _⟩; rotate_right; (refine SubA.auto rfl rfl rfl rfl ?_ ?_ <;> repeat' (first | exact trivial | refine And.intro ?_ ?_ | with_reducible rfl | (refine pIEq ?_; exact ar_) | (refine bufMap ?_) | (refine bufNil ?_) | (refine bufEq ?_) | rfl)); rotate_right; exact ar2_)
          exact ⟨by omega, by omega, hi5⟩
      · (refine' ⟨(false, [v], nx, xs, i4), _, _⟩; rotate_right; (refine SubA.thawed _ [3] [] ?_; refine SubA.cells _ [2] ?_; refine SubA.auto rfl rfl rfl rfl ?_ ?_ <;> repeat' (first | exact trivial | refine And.intro ?_ ?_ | with_reducible rfl | (refine pIEq ?_; exact ar_) | (refine bufMap ?_) | (refine bufNil ?_) | (refine bufEq ?_) | rfl)); rotate_right; exact ar2_)
    · rename_i hkd
      refine CallA.loc [0] [] rfl rfl ((N_call nl ts i1 hi1 k (by omega)).mono ?_)
      rintro r H ⟨v, i2, hv0, hv2, hi2, rfl, rfl⟩
      (conv => whnf); repeat' ((first | apply CondA.plain | refine' gC | refine' gpI | refine' gpB | refine' gCkpv | refine' gE | (apply DrawA.quiet (by kernel_rfl) (by kernel_rfl); (conv => whnf); fail_if_success (show False))) <;> (conv => whnf))
      refine CallA.loc [0] [] rfl rfl ((Range_call nl ts i2 hi2 1 4 (by omega) (by omega)).mono ?_)
      rintro r H ⟨j0, i3, hj0, hj1, hi3, rfl, rfl⟩
      (conv => whnf); repeat' ((first | apply CondA.plain | refine' gC | refine' gpI | refine' gpB | refine' gCkpv | refine' gE | (apply DrawA.quiet (by kernel_rfl) (by kernel_rfl); (conv => whnf); fail_if_success (show False))) <;> (conv => whnf))
      refine loop_rule (fun (⟨j, xs, nx, i⟩ : Int × List Int × Bool × Nat) => ⟨[(0, .ptr 0 0), (4, .ptr 1 0), (5, .ptr 2 0), (6, .p (pI j))], src nl ts i ++ [some (.cells [.p (pI 0), .p (.list true []), .p (.list true []), .p (pI 0), .p (pI 0)]), some (.cells [.p (pI kd), .p (.list false (([v] : List Int).map pI)), .buf 3, .p (pI 0), .p (pI 0)]), some (AO.buf 3 nx (xs.map pI))]⟩) (fun (⟨j, xs, nx, i⟩ : Int × List Int × Bool × Nat) => 0 ≤ j ∧ (xs.length : Int) + j ≤ 4 ∧ i ≤ ts.length) (fun (⟨j, xs, nx, i⟩ : Int × List Int × Bool × Nat) => j.toNat) (j0, [], true, i3) ?_ ?_ ?_; (refine SubA.thawed _ [4] [] ?_; refine SubA.cells _ [3] ?_; refine SubA.cell _ 3 2 3 _ _ _ _ _ rfl rfl rfl ?_; refine SubA.auto rfl rfl rfl rfl ?_ ?_ <;> repeat' (first | exact trivial | refine And.intro ?_ ?_ | with_reducible rfl | (refine pIEq ?_; exact ar_) | (refine bufMap ?_) | (refine bufNil ?_) | (refine bufEq ?_) | rfl))
      · exact ⟨by omega, by simp; omega, hi3⟩
      rintro ⟨j, xs, nx, i4⟩ ⟨hj, hl, hi4⟩
      try simp only at hj hl hi4
      (conv => whnf); repeat' ((first | apply CondA.plain | refine' gC | refine' gpI | refine' gpB | refine' gCkpv | refine' gE | (apply DrawA.quiet (by kernel_rfl) (by kernel_rfl); (conv => whnf); fail_if_success (show False)) | (apply IsL.lit (f := pI) [1, 2, 3, 4, 5, 8, 64] rfl)) <;> (conv => whnf))
      · refine CallA.loc [0] [4] rfl rfl ((Pick_call nl false ts i4 hi4 [1, 2, 3, 4, 5, 8, 64] (by simp) (by simp)).mono ?_)
        rintro r H ⟨f, i5, hf, hi5, rfl, rfl⟩
        (conv => whnf); repeat' ((first | apply CondA.plain | refine' gC | refine' gpI | refine' gpB | refine' gCkpv | refine' gE | (apply DrawA.quiet (by kernel_rfl) (by kernel_rfl); (conv => whnf); fail_if_success (show False)) | (refine CallA.scalar (In_call _ _ _) ?_)) <;> (conv => whnf))
        · (refine' ⟨(j - 1, xs ++ [f], _, i5), _, _, _⟩; rotate_right; (refine SubA.auto rfl rfl rfl rfl ?_ ?_ <;> repeat' (first | exact trivial | refine And.intro ?_ ?_ | with_reducible rfl | (refine pIEq ?_; exact ar_) | (refine bufMap ?_) | (refine bufNil ?_) | (refine bufEq ?_) | rfl)); rotate_right; exact ar2_)
          exact ⟨by omega, by simp; omega, hi5⟩
        · (refine' ⟨(j - 1, xs, nx, i5), _, _, _⟩; rotate_right; (refine SubA.auto rfl rfl rfl rfl ?_ ?_ <;> repeat' (first | exact trivial | refine And.intro ?_ ?_ | with_reducible rfl | (refine pIEq ?_; exact ar_) | (refine bufMap ?_) | (refine bufNil ?_) | (refine bufEq ?_) | rfl)); rotate_right; exact ar2_)
          exact ⟨by omega, by omega, hi5⟩
      · (refine' ⟨(false, [v], nx, xs, i4), _, _⟩; rotate_right; (refine SubA.thawed _ [3] [] ?_; refine SubA.cells _ [2] ?_; refine SubA.auto rfl rfl rfl rfl ?_ ?_ <;> repeat' (first | exact trivial | refine And.intro ?_ ?_ | with_reducible rfl | (refine pIEq ?_; exact ar_) | (refine bufMap ?_) | (refine bufNil ?_) | (refine bufEq ?_) | rfl)); rotate_right; exact ar2_)

    · refine CallA.loc [0] [] rfl rfl ((Range_call nl ts i1 hi1 1 3 (by omega) (by omega)).mono ?_)
      rintro r H ⟨j0, i3, hj0, hj1, hi3, rfl, rfl⟩
      (conv => whnf); repeat' ((first | apply CondA.plain | refine' gC | refine' gpI | refine' gpB | refine' gCkpv | refine' gE | fail) <;> (conv => whnf))
      refine loop_rule (fun (⟨j, xs, nx, i⟩ : Int × List Int × Bool × Nat) => ⟨[(0, .ptr 0 0), (1, .p (pI k)), (4, .ptr 1 0), (5, .ptr 2 0), (8, .p (pI j))], src nl ts i ++ [some (.cells [.p (pI 0), .p (.list true []), .p (.list true []), .p (pI 0), .p (pI 0)]), some (.cells [.p (pI kd), .buf 3, .p (.list true []), .p (pI 0), .p (pI 0)]), some (AO.buf 3 nx (xs.map pI))]⟩) (fun (⟨j, xs, nx, i⟩ : Int × List Int × Bool × Nat) => 0 ≤ j ∧ (xs.length : Int) + j ≤ 3 ∧ 1 ≤ (xs.length : Int) + j ∧ i ≤ ts.length) (fun (⟨j, xs, nx, i⟩ : Int × List Int × Bool × Nat) => j.toNat) (j0, [], true, i3) ?_ ?_ ?_; (refine SubA.cell _ 3 1 3 _ _ _ _ _ rfl rfl rfl ?_; refine SubA.auto rfl rfl rfl rfl ?_ ?_ <;> repeat' (first | exact trivial | refine And.intro ?_ ?_ | with_reducible rfl | (refine pIEq ?_; exact ar_) | (refine bufMap ?_) | (refine bufNil ?_) | (refine bufEq ?_) | rfl))
      · exact ⟨by omega, by simp; omega, by simp; omega, hi3⟩
      rintro ⟨j, xs, nx, i4⟩ ⟨hj, hl, hl1, hi4⟩
      try simp only at hj hl hl1 hi4
      (conv => whnf); repeat' ((first | apply CondA.plain | refine' gC | refine' gpI | refine' gpB | refine' gCkpv | refine' gE | fail) <;> (conv => whnf))
      · refine DrawA.meet (fun (⟨v, nx2, i5⟩ : Int × Bool × Nat) => ⟨[(0, .ptr 0 0), (1, .p (pI k)), (4, .ptr 1 0), (5, .ptr 2 0), (8, .p (pI j))], src nl ts i5 ++ [some (.cells [.p (pI 0), .p (.list true []), .p (.list true []), .p (pI 0), .p (pI 0)]), some (.cells [.p (pI kd), .buf 3, .p (.list true []), .p (pI 0), .p (pI 0)]), some (AO.buf 3 nx2 ((xs ++ [v]).map pI))]⟩) (fun (⟨v, nx2, i5⟩ : Int × Bool × Nat) => i5 ≤ ts.length) (DrawB.orders oA (by kernel_rfl) (by kernel_rfl) (by kernel_rfl) ?_) ?_
        · (conv => whnf); repeat' ((first | apply CondA.plain | refine' gC | refine' gpI | refine' gpB | refine' gCkpv | refine' gE | fail) <;> (conv => whnf))
          all_goals
            refine CallA.loc [0] [] rfl rfl ((N_call nl ts i4 hi4 k (by omega)).mono ?_)
            rintro r H ⟨v, i5, hv0, hv2, hi5, rfl, rfl⟩
            (conv => whnf); repeat' ((first | apply CondA.plain | refine' gC | refine' gpI | refine' gpB | refine' gCkpv | refine' gE | fail) <;> (conv => whnf))
            all_goals (refine' ⟨(v, _, i5), _, _⟩; rotate_right; (refine SubA.auto rfl rfl rfl rfl ?_ ?_ <;> repeat' (first | exact trivial | refine And.intro ?_ ?_ | with_reducible rfl | (refine pIEq ?_; exact ar_) | (refine bufMap ?_) | (refine bufNil ?_) | (refine bufEq ?_) | rfl)); rotate_right; exact ar2_)
        rintro ⟨v, nx2, i5⟩ hi5
        (conv => whnf); repeat' ((first | apply CondA.plain | refine' gC | refine' gpI | refine' gpB | refine' gCkpv | refine' gE | (apply DrawA.quiet (by kernel_rfl) (by kernel_rfl); (conv => whnf); fail_if_success (show False))) <;> (conv => whnf))
        (refine' ⟨(j - 1, xs ++ [v], nx2, i5), _, _, _⟩; rotate_right; (refine SubA.auto rfl rfl rfl rfl ?_ ?_ <;> repeat' (first | exact trivial | refine And.intro ?_ ?_ | with_reducible rfl | (refine pIEq ?_; exact ar_) | (refine bufMap ?_) | (refine bufNil ?_) | (refine bufEq ?_) | rfl)); rotate_right; exact ar2_)
        exact ⟨by omega, by simp; omega, by simp; omega, hi5⟩
      · refine CallA.loc [0] [] rfl rfl ((Order_call nl ts i4 hi4 xs.length (by omega)).mono ?_)
        rintro r H ⟨os, n5, i5, ho, hi5, rfl, rfl⟩
        (conv => whnf); repeat' ((first | apply CondA.plain | refine' gC | refine' gpI | refine' gpB | refine' gCkpv | refine' gE | fail) <;> (conv => whnf))
        refine DrawA.meet (fun (⟨m, i6⟩ : Int × Nat) => ⟨[(0, .ptr 0 0), (4, .ptr 1 0), (5, .ptr 2 0)], src nl ts i6 ++ [some (.cells [.p (pI 0), .p (.list true []), .p (.list true []), .p (pI 0), .p (pI 0)]), some (.cells [.p (pI kd), .buf 3, .p (.list n5 ((os.take m.toNat).map pI)), .p (pI 0), .p (pI 0)]), some (AO.buf 3 nx (xs.map pI))]⟩) (fun (⟨m, i6⟩ : Int × Nat) => m ≤ 3 ∧ i6 ≤ ts.length) (DrawB.orders oB (by kernel_rfl) (by kernel_rfl) (by kernel_rfl) ?_) ?_
        · (conv => whnf); repeat' ((first | apply CondA.plain | refine' gC | refine' gpI | refine' gpB | refine' gCkpv | refine' gE | fail) <;> (conv => whnf))
          all_goals
            refine CallA.loc [0] [] rfl rfl ((Range_call nl ts i5 hi5 1 os.length (by omega) (by omega)).mono ?_)
            rintro r H ⟨m, i6, hm1, hm2, hi6, rfl, rfl⟩
            (conv => whnf); repeat' ((first | apply CondA.plain | refine' gC | refine' gpI | refine' gpB | refine' gCkpv | refine' gE | fail) <;> (conv => whnf))
            all_goals (refine' ⟨(m, i6), _, _⟩; rotate_right; (refine SubA.auto rfl rfl rfl rfl ?_ ?_ <;> repeat' (first | exact trivial | refine And.intro ?_ ?_ | with_reducible rfl | (refine pIEq ?_; exact ar_) | (refine bufMap ?_) | (refine bufNil ?_) | (refine bufEq ?_) | rfl)); rotate_right; exact ar2_)
        rintro ⟨m, i6⟩ ⟨hm, hi6⟩
        (conv => whnf); repeat' ((first | apply CondA.plain | refine' gC | refine' gpI | refine' gpB | refine' gCkpv | refine' gE | (apply DrawA.quiet (by kernel_rfl) (by kernel_rfl); (conv => whnf); fail_if_success (show False))) <;> (conv => whnf))
        (refine' ⟨(nx, xs, n5, os.take m.toNat, i6), _, _⟩; rotate_right; (refine SubA.thawed _ [3] [] ?_; refine SubA.cells _ [2] ?_; refine SubA.auto rfl rfl rfl rfl ?_ ?_ <;> repeat' (first | exact trivial | refine And.intro ?_ ?_ | with_reducible rfl | (refine pIEq ?_; exact ar_) | (refine bufMap ?_) | (refine bufNil ?_) | (refine bufEq ?_) | rfl)); rotate_right; exact ar2_)
    · refine CallA.loc [0] [] rfl rfl ((N_call nl ts i1 hi1 k (by omega)).mono ?_)
      rintro r H ⟨v, i2, hv0, hv2, hi2, rfl, rfl⟩
      (conv => whnf); repeat' ((first | apply CondA.plain | refine' gC | refine' gpI | refine' gpB | refine' gCkpv | refine' gE | (apply DrawA.quiet (by kernel_rfl) (by kernel_rfl); (conv => whnf); fail_if_success (show False))) <;> (conv => whnf))
      (refine' ⟨(false, [v], false, [0, 1], i2), _, _⟩; rotate_right; (refine SubA.thawed _ [4, 5] [] ?_; refine SubA.cells _ [3] ?_; refine SubA.auto rfl rfl rfl rfl ?_ ?_ <;> repeat' (first | exact trivial | refine And.intro ?_ ?_ | with_reducible rfl | (refine pIEq ?_; exact ar_) | (refine bufMap ?_) | (refine bufNil ?_) | (refine bufEq ?_) | rfl)); rotate_right; exact ar2_)
  · rintro ⟨pn, ps, cn, cs, i2⟩ ⟨hcs, hi2⟩
    try simp only at hcs hi2
    (conv => whnf); repeat' ((first | apply CondA.plain | refine' gC | refine' gpI | refine' gpB | refine' gCkpv | refine' gE | (apply DrawA.quiet (by kernel_rfl) (by kernel_rfl); (conv => whnf); fail_if_success (show False))) <;> (conv => whnf))
    refine CallA.loc [0] [] rfl rfl ((N_call nl ts i2 hi2 5 (by omega)).mono ?_)
    rintro r H ⟨v, i3, hv0, hv2, hi3, rfl, rfl⟩
    (conv => whnf); repeat' ((first | apply CondA.plain | refine' gC | refine' gpI | refine' gpB | refine' gCkpv | refine' gE | (apply DrawA.quiet (by kernel_rfl) (by kernel_rfl); (conv => whnf); fail_if_success (show False)) | (apply IsL.lit (f := pI) [0, 1, 10, 100] rfl)) <;> (conv => whnf))
    · refine CallA.loc [0] [3] rfl rfl ((Pick_call nl false ts i3 hi3 [0, 1, 10, 100] (by simp) (by simp)).mono ?_)
      rintro r H ⟨lo, i4, hlo, hi4, rfl, rfl⟩
      have hlo' : 0 ≤ lo ∧ lo ≤ 100 := by simp at hlo; omega
      (conv => whnf); repeat' ((first | apply CondA.plain | refine' gC | refine' gpI | refine' gpB | refine' gCkpv | refine' gE | (apply DrawA.orders oC (by kernel_rfl) (by kernel_rfl) (by kernel_rfl)) | (apply IsL.lit (f := pI) [0, 20, 200, 1000000000] rfl)) <;> (conv => whnf))
      refine CallA.loc [0] [4] rfl rfl ((Pick_call nl false ts i4 hi4 [0, 20, 200, 1000000000] (by simp) (by simp)).mono ?_)
      rintro r H ⟨up, i5, hup, hi5, rfl, rfl⟩
      have hup' : 0 ≤ up ∧ up ≤ 1000000000 := by simp at hup; omega
      (conv => whnf); repeat' ((first | apply CondA.plain | refine' gC | refine' gpI | refine' gpB | refine' gCkpv | refine' gE | fail) <;> (conv => whnf))
      (refine' RetK.auto (.p (Ck.pv ⟨kd, pn, ps, cn, cs, lo, lo + up⟩)) (src nl ts i5) rfl rfl rfl rfl _ _ _ <;> repeat' (first | exact trivial | refine And.intro ?_ ?_ | with_reducible rfl | (refine pIEq ?_; exact ar_) | (refine bufMap ?_) | (refine bufNil ?_) | (refine bufEq ?_) | rfl))
      exact ⟨_, i5, hcs, hi5, rfl, rfl⟩
    · (refine' RetK.auto (.p (Ck.pv ⟨kd, pn, ps, cn, cs, 0, 0⟩)) (src nl ts i3) rfl rfl rfl rfl _ _ _ <;> repeat' (first | exact trivial | refine And.intro ?_ ?_ | with_reducible rfl | (refine pIEq ?_; exact ar_) | (refine bufMap ?_) | (refine bufNil ?_) | (refine bufEq ?_) | rfl))
      exact ⟨_, i3, hcs, hi3, rfl, rfl⟩
open Go.Abs
set_option maxRecDepth 100000
def kASC0 : Sc := (.one 4 (.one 5 (.one 6 (.take 7 .done))))
def kASC1 : Sc := (.one 2 (.one 5 (.one 6 (.take 7 .done))))
def kASC2 : Sc := (.two 2 4 kASC0 kASC1)
def kASC3 : Sc := (.one 0 (.one 2 (.one 5 (.one 6 (.take 7 .done)))))
def kA : Sc := (.take 1 (.frz 3 (.two 0 4 kASC2 kASC3)))
theorem call_exI {P : Program} {f : FuncId} {args : List AV} {H : AH} {K : AV → AH → Prop} {p : Int → Prop} (h : ACall P f (toLocL H [] true args) [] fun r H' => ∃ b : Int, r = .p (pI b) ∧ H' = [] ∧ p b) (hk : ∀ b, p b → K (.p (pI b)) H) : CallA P f args H K :=
  .lend (h.mono fun r H' ⟨b, h1, h2, h3⟩ => by subst h1; subst h2; exact ⟨trivial, trivial, by simpa [renH, AV.ren] using hk b h3⟩)
theorem AllV.one (n : Bool) (v : Int) (m : Bool) : AllV [⟨1, n, [], m, [v], 0, 0⟩] := by
  intro i h
  match i, h with
  | 0, _ => exact ⟨by simp, ⟨by simp, .inl rfl⟩, by simp, by simp⟩
set_option maxHeartbeats 4000000 in
theorem Clocks_call (nl : Bool) (ts : List Int) (i : Nat) (h : i ≤ ts.length) (n : Nat) (hn : n ≤ 15) (most : Int) (hm : 0 ≤ most ∧ most ≤ 1000) :
    ACall Tryz.prog 5 [.ptr 0 0, .p (pI n), .p (pI most)] (src nl ts i) fun r H => ∃ (l : List Ck) (nb : Bool) (i' : Nat), AllV l ∧ 1 ≤ l.length ∧ l.length ≤ 16 ∧ i' ≤ ts.length ∧ r = .buf 1 ∧ H = src nl ts i' ++ [some (AO.buf 66 nb (l.map Ck.pv))] := by
  refine acall_enter Tryz.func5 rfl rfl tabOK rfl ?_
  (conv => whnf); repeat' ((first | apply CondA.plain | refine' gC | refine' gpI | refine' gpB | refine' gCkpv | refine' gE | (apply DrawA.quiet (by kernel_rfl) (by kernel_rfl); (conv => whnf); fail_if_success (show False)) | (apply IsL.lit (f := pI) [12, 24, 100, 24000000] rfl)) <;> (conv => whnf))
  refine CallA.loc [0] [1] rfl rfl ((Pick_call nl false ts i h [12, 24, 100, 24000000] (by simp) (by simp)).mono ?_)
  rintro r H ⟨v, i1, hv, hi1, rfl, rfl⟩
  (conv => whnf); repeat' ((first | apply CondA.plain | refine' gC | refine' gpI | refine' gpB | refine' gCkpv | refine' gE | (apply DrawA.quiet (by kernel_rfl) (by kernel_rfl); (conv => whnf); fail_if_success (show False)) | (apply IsL.lit (f := Ck.pv) [⟨1, true, [], false, [v], 0, 0⟩] rfl)) <;> (conv => whnf))
  refine CallA.loc [0] [] rfl rfl ((N_call nl ts i1 hi1 n (by omega)).mono ?_)
  rintro r H ⟨j0, i2, hj0, hj2, hi2, rfl, rfl⟩
  (conv => whnf); repeat' ((first | apply CondA.plain | refine' gC | refine' gpI | refine' gpB | refine' gCkpv | refine' gE | (apply DrawA.quiet (by kernel_rfl) (by kernel_rfl); (conv => whnf); fail_if_success (show False))) <;> (conv => whnf))
  refine loop_rule (fun (⟨j, l, nb, pr, i⟩ : Int × List Ck × Bool × Int × Nat) => ⟨[(0, .ptr 0 0), (2, .p (pI most)), (7, .buf 1), (8, .p (pI pr)), (9, .p (pI j))], src nl ts i ++ [some (AO.buf 66 nb (l.map Ck.pv))]⟩) (fun (⟨j, l, nb, pr, i⟩ : Int × List Ck × Bool × Int × Nat) => 0 ≤ j ∧ AllV l ∧ 1 ≤ l.length ∧ (l.length : Int) + j ≤ 16 ∧ 0 ≤ pr ∧ pr ≤ 1000 ∧ i ≤ ts.length) (fun (⟨j, l, nb, pr, i⟩ : Int × List Ck × Bool × Int × Nat) => j.toNat) (j0, [⟨1, true, [], false, [v], 0, 0⟩], false, 1, i2) ?_ ?_ ?_; (refine SubA.auto rfl rfl rfl rfl ?_ ?_ <;> repeat' (first | exact trivial | refine And.intro ?_ ?_ | with_reducible rfl | (refine pIEq ?_; exact ar_) | (refine bufMap ?_) | (refine bufNil ?_) | (refine bufEq ?_) | rfl))
  · exact ⟨by omega, AllV.one true v false, by simp, by simp; omega, by omega, by omega, hi2⟩
  rintro ⟨j, l, nb, pr, i3⟩ ⟨hj, hv, hl1, hl, hp0, hp1, hi3⟩
  try simp only at hj hv hl1 hl hp0 hp1 hi3
  (conv => whnf); repeat' ((first | apply CondA.plain | refine' gC | refine' gpI | refine' gpB | refine' gCkpv | refine' gE | fail) <;> (conv => whnf))
  · refine CallA.loc [0] [] rfl rfl ((one_call nl ts i3 hi3 l.length (by omega)).mono ?_)
    rintro r H ⟨c, i4, hcs, hi4, rfl, rfl⟩
    have hmul : 0 ≤ pr * (c.cs.length : Int) ∧ pr * (c.cs.length : Int) ≤ 1000 * 4 := ⟨Int.mul_nonneg hp0 (by omega), Int.mul_le_mul hp1 (by omega) (by omega) (by omega)⟩
    (conv => whnf); repeat' ((first | apply CondA.plain | refine' gC | refine' gpI | refine' gpB | refine' gCkpv | refine' gE | fail) <;> (conv => whnf))
    · (refine' ⟨(j - 1, l, nb, pr, i4), _, _, _⟩; rotate_right; (refine SubA.auto rfl rfl rfl rfl ?_ ?_ <;> repeat' (first | exact trivial | refine And.intro ?_ ?_ | with_reducible rfl | (refine pIEq ?_; exact ar_) | (refine bufMap ?_) | (refine bufNil ?_) | (refine bufEq ?_) | rfl)); rotate_right; exact ar2_)
      exact ⟨by omega, hv, hl1, by omega, hp0, hp1, hi4⟩
    refine DrawA.retire 10 2 [pI c.kind, .list c.pn (c.ps.map pI), .list c.cn (c.cs.map pI), pI c.lo, pI c.hi] rfl rfl ?_
    refine DrawA.meet (fun (e : Int) => ⟨[(0, .ptr 0 0), (2, .p (pI most)), (7, .buf 1), (8, .p (pI pr)), (9, .p (pI j)), (10, .rptr [pI c.kind, .list c.pn (c.ps.map pI), .list c.cn (c.cs.map pI), pI c.lo, pI c.hi]), (42, .p (pB (e != 0)))], src nl ts i4 ++ [some (AO.buf 66 nb (l.map Ck.pv))]⟩) (fun (e : Int) => e = 0 → AllV (l ++ [c]) ∧ (l ++ [c]).length ≤ 16) (DrawB.orders kA (by kernel_rfl) (by kernel_rfl) (by kernel_rfl) ?_) ?_
    · (conv => whnf); repeat' ((first | apply CondA.plain | refine' gC | refine' gpI | refine' gpB | refine' gCkpv | refine' gE | ((refine call_exI (rCheck_call _ (l ++ [c])) ?_; intro e he))) <;> (conv => whnf))
      all_goals (refine' ⟨e, _, _⟩; rotate_right; (refine SubA.auto rfl rfl rfl rfl ?_ ?_ <;> repeat' (first | exact trivial | refine And.intro ?_ ?_ | with_reducible rfl | (refine pIEq ?_; exact ar_) | (refine bufMap ?_) | (refine bufNil ?_) | (refine bufEq ?_) | rfl)); rotate_right; exact ar2_)
    rintro e he
    (conv => whnf); repeat' ((first | apply CondA.plain | refine' gC | refine' gpI | refine' gpB | refine' gCkpv | refine' gE | fail) <;> (conv => whnf))
    · (refine' ⟨(j - 1, l, nb, pr, i4), _, _, _⟩; rotate_right; (refine SubA.auto rfl rfl rfl rfl ?_ ?_ <;> repeat' (first | exact trivial | refine And.intro ?_ ?_ | with_reducible rfl | (refine pIEq ?_; exact ar_) | (refine bufMap ?_) | (refine bufNil ?_) | (refine bufEq ?_) | rfl)); rotate_right; exact ar2_)
      exact ⟨by omega, hv, hl1, by omega, hp0, hp1, hi4⟩
    · (refine' ⟨(j - 1, l ++ [c], _, _, i4), _, _, _⟩; rotate_right; (refine SubA.auto rfl rfl rfl rfl ?_ ?_ <;> repeat' (first | exact trivial | refine And.intro ?_ ?_ | with_reducible rfl | (refine pIEq ?_; exact ar_) | (refine bufMap ?_) | (refine bufNil ?_) | (refine bufEq ?_) | rfl)); rotate_right; exact ar2_)
      exact ⟨by omega, (he h0).1, by simp, by simp; omega, by omega, by omega, hi4⟩
  · (refine' RetK.auto (.buf 1) (src nl ts i3 ++ [some (AO.buf 66 nb (l.map Ck.pv))]) rfl rfl rfl rfl _ _ _ <;> repeat' (first | exact trivial | refine And.intro ?_ ?_ | with_reducible rfl | (refine pIEq ?_; exact ar_) | (refine bufMap ?_) | (refine bufNil ?_) | (refine bufEq ?_) | rfl))
    exact ⟨l, nb, i3, hv, hl1, by omega, hi3, rfl, rfl⟩
open Go.Abs
set_option maxRecDepth 100000
def SetOK (l : List Ck) (s : List Int) : Prop := s.length = l.length ∧ ∀ (i : Nat) (h : i < s.length) (h' : i < l.length), 0 ≤ s[i] ∧ s[i] < (l[i]).cs.length
theorem Setting_call (nl n2 : Bool) (ts : List Int) (i : Nat) (h : i ≤ ts.length) (l : List Ck) (hv : AllV l) (h16 : l.length ≤ 16) :
    ACall Tryz.prog 23 [.ptr 0 0, .p (.list n2 (l.map Ck.pv))] (src nl ts i) fun r H => ∃ (s : List Int) (nb : Bool) (i' : Nat), SetOK l s ∧ i' ≤ ts.length ∧ r = .buf 1 ∧ H = src nl ts i' ++ [some (AO.buf 3 nb (s.map pI))] := by
  refine acall_enter Tryz.func23 rfl rfl tabOK rfl ?_
  (conv => whnf); repeat' ((first | apply CondA.plain | refine' gC | refine' gpI | refine' gpB | refine' gCkpv | refine' gE | (apply DrawA.quiet (by kernel_rfl) (by kernel_rfl); (conv => whnf); fail_if_success (show False))) <;> (conv => whnf))
  refine loop_rule (fun (⟨c, s, nb, i⟩ : Nat × List Int × Bool × Nat) => ⟨[(0, .ptr 0 0), (5, .buf 1), (8, .p (.list n2 (l.map Ck.pv))), (9, .p (pI l.length)), (10, .p (pI c))], src nl ts i ++ [some (AO.buf 3 nb (s.map pI))]⟩) (fun (⟨c, s, nb, i⟩ : Nat × List Int × Bool × Nat) => c ≤ l.length ∧ SetOK (l.take c) s ∧ i ≤ ts.length) (fun (⟨c, s, nb, i⟩ : Nat × List Int × Bool × Nat) => l.length - c) (0, [], true, i) ?_ ?_ ?_; (refine SubA.auto1 (3, 5) rfl rfl rfl rfl rfl ?_ ?_ <;> repeat' (first | exact trivial | refine And.intro ?_ ?_ | with_reducible rfl | (refine pIEq ?_; exact ar_) | (refine bufMap ?_) | (refine bufNil ?_) | (refine bufEq ?_) | rfl))
  · exact ⟨by omega, ⟨by simp, fun k hk => by simp at hk⟩, h⟩
  rintro ⟨c, s, nb, i2⟩ ⟨hc, hs, hi2⟩
  try simp only at hc hs hi2
  have hsl : s.length = c := by have := hs.1; simp at this; omega
  (conv => whnf); repeat' ((first | apply CondA.plain | refine' gC | refine' gpI | refine' gpB | refine' gCkpv | refine' gE | (apply DrawA.quiet (by kernel_rfl) (by kernel_rfl); (conv => whnf); fail_if_success (show False))) <;> (conv => whnf))
  · have hcl : c < l.length := by omega
    have hch := (hv c hcl).2.1.1
    have hch8 := (hv c hcl).2.2.2
    refine CallA.loc [0] [] rfl rfl ((N_call nl ts i2 hi2 (l[c]).cs.length (by omega)).mono ?_)
    rintro r H ⟨v, i3, hv0, hv2, hi3, rfl, rfl⟩
    (conv => whnf); repeat' ((first | apply CondA.plain | refine' gC | refine' gpI | refine' gpB | refine' gCkpv | refine' gE | (apply DrawA.quiet (by kernel_rfl) (by kernel_rfl); (conv => whnf); fail_if_success (show False))) <;> (conv => whnf))
    (refine' ⟨(c + 1, s ++ [v], _, i3), _, _, _⟩; rotate_right; (refine SubA.auto rfl rfl rfl rfl ?_ ?_ <;> repeat' (first | exact trivial | refine And.intro ?_ ?_ | with_reducible rfl | (refine pIEq ?_; exact ar_) | (refine bufMap ?_) | (refine bufNil ?_) | (refine bufEq ?_) | rfl)); rotate_right; exact ar2_)
    refine ⟨by omega, ⟨?_, fun k hk hk' => ?_⟩, hi3⟩
    · have := hs.1
      simp at this ⊢
      omega
    · have h1 := hs.1
      simp at h1
      by_cases hkc : k < s.length
      · have := hs.2 k hkc (by simp; omega)
        simp [List.getElem_append_left hkc] at this ⊢
        exact this
      · have hke : k = c := by simp at hk; omega
        subst hke
        simp [List.getElem_append_right (show s.length ≤ k by omega)]
        have e0 : k - s.length = 0 := by omega
        try simp [e0]
        omega
  · have hc' : c = l.length := by omega
    rw [hc', List.take_length] at hs
    (refine' RetK.auto (.buf 1) (src nl ts i2 ++ [some (AO.buf 3 nb (s.map pI))]) rfl rfl rfl rfl _ _ _ <;> repeat' (first | exact trivial | refine And.intro ?_ ?_ | with_reducible rfl | (refine pIEq ?_; exact ar_) | (refine bufMap ?_) | (refine bufNil ?_) | (refine bufEq ?_) | rfl))
    exact ⟨s, nb, i2, hs, hi2, rfl, rfl⟩
open Go.Abs
theorem gpR {P : Prop} (h : P := by
  (first | ((first | apply AppA.snoc (f := pR) (a := _) rfl | apply AppA.one (f := pR) (a := _) rfl | (apply AppA.snoc (f := pR) (a := ⟨_, _⟩); dsimp only [pR]; exact rfl) | (apply AppA.one (f := pR) (a := ⟨_, _⟩); dsimp only [pR]; exact rfl)); exact ar_) | apply IsL.set (f := pR) (a := _) rfl | apply IsL.rep (f := pR) (a := _) rfl | (apply IsL.set (f := pR) (a := ⟨_, _⟩); dsimp only [pR]; exact rfl) | (apply IsL.rep (f := pR) (a := ⟨_, _⟩); dsimp only [pR]; exact rfl) | apply IsL.lit (f := pR) [] rfl | apply IsL.lit (f := pR) [_] rfl | apply IsL.lit (f := pR) [_, _] rfl | apply IsL.lit (f := pR) [_, _, _] rfl | apply IsL.lit (f := pR) [] rfl | apply IsL.lit (f := pR) [⟨_, _⟩] rfl | apply IsL.lit (f := pR) [⟨_, _⟩, ⟨_, _⟩] rfl | apply IsL.lit (f := pR) [⟨_, _⟩, ⟨_, _⟩, ⟨_, _⟩] rfl) <;> (solve_by_elim (newGoals := .nonDependentOnly) (symm := false) (exfalso := false) (transparency := .reducible) only [rfl, park_])) : P := h
set_option maxRecDepth 100000
theorem getD_at {α : Type} {l : List α} {d : α} {i : Nat} (h : i < l.length) : l.getD i d = l[i] := by simp [List.getD, h]
/-- The parent that a choice means; -1 for a fixed clock. -/
def parF (c : Ck) (k : Int) : Int := if c.kind = 1 then -1 else if c.kind = 4 then c.ps.getD (c.cs.getD k.toNat 0).toNat 0 else c.ps.getD 0 0
theorem CkV.facts {c : Ck} {n : Nat} (hv : CkV c n) {k : Int} (hk : 0 ≤ k ∧ k < c.cs.length) : (c.kind = 4 → 0 ≤ c.cs[k.toNat]'(by omega) ∧ c.cs[k.toNat]'(by omega) < c.ps.length) ∧ (¬ c.kind = 1 → ¬ c.kind = 4 → 1 ≤ c.ps.length) ∧ ∀ (j : Nat) (h : j < c.ps.length), 0 ≤ c.ps[j] ∧ c.ps[j] < n := by
  obtain ⟨h1, ⟨h2, h3⟩, h4, h5⟩ := hv
  refine ⟨fun h4 => ?_, fun h h' => ?_, fun j h => h1 _ (List.getElem_mem h)⟩
  · rcases h3 with h3 | ⟨_, h3⟩ | ⟨h3, _⟩
    · omega
    · exact h3 _ (List.getElem_mem _)
    · omega
  · rcases h3 with h3 | ⟨h3, _⟩ | ⟨_, h3⟩
    · omega
    · omega
    · exact h3
theorem parF_range {c : Ck} {n : Nat} (hv : CkV c n) {k : Int} (hk : 0 ≤ k ∧ k < c.cs.length) : -1 ≤ parF c k ∧ parF c k < n := by
  obtain ⟨h1, h2, h3⟩ := hv.facts hk
  unfold parF
  split
  · omega
  · split
    · rename_i h4
      have h5 := h1 h4
      have h6 := h3 (c.cs[k.toNat]'(by omega)).toNat (by omega)
      rw [getD_at (show k.toNat < c.cs.length by omega), getD_at (show (c.cs[k.toNat]'(by omega)).toNat < c.ps.length by omega)]
      omega
    · rename_i h4 h5
      have h6 := h2 h4 h5
      have h7 := h3 0 (by omega)
      rw [getD_at (show 0 < c.ps.length by omega)]
      omega
theorem rParent_call (c : Ck) (n : Nat) (hv : CkV c n) (k : Int) (hk : 0 ≤ k ∧ k < c.cs.length) : ACall Tryz.prog 56 [.p c.pv, .p (pI k)] [] fun r H => r = .p (pI (parF c k)) ∧ H = [] := by
  refine acall_enter Tryz.func56 rfl rfl tabOK rfl ?_
  obtain ⟨h1, h2, hps⟩ := hv.facts hk
  (conv => whnf); repeat' ((first | apply CondA.plain | refine' gC | refine' gpI | refine' gpB | refine' gCkpv | refine' gpR | refine' gE | (apply DrawA.quiet (by kernel_rfl) (by kernel_rfl); (conv => whnf); fail_if_success (show False))) <;> (conv => whnf))
  · have e : parF c k = -1 := if_pos h0
    rw [e]
    (refine RetK.p ?_ <;> repeat' (first | exact trivial | refine And.intro ?_ ?_ | with_reducible rfl | (refine pIEq ?_; exact ar_) | (refine bufMap ?_) | (refine bufNil ?_) | (refine bufEq ?_) | rfl); all_goals try first | refine pBEq ?_ | refine pIEq ?_)
  · rename_i h9
    have h6 := h1 h0
    have e : parF c k = c.ps[(c.cs[k.toNat]'(by omega)).toNat]'(by omega) := by
      rw [parF, if_neg h9, if_pos h0, getD_at (show k.toNat < c.cs.length by omega), getD_at (show (c.cs[k.toNat]'(by omega)).toNat < c.ps.length by omega)]
    rw [e]
    (refine RetK.p ?_ <;> repeat' (first | exact trivial | refine And.intro ?_ ?_ | with_reducible rfl | (refine pIEq ?_; exact ar_) | (refine bufMap ?_) | (refine bufNil ?_) | (refine bufEq ?_) | rfl); all_goals try first | refine pBEq ?_ | refine pIEq ?_)
  · rename_i h9
    have h6 := h2 h9 h0
    have e : parF c k = c.ps[0]'(by omega) := by rw [parF, if_neg h9, if_neg h0, getD_at (show 0 < c.ps.length by omega)]
    rw [e]
    (refine RetK.p ?_ <;> repeat' (first | exact trivial | refine And.intro ?_ ?_ | with_reducible rfl | (refine pIEq ?_; exact ar_) | (refine bufMap ?_) | (refine bufNil ?_) | (refine bufEq ?_) | rfl); all_goals try first | refine pBEq ?_ | refine pIEq ?_)
open Go.Abs
structure Sup where
  par : Int
  ln : Bool
  lv : List Int
  drop : Int
  cap : Int
  alw : Bool
def Sup.pv (s : Sup) : PV := .agg [pI s.par, .list s.ln (s.lv.map pI), pI s.drop, pI s.cap, pB s.alw]
structure Dr where
  sup : Int
  lo : Int
  hi : Int
  load : Int
def Dr.pv (d : Dr) : PV := .agg [pI d.sup, pI d.lo, pI d.hi, pI d.load]
/-- A valid supply with an index. -/
def SupV (s : Sup) (i : Nat) : Prop := (-1 ≤ s.par ∧ s.par < i) ∧ 1 ≤ s.lv.length ∧ (0 ≤ s.drop ∧ s.drop ≤ 5000) ∧ (s.par < 0 → s.drop = 0) ∧ (0 ≤ s.cap ∧ s.cap ≤ 10000) ∧
  (∀ v ∈ s.lv, 1 ≤ v ∧ v ≤ 5000) ∧ ∀ (k : Nat) (h : k + 1 < s.lv.length), s.lv[k] < s.lv[k + 1]
def AllS (l : List Sup) : Prop := l.length ≤ 16 ∧ (∀ s ∈ l, s.lv.length ≤ 16) ∧ ∀ (i : Nat) (h : i < l.length), SupV l[i] i
def DrV (n : Nat) (x : Dr) : Prop := (0 ≤ x.sup ∧ x.sup < n) ∧ (0 ≤ x.hi ∧ x.hi ≤ 5000) ∧ (0 ≤ x.lo ∧ x.lo ≤ x.hi) ∧ 0 ≤ x.load ∧ x.load ≤ 10000
def AllD (n : Nat) (d : List Dr) : Prop := d.length ≤ 32 ∧ ∀ x ∈ d, DrV n x
/-- Which supplies are on, and the indices of their levels. -/
structure Rl where
  on : List Bool
  lev : List Int
def RlV (l : List Sup) (r : Rl) : Prop := r.on.length = l.length ∧ r.lev.length = l.length ∧ ∀ (i : Nat) (h : i < l.length) (h' : i < r.lev.length), 0 ≤ r.lev[i] ∧ r.lev[i] < (l[i]).lv.length
instance : Inhabited Sup := ⟨⟨0, false, [], 0, 0, false⟩⟩
def onA (r : Rl) (i : Nat) : Bool := r.on.getD i false
def lvA (r : Rl) (i : Nat) : Int := r.lev.getD i 0
def vt (l : List Sup) (i : Nat) (k : Int) : Int := (l.getD i default).lv.getD k.toNat 0
def parA (l : List Sup) (i : Nat) : Int := (l.getD i default).par
def dropA (l : List Sup) (i : Nat) : Int := (l.getD i default).drop
/-- A supply is used. -/
inductive Usd (l : List Sup) (d : List Dr) : Nat → Prop
  | draw (x : Dr) (h : x ∈ d) : Usd l d x.sup.toNat
  | alw (i : Nat) (h : i < l.length) (ha : l[i].alw = true) : Usd l d i
  | par (i : Nat) (h : i < l.length) (hu : Usd l d i) (hp : 0 ≤ l[i].par) : Usd l d l[i].par.toNat
theorem Usd.mono {l : List Sup} {d d' : List Dr} (h : ∀ x ∈ d, ∃ y ∈ d', y.sup = x.sup) {i : Nat} (hu : Usd l d i) : Usd l d' i := by
  induction hu with
  | draw x hx => obtain ⟨y, hy, e⟩ := h x hx; rw [← e]; exact .draw y hy
  | alw i h ha => exact .alw i h ha
  | par i h _ hp ih => exact .par i h ih hp
/-- The loads: those of draws, and then those of children, from the last supply on. -/
def addTo (xs : List Int) (i : Nat) (v : Int) : List Int := xs.set i (xs.getD i 0 + v)
def ld0 (n : Nat) (d : List Dr) : List Int := d.foldl (fun xs x => addTo xs x.sup.toNat x.load) (List.replicate n 0)
def ldS (l : List Sup) (xs : List Int) (k : Nat) : List Int := if 0 ≤ (l.getD k default).par then addTo xs (l.getD k default).par.toNat (xs.getD k 0) else xs
def loadsF (l : List Sup) (d : List Dr) : List Int := (List.finRange l.length).reverse.foldl (fun xs i => ldS l xs i.val) (ld0 l.length d)
/-- Rails meet draws. -/
structure Meet (l : List Sup) (r : Rl) (d : List Dr) : Prop where
  rv : RlV l r
  dv : AllD l.length d
  use : ∀ i, i < l.length → Usd l d i → onA r i = true
  par : ∀ i, i < l.length → onA r i = true → 0 ≤ parA l i → onA r (parA l i).toNat = true ∧ vt l i (lvA r i) + dropA l i ≤ vt l (parA l i).toNat (lvA r (parA l i).toNat)
  load : ∀ i, i < l.length → onA r i = true → (loadsF l d).getD i 0 ≤ (l.getD i default).cap
  draw : ∀ x ∈ d, x.lo ≤ vt l x.sup.toNat (lvA r x.sup.toNat) ∧ vt l x.sup.toNat (lvA r x.sup.toNat) ≤ x.hi
theorem len_addTo (xs : List Int) (i : Nat) (v : Int) : (addTo xs i v).length = xs.length := by simp [addTo]
theorem len_ld0 (n : Nat) (d : List Dr) : (ld0 n d).length = n := by
  suffices h : ∀ (d : List Dr) (xs : List Int), (d.foldl (fun xs x => addTo xs x.sup.toNat x.load) xs).length = xs.length by
    rw [ld0, h]; simp
  intro d
  induction d with
  | nil => intro xs; rfl
  | cons x d ih => intro xs; rw [List.foldl_cons, ih, len_addTo]
/-- Pointwise less. -/
def PLe (xs ys : List Int) : Prop := xs.length = ys.length ∧ ∀ i, xs.getD i 0 ≤ ys.getD i 0
theorem PLe.refl (xs : List Int) : PLe xs xs := ⟨rfl, fun _ => Int.le_refl _⟩
theorem getD_set (xs : List Int) (i j : Nat) (v : Int) : (xs.set i v).getD j 0 = if i = j ∧ j < xs.length then v else xs.getD j 0 := by
  simp only [List.getD_eq_getElem?_getD, List.getElem?_set]
  by_cases h : i = j
  · subst h
    by_cases hl : i < xs.length <;> simp [hl]
  · simp [h]
theorem getD_addTo (xs : List Int) (i j : Nat) (v : Int) : (addTo xs i v).getD j 0 = if i = j ∧ j < xs.length then xs.getD i 0 + v else xs.getD j 0 := getD_set _ _ _ _
theorem PLe.addAt {xs ys : List Int} (h : PLe xs ys) {i : Nat} {v w : Int} (hv : v ≤ w) : PLe (addTo xs i v) (addTo ys i w) := by
  refine ⟨by rw [len_addTo, len_addTo, h.1], fun j => ?_⟩
  rw [getD_addTo, getD_addTo, h.1]
  have := h.2 i
  have := h.2 j
  split <;> omega
theorem PLe.add_right {xs ys : List Int} (h : PLe xs ys) {i : Nat} {w : Int} (hw : 0 ≤ w) : PLe xs (addTo ys i w) := by
  refine ⟨by rw [len_addTo, h.1], fun j => ?_⟩
  rw [getD_addTo]
  have := h.2 i
  have := h.2 j
  split
  · rename_i h; obtain ⟨rfl, _⟩ := h; omega
  · omega
theorem ldS_mono (l : List Sup) (k : Nat) {xs ys : List Int} (h : PLe xs ys) : PLe (ldS l xs k) (ldS l ys k) := by
  unfold ldS
  split
  · exact h.addAt (h.2 k)
  · exact h
theorem ldF_mono {n : Nat} (l : List Sup) : ∀ (is : List (Fin n)) {xs ys : List Int}, PLe xs ys → PLe (is.foldl (fun xs i => ldS l xs i.val) xs) (is.foldl (fun xs i => ldS l xs i.val) ys)
  | [], _, _, h => h
  | i :: is, _, _, h => ldF_mono l is (ldS_mono l i.val h)
theorem ld0_app (n : Nat) (d e : List Dr) (he : ∀ x ∈ e, 0 ≤ x.load) : PLe (ld0 n d) (ld0 n (d ++ e)) := by
  unfold ld0
  rw [List.foldl_append]
  generalize d.foldl _ _ = xs
  suffices h : ∀ (e : List Dr) (ys : List Int), (∀ x ∈ e, 0 ≤ x.load) → PLe xs ys → PLe xs (e.foldl (fun xs x => addTo xs x.sup.toNat x.load) ys) from h e xs he (.refl _)
  intro e
  induction e with
  | nil => exact fun ys _ h => h
  | cons x e ih => exact fun ys he h => ih _ (fun y hy => he y (List.mem_cons_of_mem _ hy)) (h.add_right (he x (List.mem_cons_self ..)))
theorem loads_app (l : List Sup) (d e : List Dr) (he : ∀ x ∈ e, 0 ≤ x.load) : PLe (loadsF l d) (loadsF l (d ++ e)) := ldF_mono l _ (ld0_app _ d e he)
/-- Rails that meet draws meet fewer ones. -/
theorem Meet.less {l : List Sup} {r : Rl} {d e : List Dr} (h : Meet l r (d ++ e)) : Meet l r d := by
  refine ⟨h.rv, ⟨by have := h.dv.1; simp at this; omega, fun x hx => h.dv.2 x (List.mem_append_left _ hx)⟩, fun i hi hu => h.use i hi (hu.mono fun x hx => ⟨x, List.mem_append_left _ hx, rfl⟩), h.par,
    fun i hi ho => Int.le_trans ((loads_app l d e fun x hx => (h.dv.2 x (List.mem_append_right _ hx)).2.2.2.1).2 i) (h.load i hi ho), fun x hx => h.draw x (List.mem_append_left _ hx)⟩
/-- Levels rise. -/
theorem SupV.lt {s : Sup} {i : Nat} (h : SupV s i) {j k : Nat} (hjk : j < k) (hk : k < s.lv.length) : s.lv[j] < s.lv[k] := by
  induction k with
  | zero => omega
  | succ k ih =>
    have h1 := h.2.2.2.2.2.2 k hk
    rcases Nat.lt_or_ge j k with h2 | h2
    · exact Int.lt_trans (ih h2 (by omega)) h1
    · obtain rfl : j = k := by omega
      exact h1
theorem vt_mono {l : List Sup} (hl : AllS l) {i : Nat} (hi : i < l.length) {j k : Int} (hj : 0 ≤ j) (hjk : j ≤ k) (hk : k < (l[i]).lv.length) : vt l i j ≤ vt l i k := by
  unfold vt
  rw [getD_at hi, getD_at (show k.toNat < _ by omega), getD_at (show j.toNat < _ by omega)]
  rcases Int.lt_or_eq_of_le hjk with h | rfl
  · exact Int.le_of_lt ((hl.2.2 i hi).lt (by omega) (by omega))
  · exact Int.le_refl _
/-- Rails that lie between others: what is on in the lower ones is on, and what is on was so in the upper ones. -/
def joinR (a b : Rl) : Rl := ⟨(List.range b.on.length).map fun i => onA a i || onA b i, (List.range b.lev.length).map fun i => if onA a i then (if onA b i then max (lvA a i) (lvA b i) else lvA a i) else lvA b i⟩
theorem on_join {a b : Rl} {i : Nat} (h : i < b.on.length) : onA (joinR a b) i = (onA a i || onA b i) := by
  unfold onA joinR
  rw [getD_at (by simpa using h)]
  simp [onA]
theorem lv_join {a b : Rl} {i : Nat} (h : i < b.lev.length) : lvA (joinR a b) i = if onA a i then (if onA b i then max (lvA a i) (lvA b i) else lvA a i) else lvA b i := by
  rw [lvA, joinR]
  simp only
  rw [getD_at (by simpa using h)]
  simp
theorem RlV.at_ {l : List Sup} {r : Rl} (h : RlV l r) {i : Nat} (hi : i < l.length) : 0 ≤ lvA r i ∧ lvA r i < (l[i]).lv.length := by
  have h1 : i < r.lev.length := by rw [h.2.1]; exact hi
  have := h.2.2 i hi h1
  unfold lvA
  rw [getD_at h1]
  exact this
theorem RlV.of {l : List Sup} {r : Rl} (h1 : r.on.length = l.length) (h2 : r.lev.length = l.length) (h : ∀ i (hi : i < l.length), 0 ≤ lvA r i ∧ lvA r i < (l[i]).lv.length) : RlV l r := by
  refine ⟨h1, h2, fun i hi h' => ?_⟩
  have := h i hi
  unfold lvA at this
  rwa [getD_at h'] at this
theorem rv_join {l : List Sup} {a b : Rl} (ha : RlV l a) (hb : RlV l b) : RlV l (joinR a b) := by
  refine .of (by simp [joinR, hb.1]) (by simp [joinR, hb.2.1]) fun i hi => ?_
  rw [lv_join (by rw [hb.2.1]; exact hi)]
  have h1 := ha.at_ hi
  have h2 := hb.at_ hi
  split
  · split <;> omega
  · exact h2
theorem par_lt {l : List Sup} (hl : AllS l) {i : Nat} (hi : i < l.length) (hp : 0 ≤ parA l i) : (parA l i).toNat < i := by
  have := (hl.2.2 i hi).1
  unfold parA at hp ⊢
  rw [getD_at hi] at hp ⊢
  omega
theorem usd_lt {l : List Sup} {d : List Dr} (hl : AllS l) (hd : AllD l.length d) {i : Nat} (h : Usd l d i) : i < l.length := by
  cases h with
  | draw x hx => have := (hd.2 x hx).1; omega
  | alw i h _ => exact h
  | par i h _ hp => have := (hl.2.2 i h).1; omega
/-- Each level is one of two rails, or what is asked for lies below: a mixture of rails that meet draws. -/
theorem Meet.mix {l : List Sup} (hl : AllS l) {a b r : Rl} {d : List Dr} (ha : Meet l a d) (hb : Meet l b d) (hv : RlV l r)
    (hon : ∀ i, i < l.length → onA a i = true → onA b i = true → onA r i = true)
    (hon2 : ∀ i, i < l.length → onA r i = true → onA a i = true ∨ onA b i = true)
    (hlo : ∀ i, i < l.length → onA a i = true → onA b i = true → (lvA a i ≤ lvA r i ∨ lvA b i ≤ lvA r i) ∧ (lvA r i ≤ lvA a i ∨ lvA r i ≤ lvA b i))
    (hpar : ∀ i, i < l.length → onA r i = true → 0 ≤ parA l i → onA r (parA l i).toNat = true ∧ vt l i (lvA r i) + dropA l i ≤ vt l (parA l i).toNat (lvA r (parA l i).toNat)) : Meet l r d := by
  refine ⟨hv, ha.dv, fun i hi hu => hon i hi (ha.use i hi hu) (hb.use i hi hu), hpar, fun i hi ho => ?_, fun x hx => ?_⟩
  · rcases hon2 i hi ho with h | h
    · exact ha.load i hi h
    · exact hb.load i hi h
  · have hu : Usd l d x.sup.toNat := .draw x hx
    have hi := usd_lt hl ha.dv hu
    have h1 := ha.draw x hx
    have h2 := hb.draw x hx
    have h3 := hlo _ hi (ha.use _ hi hu) (hb.use _ hi hu)
    have r1 := hv.at_ hi
    have r2 := ha.rv.at_ hi
    have r3 := hb.rv.at_ hi
    constructor
    · rcases h3.1 with h | h
      · exact Int.le_trans h1.1 (vt_mono hl hi r2.1 h r1.2)
      · exact Int.le_trans h2.1 (vt_mono hl hi r3.1 h r1.2)
    · rcases h3.2 with h | h
      · exact Int.le_trans (vt_mono hl hi r1.1 h r2.2) h1.2
      · exact Int.le_trans (vt_mono hl hi r1.1 h r3.2) h2.2
theorem par_top {l : List Sup} (hl : AllS l) {a b : Rl} {d : List Dr} (ha : Meet l a d) (hb : Meet l b d) {i : Nat} (hi : i < l.length) (ho : onA (joinR a b) i = true) (hp : 0 ≤ parA l i) :
    onA (joinR a b) (parA l i).toNat = true ∧ vt l i (lvA (joinR a b) i) + dropA l i ≤ vt l (parA l i).toNat (lvA (joinR a b) (parA l i).toNat) := by
  have hpl := par_lt hl hi hp
  have hpn : (parA l i).toNat < l.length := by omega
  rw [on_join (by rw [hb.rv.1]; exact hi)] at ho
  rw [on_join (by rw [hb.rv.1]; exact hpn), lv_join (by rw [hb.rv.2.1]; exact hi), lv_join (by rw [hb.rv.2.1]; exact hpn)]
  have a1 := ha.rv.at_ hpn
  have b1 := hb.rv.at_ hpn
  have pa := fun h => ha.par i hi h hp
  have pb := fun h => hb.par i hi h hp
  generalize (parA l i).toNat = p at *
  have mono : ∀ {j k : Int}, 0 ≤ j → j ≤ k → k < (l[p]'hpn).lv.length → vt l p j ≤ vt l p k := fun h1 h2 h3 => vt_mono hl hpn h1 h2 h3
  have h1 : lvA a p ≤ max (lvA a p) (lvA b p) := Int.le_max_left _ _
  have h2 : lvA b p ≤ max (lvA a p) (lvA b p) := Int.le_max_right _ _
  have h3 : max (lvA a p) (lvA b p) < (l[p]'hpn).lv.length := by omega
  by_cases hai : onA a i = true
  · have ⟨q1, q2⟩ := pa hai
    have m1 := mono a1.1 h1 h3
    rw [if_pos hai, q1]
    refine ⟨rfl, ?_⟩
    simp only [if_true]
    by_cases hbi : onA b i = true
    · have ⟨q3, q4⟩ := pb hbi
      have m2 := mono b1.1 h2 h3
      rw [if_pos hbi, if_pos q3]
      rcases Int.le_total (lvA a i) (lvA b i) with h | h
      · rw [Int.max_eq_right h]; omega
      · rw [Int.max_eq_left h]; omega
    · rw [if_neg hbi]
      split <;> omega
  · have hbi : onA b i = true := by
      cases h : onA b i
      · rw [h] at ho; simp at ho; exact absurd ho hai
      · rfl
    have ⟨q3, q4⟩ := pb hbi
    have m2 := mono b1.1 h2 h3
    rw [if_neg hai, q3]
    refine ⟨by simp, ?_⟩
    split
    · simp only [if_true]; omega
    · omega
theorem Meet.join {l : List Sup} (hl : AllS l) {a b : Rl} {d : List Dr} (ha : Meet l a d) (hb : Meet l b d) : Meet l (joinR a b) d := by
  refine Meet.mix hl ha hb (rv_join ha.rv hb.rv) (fun i hi h1 h2 => ?_) (fun i hi h => ?_) (fun i hi h1 h2 => ?_) fun i hi ho hp => par_top hl ha hb hi ho hp
  · rw [on_join (by rw [hb.rv.1]; exact hi), h1, h2]; rfl
  · rw [on_join (by rw [hb.rv.1]; exact hi)] at h
    simpa using h
  · rw [lv_join (by rw [hb.rv.2.1]; exact hi), if_pos h1, if_pos h2]
    omega
/-- On the way from a to b: what is on in both is on, at a level of at least one of the two. -/
structure Between (l : List Sup) (a b r : Rl) : Prop where
  rv : RlV l r
  on : ∀ i, i < l.length → onA a i = true → onA b i = true → onA r i = true
  lo : ∀ i, i < l.length → onA a i = true → onA b i = true → lvA a i ≤ lvA r i ∨ lvA b i ≤ lvA r i
/-- The states on the way up: below c as the join, from c on as before; c itself may have its level already. -/
theorem up_meet {l : List Sup} (hl : AllS l) {a b r : Rl} {d : List Dr} (ha : Meet l a d) (hb : Meet l b d) (hv : RlV l r) (c : Nat)
    (h1 : ∀ i, i < l.length → i < c → onA (joinR a b) i = true → onA r i = true ∧ lvA r i = lvA (joinR a b) i)
    (h2 : ∀ i, i < l.length → i < c → onA (joinR a b) i = false → onA r i = false)
    (h3 : ∀ i, i < l.length → c ≤ i → onA r i = onA a i)
    (h4 : ∀ i, i < l.length → c < i → lvA r i = lvA a i)
    (h5 : c < l.length → lvA r c = lvA a c ∨ (onA (joinR a b) c = true ∧ lvA r c = lvA (joinR a b) c)) : Meet l r d ∧ Between l a b r := by
  have jon : ∀ i, i < l.length → onA (joinR a b) i = (onA a i || onA b i) := fun i hi => on_join (by rw [hb.rv.1]; exact hi)
  have jlv : ∀ i, i < l.length → lvA (joinR a b) i = if onA a i then (if onA b i then max (lvA a i) (lvA b i) else lvA a i) else lvA b i := fun i hi => lv_join (by rw [hb.rv.2.1]; exact hi)
  -- the level of what is on: as before, or as in the join
  have key : ∀ i, i < l.length → onA r i = true → onA (joinR a b) i = true ∧ (lvA r i = lvA (joinR a b) i ∨ (onA a i = true ∧ lvA r i = lvA a i)) := by
    intro i hi ho
    rcases Nat.lt_or_ge i c with h | h
    · cases hj : onA (joinR a b) i
      · rw [h2 i hi h hj] at ho; cases ho
      · exact ⟨rfl, .inl (h1 i hi h hj).2⟩
    · have hai : onA a i = true := by rw [← h3 i hi h]; exact ho
      refine ⟨by rw [jon i hi, hai]; rfl, ?_⟩
      rcases Nat.lt_or_eq_of_le h with h | h
      · exact .inr ⟨hai, h4 i hi h⟩
      · subst h
        rcases h5 hi with h | h
        · exact .inr ⟨hai, h⟩
        · exact .inl h.2
  have lo : ∀ i, i < l.length → onA a i = true → onA b i = true → onA r i = true := fun i hi ha' hb' => by
    rcases Nat.lt_or_ge i c with h | h
    · exact (h1 i hi h (by rw [jon i hi, ha']; rfl)).1
    · rw [h3 i hi h]; exact ha'
  have lo2 : ∀ i, i < l.length → onA a i = true → onA b i = true → (lvA a i ≤ lvA r i ∨ lvA b i ≤ lvA r i) ∧ (lvA r i ≤ lvA a i ∨ lvA r i ≤ lvA b i) := fun i hi ha' hb' => by
    rcases (key i hi (lo i hi ha' hb')).2 with h | ⟨_, h⟩
    · rw [h, jlv i hi, if_pos ha', if_pos hb']; omega
    · omega
  refine ⟨Meet.mix hl ha hb hv lo (fun i hi ho => ?_) lo2 fun i hi ho hp => ?_, hv, lo, fun i hi ha' hb' => (lo2 i hi ha' hb').1⟩
  · have := (key i hi ho).1
    rw [jon i hi] at this
    simpa using this
  · have hpl := par_lt hl hi hp
    have hpn : (parA l i).toNat < l.length := by omega
    obtain ⟨k1, k2⟩ := key i hi ho
    obtain ⟨t1, t2⟩ := par_top hl ha hb hi k1 hp
    rcases Nat.lt_or_ge (parA l i).toNat c with h | h
    · obtain ⟨q1, q2⟩ := h1 _ hpn h t1
      refine ⟨q1, ?_⟩
      rw [q2]
      rcases k2 with k2 | ⟨k2, k3⟩
      · rw [k2]; exact t2
      · have := (ha.par i hi k2 hp)
        have a1 := ha.rv.at_ hpn
        have b1 := hb.rv.at_ hpn
        have := vt_mono hl hpn (j := lvA a (parA l i).toNat) (k := lvA (joinR a b) (parA l i).toNat) a1.1 (by rw [jlv _ hpn, if_pos this.1]; split <;> omega) (by rw [jlv _ hpn, if_pos this.1]; split <;> omega)
        rw [k3]; omega
    · -- the parent is not yet passed: so the supply is as before
      have hic : c < i := by omega
      have hai : onA a i = true := by rw [← h3 i hi (by omega)]; exact ho
      have hap := ha.par i hi hai hp
      refine ⟨by rw [h3 _ hpn h]; exact hap.1, ?_⟩
      rw [h4 i hi hic]
      rcases Nat.lt_or_eq_of_le h with h | h
      · rw [h4 _ hpn h]; exact hap.2
      · rcases h5 (by omega) with h' | ⟨_, h'⟩
        · rw [← h, h', h]; exact hap.2
        · rw [← h, h', h]
          have a1 := ha.rv.at_ hpn
          have b1 := hb.rv.at_ hpn
          have := vt_mono hl hpn (j := lvA a (parA l i).toNat) (k := lvA (joinR a b) (parA l i).toNat) a1.1 (by rw [jlv _ hpn, if_pos hap.1]; split <;> omega) (by rw [jlv _ hpn, if_pos hap.1]; split <;> omega)
          omega
/-- The states on the way down: from c on as at the end, below it as the join; c itself may be off, or at its level. -/
theorem down_meet {l : List Sup} (hl : AllS l) {a b r : Rl} {d : List Dr} (ha : Meet l a d) (hb : Meet l b d) (hv : RlV l r) (c : Nat)
    (h1 : ∀ i, i < l.length → c ≤ i → onA r i = onA b i ∧ lvA r i = lvA b i)
    (h2 : ∀ i, i < l.length → i + 1 < c → onA r i = onA (joinR a b) i ∧ (onA r i = true → lvA r i = lvA (joinR a b) i))
    (h3 : ∀ i, i < l.length → i + 1 = c → (onA r i = onA (joinR a b) i ∧ (onA r i = true → lvA r i = lvA (joinR a b) i)) ∨ (onA r i = onA b i ∧ (onA b i = true → lvA r i = lvA b i ∨ lvA r i = lvA (joinR a b) i))) : Meet l r d ∧ Between l a b r := by
  have jon : ∀ i, i < l.length → onA (joinR a b) i = (onA a i || onA b i) := fun i hi => on_join (by rw [hb.rv.1]; exact hi)
  have jlv : ∀ i, i < l.length → lvA (joinR a b) i = if onA a i then (if onA b i then max (lvA a i) (lvA b i) else lvA a i) else lvA b i := fun i hi => lv_join (by rw [hb.rv.2.1]; exact hi)
  -- each supply is as in the join, or as at the end
  have key : ∀ i, i < l.length → (onA r i = onA (joinR a b) i ∧ (onA r i = true → lvA r i = lvA (joinR a b) i)) ∨ (c ≤ i + 1 ∧ onA r i = onA b i ∧ (onA b i = true → lvA r i = lvA b i)) := by
    intro i hi
    rcases Nat.lt_or_ge i c with h | h
    · rcases Nat.lt_or_ge (i + 1) c with h' | h'
      · exact .inl (h2 i hi h')
      · rcases h3 i hi (by omega) with h | ⟨k1, k2⟩
        · exact .inl h
        · cases hb' : onA b i
          · exact .inr ⟨h', k1.trans hb', fun h => by cases h⟩
          · rcases k2 hb' with k2 | k2
            · exact .inr ⟨h', k1.trans hb', fun _ => k2⟩
            · exact .inl ⟨by rw [k1, jon i hi, hb']; simp, fun _ => k2⟩
    · exact .inr ⟨by omega, (h1 i hi h).1, fun _ => (h1 i hi h).2⟩
  have lo : ∀ i, i < l.length → onA a i = true → onA b i = true → onA r i = true := fun i hi ha' hb' => by
    rcases key i hi with h | h
    · rw [h.1, jon i hi, ha']; rfl
    · rw [h.2.1]; exact hb'
  have lo2 : ∀ i, i < l.length → onA a i = true → onA b i = true → (lvA a i ≤ lvA r i ∨ lvA b i ≤ lvA r i) ∧ (lvA r i ≤ lvA a i ∨ lvA r i ≤ lvA b i) := fun i hi ha' hb' => by
    rcases key i hi with h | h
    · rw [h.2 (lo i hi ha' hb'), jlv i hi, if_pos ha', if_pos hb']; omega
    · rw [h.2.2 hb']; omega
  refine ⟨Meet.mix hl ha hb hv lo (fun i hi ho => ?_) lo2 fun i hi ho hp => ?_, hv, lo, fun i hi ha' hb' => (lo2 i hi ha' hb').1⟩
  · rcases key i hi with h | h
    · rw [h.1, jon i hi] at ho
      simpa using ho
    · rw [h.2.1] at ho; exact .inr ho
  · have hpl := par_lt hl hi hp
    have hpn : (parA l i).toNat < l.length := by omega
    have a1 := ha.rv.at_ hpn
    have b1 := hb.rv.at_ hpn
    rcases key i hi with h | ⟨hc, h, h'⟩
    · -- as in the join: so is the parent, if that is not passed
      have ho' := ho
      rw [h.1] at ho'
      obtain ⟨t1, t2⟩ := par_top hl ha hb hi ho' hp
      rcases Nat.lt_or_ge i c with hic | hic
      · have := h2 _ hpn (by omega)
        rw [h.2 ho, this.2 (by rw [this.1]; exact t1), this.1]
        exact ⟨t1, t2⟩
      · -- passed: then as at the end as well
        have hh := h1 i hi hic
        have hbi : onA b i = true := by rw [← hh.1]; exact ho
        obtain ⟨p1, p2⟩ := hb.par i hi hbi hp
        have e1 := hh.2
        rcases key _ hpn with g | ⟨_, g, g'⟩
        · refine ⟨by rw [g.1, jon _ hpn, p1]; simp, ?_⟩
          rw [g.2 (by rw [g.1, jon _ hpn, p1]; simp), e1]
          have := vt_mono hl hpn (j := lvA b (parA l i).toNat) (k := lvA (joinR a b) (parA l i).toNat) b1.1 (by rw [jlv _ hpn, if_pos p1]; split <;> omega) (by rw [jlv _ hpn, if_pos p1]; split <;> (try split) <;> omega)
          omega
        · refine ⟨by rw [g]; exact p1, ?_⟩
          rw [g' p1, e1]; exact p2
    · have hbi : onA b i = true := by rw [← h]; exact ho
      obtain ⟨p1, p2⟩ := hb.par i hi hbi hp
      have e1 := h' hbi
      rcases key _ hpn with g | ⟨_, g, g'⟩
      · refine ⟨by rw [g.1, jon _ hpn, p1]; simp, ?_⟩
        rw [g.2 (by rw [g.1, jon _ hpn, p1]; simp), e1]
        have := vt_mono hl hpn (j := lvA b (parA l i).toNat) (k := lvA (joinR a b) (parA l i).toNat) b1.1 (by rw [jlv _ hpn, if_pos p1]; split <;> omega) (by rw [jlv _ hpn, if_pos p1]; split <;> (try split) <;> omega)
        omega
      · refine ⟨by rw [g]; exact p1, ?_⟩
        rw [g' p1, e1]; exact p2
open Go.Abs
theorem gSuppv {P : Prop} (h : P := by
  (first | ((first | apply AppA.snoc (f := Sup.pv) (a := _) rfl | apply AppA.one (f := Sup.pv) (a := _) rfl | (apply AppA.snoc (f := Sup.pv) (a := ⟨_, _, _, _, _, _⟩); dsimp only [Sup.pv]; exact rfl) | (apply AppA.one (f := Sup.pv) (a := ⟨_, _, _, _, _, _⟩); dsimp only [Sup.pv]; exact rfl)); exact ar_) | apply IsL.set (f := Sup.pv) (a := _) rfl | apply IsL.rep (f := Sup.pv) (a := _) rfl | (apply IsL.set (f := Sup.pv) (a := ⟨_, _, _, _, _, _⟩); dsimp only [Sup.pv]; exact rfl) | (apply IsL.rep (f := Sup.pv) (a := ⟨_, _, _, _, _, _⟩); dsimp only [Sup.pv]; exact rfl) | apply IsL.lit (f := Sup.pv) [] rfl | apply IsL.lit (f := Sup.pv) [_] rfl | apply IsL.lit (f := Sup.pv) [_, _] rfl | apply IsL.lit (f := Sup.pv) [_, _, _] rfl | apply IsL.lit (f := Sup.pv) [] rfl | apply IsL.lit (f := Sup.pv) [⟨_, _, _, _, _, _⟩] rfl | apply IsL.lit (f := Sup.pv) [⟨_, _, _, _, _, _⟩, ⟨_, _, _, _, _, _⟩] rfl | apply IsL.lit (f := Sup.pv) [⟨_, _, _, _, _, _⟩, ⟨_, _, _, _, _, _⟩, ⟨_, _, _, _, _, _⟩] rfl) <;> (solve_by_elim (newGoals := .nonDependentOnly) (symm := false) (exfalso := false) (transparency := .reducible) only [rfl, park_])) : P := h
set_option maxRecDepth 100000
theorem put_size (a : Act) (d : Nat) (v : Value) : (a.put (some d) v).tmps.size = a.tmps.size := by simp [Act.put]
theorem its_val {P : Program} {nt : Nat} {S : Nat → Prop} {fr : List (Nat × AV)} {a : Act} {w : World} {t : Nat} {x : Value} (h : ItS P nt S fr a w) (e : frOf fr t = .p (.v x)) : a.tmps.getD t undef = x := by
  have := h.fr t
  rw [e] at this
  exact this.pv.1
theorem load_op {P : Program} {o : Oper} {t : TypeId} {x : Operand} {a : Act} {w : World} {v u : Value} (ho : o.op = .load t x) (hx : a.eval x = u) (h : (Instr.loadAt t u).run P w = .ok v w) : (execOp a.eval o).run P w = .ok (.value v) w := by
  simp only [execOp, ho, hx]
  rw [Sem.run_bind, h]
  rfl
theorem move_op {P : Program} {o : Oper} {x : Operand} {a : Act} {w : World} {v : Value} (ho : o.op = .move x) (hx : a.eval x = v) : (execOp a.eval o).run P w = .ok (.value v) w := by
  simp only [execOp, ho, hx]
  rfl
theorem index_op {P : Program} {o : Oper} {t : TypeId} {x y : Operand} {a : Act} {w : World} {v u z : Value} (ho : o.op = .indexAddr t x y) (hx : a.eval x = u) (hy : a.eval y = z) (h : (Instr.indexAt t u z).run P w = .ok v w) : (execOp a.eval o).run P w = .ok (.value v) w := by
  simp only [execOp, ho, hx, hy]
  rw [Sem.run_bind, h]
  rfl
theorem not_op {P : Program} {o : Oper} {t : TypeId} {x : Operand} {a : Act} {w : World} {b : Bool} (ho : o.op = .unOp .not t x) (hx : a.eval x = .bool b) : (execOp a.eval o).run P w = .ok (.value (.bool (!b))) w := by
  simp only [execOp, ho, hx]
  rfl
def bkF (l : Nat) (ad : Addr) (v : Int) : List (Nat × AV) := [(0, .clo (.yield l) []), (1, .p (.v (.pointer (some ad)))), (3, .p (pI v))]
def bkMu (a : Act) (_ : World) : Nat := match a.tmps.getD 3 undef with
  | .int _ v => (v + 1).toNat
  | _ => 0
theorem bkMu_eq {S : Nat → Prop} {l : Nat} {ad : Addr} {v : Int} {a : Act} {W : World} {nt : Nat} (h : ItS Tryz.prog nt S (bkF l ad v) a W) : bkMu a W = (v + 1).toNat := by
  unfold bkMu
  rw [h.int (t := 3) rfl]
theorem fin_drop {n k : Nat} (h : k < n) : ((List.finRange n).drop (k + 1)).reverse ++ [⟨k, h⟩] = ((List.finRange n).drop k).reverse := by
  have e : (List.finRange n).drop k = ⟨k, h⟩ :: (List.finRange n).drop (k + 1) := by
    rw [List.drop_eq_getElem_cons (by simpa using h)]
    simp
  rw [e, List.reverse_cons]
set_option maxHeartbeats 4000000 in
theorem back_seq (nl : Bool) (ls : List Sup) :
    SeqA Tryz.prog 138 (.list nl (ls.map Sup.pv)) (α := Fin ls.length) (fun i => [pI (i.val : Int), (ls[i.val]'i.isLt).pv]) ls.length (List.finRange ls.length).reverse := by
  refine ⟨callFunc_run Tryz.func138 rfl rfl, fun n S w ad u hlt hG hS hcell hr => ?_⟩
  obtain ⟨hlen0, hone⟩ := hr.listLen
  rw [List.length_map] at hlen0
  have hlen : (ls.length : Int) ≤ 9223372036854775807 := len_le hlen0
  obtain ⟨_, vs, rfl, hvs, hld⟩ := wpLoadF_sound (ti := ti) tabOK (t := 27) (H := []) (m := fun _ => undef) (k := fun v => v = .p (.list nl (ls.map Sup.pv))) (by conv => whnf) (Rd.rptr1 (P := Tryz.prog) hS hcell hr hone)
  have hrs : RdP S w (.list nl (ls.map Sup.pv)) vs := by cases hvs with | p _ _ h => exact h
  obtain ⟨_, hone2⟩ := hrs.listLen
  have hix : ∀ i : Fin ls.length, ∃ pv : Addr × Value, (∀ W, (Instr.indexAt 27 vs (.int .i64 (i.val : Int))).run Tryz.prog W = .ok (.pointer (some pv.1)) W) ∧ RdP S w (ls[i.val]'i.isLt).pv pv.2 ∧
      ∀ W, Keeps S w W → (Instr.loadAt 34 (.pointer (some pv.1))).run Tryz.prog W = .ok pv.2 W := by
    intro i
    obtain ⟨p, hp, hpr⟩ := rptr_of_list (P := Tryz.prog) (H := []) (m := fun _ => undef) (t := 27) (e := 34) (kd := .i64) (i := (i.val : Int)) (z := (ls[i.val]'i.isLt).pv) (by kernel_rfl) (tabOK.ok _ _ rfl) hrs (by omega) (by simp) rfl
    have hw : wpLoad ti [] 34 (.rptr (ls[i.val]'i.isLt).pv.cells) (fun v => v = .p (ls[i.val]'i.isLt).pv) := by
      conv => whnf
      rfl
    obtain ⟨_, v, rfl, hv, hvl⟩ := wpLoadF_sound (ti := ti) tabOK hw hp
    cases hp with
    | rptr _ a us h1 h2 h3 => exact ⟨(a, v), hpr, by cases hv with | p _ _ h => exact h, hvl⟩
  obtain ⟨ps, hps⟩ := Classical.axiomOfChoice hix
  refine ⟨fun i => #[.int .i64 (i.val : Int), (ps i).2], fun i => ⟨rfl, fun j c hj => ?_⟩, fun l J Jx W hW hJ hJx hY h0 => ?_⟩
  · match j, hj with
    | 0, hj => cases hj; exact .v _ rfl
    | 1, hj => cases hj; exact (hps i).2.1
  · show CallsIn _ _ _ _ #[.func (.yield l) #[] #[], .pointer (some ad)] _ _
    refine callsIn_of_wp Tryz.func138 rfl trivial ?_ rfl
    have hKW : ∀ c, S c → W.heap[c]? = w.heap[c]? := fun c hc => hW.block c (hlt c hc)
    have i0 := ItS.enter2 (P := Tryz.prog) (S := S) (w := W) (x := .clo (.yield l) []) (y := .p (.v (.pointer (some ad)))) (vx := .func (.yield l) #[] #[]) (vy := .pointer (some ad)) (k := Tryz.f138.ntmps - 2) (nt := 19)
      (fun b hb => Nat.lt_of_lt_of_le (hlt b hb) hW.size) (hG.mono hKW fun _ h => h) (.clo _ _ _ rfl (by simp)) (.p _ _ (.v _ rfl)) rfl
    change Code.wpIn _ _ _ _ _ { tmps := #[.func (.yield l) #[] #[], .pointer (some ad)] ++ Array.replicate (Tryz.f138.ntmps - 2) undef, defers := [] } W
    generalize ({ tmps := #[.func (.yield l) #[] #[], .pointer (some ad)] ++ Array.replicate (Tryz.f138.ntmps - 2) undef, defers := [] } : Act) = a0 at i0 ⊢
    refine wpIn_seq (wpIn_region_lit (bareOp rfl (load_op (v := vs) rfl (its_val i0 (t := 1) rfl) (hld W hKW)) ?_))
    have i1 := i0.put (d := 4) (x := .p (.list nl (ls.map Sup.pv))) (v := vs) (by decide) (.p _ _ (hrs.mono hKW fun _ h => h))
    generalize a0.put (some 4) vs = a1 at i1 ⊢
    refine i1.list tabOK 3 (fr' := bkF l ad ((ls.length : Int) - 1)) ?_ fun a1 i1 => wpListIn_nil ?_
    · (conv => whnf); repeat' ((first | apply CondA.plain | refine' gC | refine' gpI | refine' gpB | refine' gSuppv | refine' gE | (apply DrawA.quiet (by kernel_rfl) (by kernel_rfl); (conv => whnf); fail_if_success (show False))) <;> (conv => whnf))
      (repeat' (first | exact trivial | refine And.intro ?_ ?_ | with_reducible rfl | (refine pIEq ?_; exact ar_) | (refine bufMap ?_) | (refine bufNil ?_) | (refine bufEq ?_) | rfl))
    refine wpIn_block (wpIn_loop (fun a W' => ∃ k : Nat, k ≤ ls.length ∧ ItS Tryz.prog 19 S (bkF l ad ((k : Int) - 1)) a W' ∧ J ((List.finRange ls.length).drop k).reverse W' ∧ ∀ c, S c → W'.heap[c]? = w.heap[c]?) bkMu
      ⟨ls.length, Nat.le_refl _, i1, by rw [List.drop_eq_nil_of_le (by simp)]; exact h0, hKW⟩ ?_)
    rintro a2 W2 ⟨k, hk, i2, hJ2, hK2⟩
    rw [bkMu_eq i2]
    refine wpIn_seq (wpIn_seq (i2.region tabOK (fr' := (8, .p (pB (decide ((k : Int) - 1 ≥ 0)))) :: bkF l ad ((k : Int) - 1)) ?_ fun a3 i3 => ?_))
    · (conv => whnf); repeat' ((first | apply CondA.plain | refine' gC | refine' gpI | refine' gpB | refine' gSuppv | refine' gE | (apply DrawA.quiet (by kernel_rfl) (by kernel_rfl); (conv => whnf); fail_if_success (show False))) <;> (conv => whnf))
      (repeat' (first | exact trivial | refine And.intro ?_ ?_ | with_reducible rfl | (refine pIEq ?_; exact ar_) | (refine bufMap ?_) | (refine bufNil ?_) | (refine bufEq ?_) | rfl))
    rcases Nat.eq_zero_or_pos k with hz | hp
    · subst hz
      refine wpIn_cond (t := false) ?_ (wpIn_exit ?_)
      · exact i3.bool (t := 8) rfl
      · exact ⟨i3.nd, _, results_none rfl _ _ _, ⟨_, rfl⟩, .inl ⟨_, rfl, hJ2⟩⟩
    · obtain ⟨k, rfl⟩ : ∃ j, k = j + 1 := ⟨k - 1, by omega⟩
      have ek : ((k + 1 : Nat) : Int) - 1 = (k : Int) := by omega
      rw [ek] at i3 i2
      have hkl : k < ls.length := by omega
      have ed : decide ((k : Int) ≥ 0) = true := decide_eq_true (by omega)
      rw [ed] at i3
      obtain ⟨q1, q2, q3⟩ := hps ⟨k, hkl⟩
      refine wpIn_cond (t := true) (i3.bool (t := 8) rfl) (wpIn_skip ?_)
      refine wpIn_seq (wpIn_block (wpIn_seq (wpIn_region_lit (i3.list tabOK 2 (fr' := (11, .clo (.yield l) []) :: (12, .p (pI k)) :: bkF l ad k) ?_ fun a4 i4 => ?_))))
      · (conv => whnf); repeat' ((first | apply CondA.plain | refine' gC | refine' gpI | refine' gpB | refine' gSuppv | refine' gE | (apply DrawA.quiet (by kernel_rfl) (by kernel_rfl); (conv => whnf); fail_if_success (show False))) <;> (conv => whnf))
        (repeat' (first | exact trivial | refine And.intro ?_ ?_ | with_reducible rfl | (refine pIEq ?_; exact ar_) | (refine bufMap ?_) | (refine bufNil ?_) | (refine bufEq ?_) | rfl))
      refine bareOp rfl (load_op (v := vs) rfl (its_val i4 (t := 1) rfl) (hld W2 hK2)) ?_
      have i5 := i4.put (d := 13) (x := .p (.v vs)) (v := vs) (by decide) (.p _ _ (.v _ hone2))
      generalize a4.put (some 13) vs = a5 at i5 ⊢
      refine bareOp rfl (move_op (v := .int .i64 k) rfl (its_val i5 (t := 3) rfl)) ?_
      have i6 := i5.put (d := 14) (x := .p (pI k)) (v := .int .i64 k) (by decide) (.p _ _ (.v _ rfl))
      generalize a5.put (some 14) (.int .i64 k) = a6 at i6 ⊢
      refine bareOp rfl (index_op (v := .pointer (some (ps ⟨k, hkl⟩).1)) rfl (its_val i6 (t := 13) rfl) (its_val i6 (t := 14) rfl) (q1 W2)) ?_
      have i7 := i6.put (d := 15) (x := .p (.v (.pointer (some (ps ⟨k, hkl⟩).1)))) (v := .pointer (some (ps ⟨k, hkl⟩).1)) (by decide) (.p _ _ (.v _ rfl))
      generalize a6.put (some 15) (.pointer (some (ps ⟨k, hkl⟩).1)) = a7 at i7 ⊢
      refine bareOp rfl (load_op (v := (ps ⟨k, hkl⟩).2) rfl (its_val i7 (t := 15) rfl) (q3 W2 hK2)) ?_
      have i8 := i7.put (d := 16) (x := .p (ls[k]'hkl).pv) (v := (ps ⟨k, hkl⟩).2) (by decide) (.p _ _ (q2.mono hK2 fun _ h => h))
      have hv16 := putT (v := (ps ⟨k, hkl⟩).2) (d := 16) (a := a7) (by rw [i7.sz]; decide)
      generalize a7.put (some 16) (ps ⟨k, hkl⟩).2 = a8 at i8 hv16 ⊢
      have hy := hY _ ⟨k, hkl⟩ W2 hJ2 (by simp; omega)
      have e1 : (#[Operand.tmp 12, Operand.tmp 16].map a8.eval : Array Value) = #[.int .i64 (k : Int), (ps ⟨k, hkl⟩).2] := by
        simp only [List.map_toArray, List.map_cons, List.map_nil, Act.eval, i8.int (t := 12) (kd := .i64) (v := k) rfl, hv16]
      refine yieldY rfl rfl (i8.yield (t := 11) rfl) (by rw [e1]; exact hy) ?_
      rintro e W3 (⟨rfl, hJ3, hK3⟩ | ⟨rfl, hJ3⟩)
      · refine ⟨_, rfl, ?_⟩
        have i9 := (i8.world hK3).put (d := 17) (x := .p (pB true)) (v := .bool true) (by decide) (.p _ _ (.v _ rfl))
        refine i9.list tabOK 1 (fr' := (18, .p (pB false)) :: bkF l ad k) ?_ fun a6 i6 => wpListIn_nil ?_
        · (conv => whnf); repeat' ((first | apply CondA.plain | refine' gC | refine' gpI | refine' gpB | refine' gSuppv | refine' gE | (apply DrawA.quiet (by kernel_rfl) (by kernel_rfl); (conv => whnf); fail_if_success (show False))) <;> (conv => whnf))
          (repeat' (first | exact trivial | refine And.intro ?_ ?_ | with_reducible rfl | (refine pIEq ?_; exact ar_) | (refine bufMap ?_) | (refine bufNil ?_) | (refine bufEq ?_) | rfl))
        refine wpIn_cond (t := false) (i6.bool (t := 18) rfl) (wpIn_skip ?_)
        refine i6.region tabOK (fr' := bkF l ad ((k : Int) - 1)) ?_ fun a7 i7 => ?_
        · (conv => whnf); repeat' ((first | apply CondA.plain | refine' gC | refine' gpI | refine' gpB | refine' gSuppv | refine' gE | (apply DrawA.quiet (by kernel_rfl) (by kernel_rfl); (conv => whnf); fail_if_success (show False))) <;> (conv => whnf))
          (repeat' (first | exact trivial | refine And.intro ?_ ?_ | with_reducible rfl | (refine pIEq ?_; exact ar_) | (refine bufMap ?_) | (refine bufNil ?_) | (refine bufEq ?_) | rfl))
        rw [fin_drop hkl] at hJ3
        refine ⟨⟨k, by omega, i7, hJ3, fun c hc => (hK3 c hc).trans (hK2 c hc)⟩, ?_⟩
        rw [bkMu_eq i7]
        omega
      · refine ⟨_, rfl, ?_⟩
        have h17 := putT (v := Value.bool false) (d := 17) (a := a8) (by rw [i8.sz]; decide)
        have hs9 := put_size a8 17 (Value.bool false)
        have hd9 : (a8.put (some 17) (Value.bool false)).defers = [] := i8.nd
        rw [i8.sz] at hs9
        generalize a8.put (some 17) (Value.bool false) = a9 at h17 hs9 hd9 ⊢
        refine bareOp rfl (not_op (b := false) rfl h17) (wpListIn_nil ?_)
        have h18 := putT (v := Value.bool (!false)) (d := 18) (a := a9) (by rw [hs9]; decide)
        have hd10 : (a9.put (some 18) (Value.bool (!false))).defers = [] := hd9
        generalize a9.put (some 18) (Value.bool (!false)) = a10 at h18 hd10 ⊢
        refine wpIn_cond (t := true) h18 (wpIn_ret ?_)
        exact ⟨hd10, _, results_none rfl _ _ _, ⟨_, rfl⟩, .inr ⟨_, ⟨((List.finRange ls.length).take k).reverse, by rw [fin_drop hkl, ← List.reverse_append, List.take_append_drop]⟩, hJ3⟩⟩
end Go.Proofs.YtbcndmkgjdoojaaGreatDoor
