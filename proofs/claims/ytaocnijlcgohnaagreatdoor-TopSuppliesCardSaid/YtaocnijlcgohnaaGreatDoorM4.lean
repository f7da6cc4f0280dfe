/- Whatever the list of numbers, TopSupplies returns true, and its argument reads as it did; its package variables are tied to the program's text. Part 4 of 9. -/
import Derived.Test.YtaocnijlcgohnaaGreatDoorM3
import Derived.Lib.Bytealg
set_option linter.unusedSimpArgs false
set_option linter.unusedVariables false
set_option linter.unnecessarySimpa false
set_option linter.unusedVariables false
set_option linter.unusedSimpArgs false
namespace Go.Abs
open Go.RowKit
theorem p6 {a b : IntKind} (h : gQ a b = true) : a = b := by cases a <;> cases b <;> first | rfl | cases h
def eqV : Value -> Value -> Bool
 | .int k a, .int k' b => gQ k k' && a == b
 | .bool a, .bool b => a == b
 | .string a, .string b => a.data.toList == b.data.toList
 | .slice none 0 0, .slice none 0 0 => true
 | _, _ => false
theorem oH {a b : Value} (h : eqV a b = true) : a = b := by
 unfold eqV at h
 split at h
 ·simp only [Bool.and_eq_true, beq_iff_eq] at h
  rw [p6 h.1, h.2]
 ·rw [eq_of_beq h]
 ·rename_i x y
  have := eq_of_beq h
  congr 1
  cases x; cases y; congr 1
  exact Array.toList_inj.1 this
 ·rfl
 ·cases h
mutual
def eqP : PV -> PV -> Bool
 | .v a, .v b => eqV a b
 | .list n xs, .list m ys => (n == m) && lq xs ys
 | .agg xs, .agg ys => lq xs ys
 | _, _ => false
def lq : List PV -> List PV -> Bool
 | [], [] => true
 | x :: xs, y :: ys => eqP x y && lq xs ys
 | _, _ => false
end
mutual
theorem vb : ∀ {a b : PV}, eqP a b = true -> a = b
 | .v a, .v b, h => by rw [oH h]
 | .list n xs, .list m ys, h => by
  simp only [eqP, Bool.and_eq_true, beq_iff_eq] at h
  rw [h.1, dy h.2]
 | .agg xs, .agg ys, h => by rw [dy (show lq xs ys = true from h)]
 | .v _, .list _ _, h => by cases h
 | .v _, .agg _, h => by cases h
 | .list _ _, .v _, h => by cases h
 | .list _ _, .agg _, h => by cases h
 | .agg _, .v _, h => by cases h
 | .agg _, .list _ _, h => by cases h
theorem dy : ∀ {a b : List PV}, lq a b = true -> a = b
 | [], [], _ => rfl
 | x :: xs, y :: ys, h => by
  simp only [lq, Bool.and_eq_true] at h
  rw [vb h.1, dy h.2]
 | [], _ :: _, h => by cases h
 | _ :: _, [], h => by cases h
end
def Cz : Fn -> Fn -> Bool
 | .func f, .func g => Nat.beq f g
 | _, _ => false
theorem Bo {a b : Fn} (h : Cz a b = true) : a = b := by
 unfold Cz at h
 split at h
 ·rw [Nat.eq_of_beq_eq_true h]
 ·cases h
mutual
def eqA : AV -> AV -> Bool
 | .p x, .p y => eqP x y
 | .ptr i o, .ptr j q => Nat.beq i j && Nat.beq o q
 | .bN i o, .bN j q => Nat.beq i j && Nat.beq o q
 | .buf i, .buf j => Nat.beq i j
 | .sub i a b, .sub j c d => Nat.beq i j && (Nat.beq a c && Nat.beq b d)
 | .bp i a b, .bp j c d => Nat.beq i j && (Nat.beq a c && Nat.beq b d)
 | .aN xs, .aN ys => lq xs ys
 | .agg xs, .agg ys => oJ xs ys
 | .tup xs, .tup ys => oJ xs ys
 | .clo f xs, .clo g ys => Cz f g && oJ xs ys
 | .mp i, .mp j => Nat.beq i j
 | .cap n xs, .cap m ys => (n == m) && lq xs ys
 | .dead, .dead => true
 | _, _ => false
def oJ : List AV -> List AV -> Bool
 | [], [] => true
 | x :: xs, y :: ys => eqA x y && oJ xs ys
 | _, _ => false
end
mutual
theorem Af : ∀ {a b : AV}, eqA a b = true -> a = b
 | .p x, b, h => by cases b <;> first | (cases h; done) | (simp only [eqA] at h; rw [vb h])
 | .ptr i o, b, h => by cases b <;> first | (cases h; done) | (simp only [eqA, Bool.and_eq_true] at h; rw [Nat.eq_of_beq_eq_true h.1, Nat.eq_of_beq_eq_true h.2])
 | .bN i o, b, h => by cases b <;> first | (cases h; done) | (simp only [eqA, Bool.and_eq_true] at h; rw [Nat.eq_of_beq_eq_true h.1, Nat.eq_of_beq_eq_true h.2])
 | .buf i, b, h => by cases b <;> first | (cases h; done) | (simp only [eqA] at h; rw [Nat.eq_of_beq_eq_true h])
 | .sub i _ _, b, h => by cases b <;> first | (cases h; done) | (simp only [eqA, Bool.and_eq_true] at h; rw [Nat.eq_of_beq_eq_true h.1, Nat.eq_of_beq_eq_true h.2.1, Nat.eq_of_beq_eq_true h.2.2])
 | .bp i _ _, b, h => by cases b <;> first | (cases h; done) | (simp only [eqA, Bool.and_eq_true] at h; rw [Nat.eq_of_beq_eq_true h.1, Nat.eq_of_beq_eq_true h.2.1, Nat.eq_of_beq_eq_true h.2.2])
 | .aN xs, b, h => by cases b <;> first | (cases h; done) | (simp only [eqA] at h; rw [dy h])
 | .agg xs, b, h => by
  cases b with
  | agg ys => rw [gx (show oJ xs ys = true from h)]
  | _ => cases h
 | .tup xs, b, h => by
  cases b with
  | tup ys => rw [gx (show oJ xs ys = true from h)]
  | _ => cases h
 | .clo f xs, b, h => by
  cases b with
  | clo g ys =>
   simp only [eqA, Bool.and_eq_true] at h
   rw [Bo h.1, gx h.2]
  | _ => cases h
 | .mp i, b, h => by cases b <;> first | (cases h; done) | (simp only [eqA] at h; rw [Nat.eq_of_beq_eq_true h])
 | .cap n xs, b, h => by cases b <;> first | (cases h; done) | (simp only [eqA, Bool.and_eq_true, beq_iff_eq] at h; rw [h.1, dy h.2])
 | .dead, b, h => by cases b <;> first | (cases h; done) | rfl
theorem gx : ∀ {a b : List AV}, oJ a b = true -> a = b
 | [], [], _ => rfl
 | x :: xs, y :: ys, h => by
  simp only [oJ, Bool.and_eq_true] at h
  rw [Af h.1, gx h.2]
 | [], _ :: _, h => by cases h
 | _ :: _, [], h => by cases h
end
end Go.Abs
namespace Go.Abs
open Go.RowKit
section
variable {ti : TypeId -> Option TI} {H : AH}
def tD {α : Type} (xs : List α) (i : Int) : Option α := match i with
 | .ofNat n => xs[n]?
 | .negSucc _ => none
theorem jC {α : Type} {xs : List α} {i : Int} {x : α} (h : tD xs i = some x) : 0 <= i /\ xs[i.toNat]? = some x := by
 unfold tD at h
 split at h
 ·exact ⟨Int.natCast_nonneg _, h⟩
 ·cases h
def Bl (i : TI) (cs : List PV) : Option AV := match i.k.isAgg with
 | true => match Nat.ble i.size cs.length with
  | true => some (.p (.agg (cs.take i.size)))
  | false => none
 | false => match cs with
  | c :: _ => some (.p c)
  | [] => none
theorem ot {i : TI} {cs : List PV} {v : AV} {k : AV -> Prop} (h : Bl i cs = some v) (hk : k v) : iC i cs k := by
 unfold Bl at h; unfold iC
 split at h
 ·rename_i ha
  simp only [ha]
  split at h
  ·rename_i hb
   simp only [hb]
   injection h with h; subst h; exact hk
  ·cases h
 ·rename_i ha
  simp only [ha]
  split at h
  ·injection h with h; subst h; exact hk
  ·cases h
def jz (i : TI) (cs : List AV) (off : Nat) : Option AV := match i.k.isAgg with
 | true => match Nat.ble (off + i.size) cs.length with
  | true => some (eK ((cs.drop off).take i.size))
  | false => none
 | false => cs[off]?
theorem c6 {i : TI} {cs : List AV} {off : Nat} {v : AV} {k : AV -> Prop} (h : jz i cs off = some v) (hk : k v) : dV i cs off k := by
 unfold jz at h; unfold dV
 split at h
 ·rename_i ha
  simp only [ha]
  split at h
  ·rename_i hb
   simp only [hb]
   injection h with h; subst h; exact hk
  ·cases h
 ·rename_i ha
  simp only [ha, h]
  exact hk
def ll (ti : TypeId -> Option TI) (H : AH) (t : TypeId) (x : AV) : Option AV := match ti t with
 | none => none
 | some i => match x with
  | .aN cs => Bl i cs
  | .ptr id off => match H[id]? with
   | some (some (.cells cs)) => jz i cs off
   | some (some (.arr xs)) => match i.k.isAgg with
    | false => match xs[off]? with
     | some y => some (.p y)
     | none => none
    | true => none
   | _ => none
  | .bp id ix off => match H[id]? with
   | some (some (.buf _ _ xs)) => match xs[ix]? with
    | some y => Bl i (y.cells.drop off)
    | none => none
   | _ => none
  | _ => none
theorem gp {t : TypeId} {x v : AV} {k : AV -> Prop} (h : ll ti H t x = some v) (hk : k v) : de ti H t x k := by
 unfold ll at h; unfold de
 split at h
 ·cases h
 ·rename_i i hi
  simp only [hi]
  split at h
  ·exact ot h hk
  ·rename_i id off
   split at h
   ·rename_i cs hc
    simp only [hc]
    exact c6 h hk
   ·rename_i xs hc
    simp only [hc]
    split at h
    ·rename_i ha
     simp only [ha]
     split at h
     ·rename_i y hy
      injection h with h; subst h
      exact ⟨off, y, rfl, hy, hk⟩
     ·cases h
    ·cases h
   ·cases h
  ·rename_i id ix off
   split at h
   ·rename_i e nl xs hc
    simp only [hc]
    split at h
    ·rename_i y hy
     exact ⟨y, Int.natCast_nonneg _, hy, ot h hk⟩
    ·cases h
   ·cases h
  ·cases h
def im (ti : TypeId -> Option TI) (s : TypeId) (x : AV) (f : Nat) : Option AV := match ti s with
 | some ⟨.st fs, _, _, _⟩ => match fs[f]? with
  | some (ft, off) => match ti ft with
   | some ⟨_, _ + 1, _, _⟩ => match x with
    | .ptr id o => some (.ptr id (o + off))
    | .bp id ix o => some (.bp id ix (o + off))
    | .aN cs => some (.aN (cs.drop off))
    | _ => none
   | _ => none
  | none => none
 | _ => none
theorem kF {s : TypeId} {x v : AV} {f : Nat} {k : AV -> Prop} (h : im ti s x f = some v) (hk : k v) : dA ti s x f k := by
 unfold im at h; unfold dA
 split at h
 ·rename_i fs _ _ _ hi
  simp only [hi]
  split at h
  ·rename_i ft off hf
   simp only [hf]
   split at h
   ·rename_i hi2
    simp only [hi2]
    split at h <;> first | (cases h; done) | (injection h with h; subst h; exact hk)
   ·cases h
  ·cases h
 ·cases h
def rC (xs : List PV) (i : Int) (sz : Nat) : Option AV := match tD xs i with
 | some z => match Nat.beq z.cells.length sz with
  | true => some (.aN z.cells)
  | false => none
 | none => none
theorem kB {xs : List PV} {i : Int} {sz : Nat} {v : AV} {k : AV -> Prop} (h : rC xs i sz = some v) (hk : k v) : bO xs i fun z => match Nat.beq z.cells.length sz with
  | true => k (.aN z.cells)
  | false => False := by
 unfold rC at h
 split at h
 ·rename_i z hz
  split at h
  ·rename_i hb
   injection h with h; subst h
   obtain ⟨h1, h2⟩ := jC hz
   exact ⟨z, h1, h2, by simp only [hb]; exact hk⟩
  ·cases h
 ·cases h
def il (ti : TypeId -> Option TI) (H : AH) (t : TypeId) (x y : AV) : Option AV := match y with
 | .p (.v (.int _ i)) => match ti t with
  | some ⟨.sl e, _, _, _⟩ => match x with
   | .p (.list _ xs) => match ti e with
    | some ie => rC xs i ie.size
    | none => none
   | .buf id => match H[id]? with
    | some (some (.buf e' _ xs)) => match Nat.beq e e' with
     | true => match decide (0 <= i) && Nat.blt i.toNat xs.length with
      | true => some (.bp id i.toNat 0)
      | false => none
     | false => none
    | some (some (.frz _ xs)) => match ti e with
     | some ie => rC xs i ie.size
     | none => none
    | _ => none
   | .sub id lo hi => match H[id]? with
    | some (some (.buf e' _ _)) => match Nat.beq e e' with
     | true => match decide (0 <= i /\ i < ((hi - lo : Nat) : Int)) with
      | true => some (.bp id (lo + i.toNat) 0)
      | false => none
     | false => none
    | _ => none
   | _ => none
  | some ⟨.ar n e, _, _, _⟩ => match ti e, x with
   | some ie, .ptr id o => match decide (0 <= i /\ i < n) with
    | true => some (.ptr id (o + i.toNat * ie.size))
    | false => none
   | some ie, .aN cs => match decide (0 <= i /\ i < n) with
    | true => some (.aN (cs.drop (i.toNat * ie.size)))
    | false => none
   | _, _ => none
  | _ => none
 | _ => none
theorem kA {t : TypeId} {x y v : AV} {k : AV -> Prop} (h : il ti H t x y = some v) (hk : k v) : dz ti H t x y k := by
 unfold il at h; unfold dz
 split at h
 ·split at h
  ·rename_i hi
   simp only [hi]
   split at h
   ·split at h
    ·rename_i hie
     simp only [hie]
     exact kB h hk
    ·cases h
   ·split at h
    ·rename_i hc
     simp only [hc]
     split at h
     ·rename_i hb
      simp only [hb]
      split at h
      ·rename_i hd
       injection h with h; subst h
       simp only [Bool.and_eq_true, decide_eq_true_eq] at hd
       exact ⟨_, (Int.toNat_of_nonneg hd.1).symm, Nat.le_of_ble_eq_true hd.2, hk⟩
      ·cases h
     ·cases h
    ·rename_i hc
     simp only [hc]
     split at h
     ·rename_i hie
      simp only [hie]
      exact kB h hk
     ·cases h
    ·cases h
   ·split at h
    ·rename_i hc
     simp only [hc]
     split at h
     ·rename_i hb
      simp only [hb]
      split at h
      ·rename_i hd
       injection h with h; subst h
       exact ⟨of_decide_eq_true hd, hk⟩
      ·cases h
     ·cases h
    ·cases h
   ·cases h
  ·rename_i hi
   simp only [hi]
   split at h
   ·rename_i hie
    simp only [hie]
    split at h
    ·rename_i hd
     injection h with h; subst h
     exact ⟨of_decide_eq_true hd, hk⟩
    ·cases h
   ·rename_i hie
    simp only [hie]
    split at h
    ·rename_i hd
     injection h with h; subst h
     exact ⟨of_decide_eq_true hd, hk⟩
    ·cases h
   ·cases h
  ·cases h
 ·cases h
def z_ (ti : TypeId -> Option TI) (H : AH) (t : TypeId) (x : AV) : Option AV := match ti t with
 | some ⟨.sl _, _, _, _⟩ => match x with
  | .p (.list _ xs) => some (.p (.v (.int .i64 xs.length)))
  | .buf id => match H[id]? with
   | some (some (.buf _ _ xs)) => some (.p (.v (.int .i64 xs.length)))
   | some (some (.frz _ xs)) => some (.p (.v (.int .i64 xs.length)))
   | _ => none
  | .sub id lo hi => match H[id]? with
   | some (some (.buf _ _ xs)) => some (.p (.v (.int .i64 ((hi - lo : Nat) : Int))))
   | _ => none
  | _ => none
 | some ⟨.ar n _, _, _, _⟩ => some (.p (.v (.int .i64 n)))
 | some ⟨.str, _, _, _⟩ => match x with
  | .p (.v (.string s)) => some (.p (.v (.int .i64 s.size)))
  | _ => none
 | _ => none
theorem tC {t : TypeId} {x v : AV} {k : AV -> Prop} (h : z_ ti H t x = some v) (hk : k v) : sq ti H t x k := by
 unfold z_ at h; unfold sq
 split at h
 ·rename_i hi
  simp only [hi]
  split at h
  ·injection h with h; subst h
   exact ⟨_, rfl, fun _ => hk⟩
  ·split at h
   ·rename_i hc
    simp only [hc]
    injection h with h; subst h
    exact ⟨_, rfl, fun _ => hk⟩
   ·rename_i hc
    simp only [hc]
    injection h with h; subst h
    exact ⟨_, rfl, fun _ => hk⟩
   ·cases h
  ·split at h
   ·rename_i hc
    simp only [hc]
    injection h with h; subst h
    exact ⟨_, rfl, fun _ => hk⟩
   ·cases h
  ·cases h
 ·rename_i hi
  simp only [hi]
  injection h with h; subst h
  exact hk
 ·rename_i hi
  simp only [hi]
  split at h
  ·injection h with h; subst h
   exact hk
  ·cases h
 ·cases h
def rE (ti : TypeId -> Option TI) (s : TypeId) (x : AV) (f : Nat) : Option AV := match ti s with
 | some ⟨.st fs, _, _, _⟩ => match fs[f]? with
  | some (ft, off) => match ti ft with
   | some i => match x with
    | .agg cs => jz i cs off
    | .p (.agg cs) => jz i (cs.map .p) off
    | _ => none
   | none => none
  | none => none
 | _ => none
theorem pF {s : TypeId} {x v : AV} {f : Nat} {k : AV -> Prop} (h : rE ti s x f = some v) (hk : k v) : jS ti s x f k := by
 unfold rE at h; unfold jS
 split at h
 ·rename_i hi
  simp only [hi]
  split at h
  ·rename_i hf
   simp only [hf]
   split at h
   ·rename_i hi2
    split at h
    ·simp only [kW, hi2]
     exact c6 h hk
    ·simp only [kW, hi2]
     exact c6 h hk
    ·cases h
   ·cases h
  ·cases h
 ·cases h
def u9 (ie : TI) (cs : List PV) (i : Int) : Option AV := match ie.k.isAgg, Nat.beq ie.size 1 with
 | false, true => match tD cs i with
  | some y => some (.p y)
  | none => none
 | true, _ => match Nat.ble (i.toNat * ie.size + ie.size) cs.length with
  | true => some (.p (.agg ((cs.drop (i.toNat * ie.size)).take ie.size)))
  | false => none
 | _, _ => jz ie (cs.map .p) (i.toNat * ie.size)
theorem rO {ie : TI} {cs : List PV} {i : Int} {v : AV} {k : AV -> Prop} (h : u9 ie cs i = some v) (hk : k v) : Au ie cs i k := by
 unfold u9 at h; unfold Au
 split at h
 ·rename_i h1 h2
  simp only [h1, h2]
  split at h
  ·rename_i hy
   injection h with h; subst h
   obtain ⟨h1, h2⟩ := jC hy
   exact ⟨_, h1, h2, hk⟩
  ·cases h
 ·rename_i h1
  simp only [h1]
  split at h
  ·rename_i hb
   injection h with h; subst h
   exact ⟨_, rfl, hb, hk⟩
  ·cases h
 ·rename_i h1 h2
  split
  ·rename_i h3 h4; exact (h2 h3 h4).elim
  ·rename_i h3; exact (h1 h3).elim
  ·exact c6 h hk
def Ab (s : ByteArray) (i : Int) : Option AV := match tD s.data.toList i with
 | some b => some (.p (.v (.int .u8 b.toNat)))
 | none => none
def rA (ti : TypeId -> Option TI) (t : TypeId) (x y : AV) : Option AV := match y with
 | .p (.v (.int _ i)) => match ti t with
  | some ⟨.ar n e, _, _, _⟩ => match ti e, decide (0 <= i /\ i < n) with
   | some ie, true => match x with
    | .agg cs => jz ie cs (i.toNat * ie.size)
    | .p (.agg cs) => u9 ie cs i
    | _ => none
   | _, _ => none
  | some ⟨.str, _, _, _⟩ => match x with
   | .p (.v (.string s)) => Ab s i
   | _ => none
  | _ => none
 | _ => none
theorem pE {t : TypeId} {x y v : AV} {k : AV -> Prop} (h : rA ti t x y = some v) (hk : k v) : jQ ti t x y k := by
 unfold rA at h; unfold jQ
 split at h
 ·split at h
  ·rename_i hi
   simp only [hi]
   split at h
   ·rename_i hie hd
    simp only [hie]
    split at h
    ·exact ⟨of_decide_eq_true hd, c6 h hk⟩
    ·exact ⟨of_decide_eq_true hd, rO h hk⟩
    ·cases h
   ·cases h
  ·rename_i hi
   simp only [hi]
   split at h
   ·unfold Ab at h
    split at h
    ·rename_i s _ b hb
     injection h with h; subst h
     obtain ⟨h1, h2⟩ := jC hb
     refine ⟨b, h1, ?_, hk⟩
     rw [Array.getElem?_toList] at h2
     obtain ⟨h3, h4⟩ := Array.getElem?_eq_some_iff.1 h2
     rw [getElem?_pos s _ (by exact h3)]
     exact congrArg some h4
    ·cases h
   ·cases h
  ·cases h
 ·cases h
def qp (ti : TypeId -> Option TI) (H : AH) (t : TypeId) (x : AV) (l : Int) (ho : Option Int) : Option AV := match ti t with
 | some ⟨.sl e, _, _, _⟩ => match ti e with
  | some ie => match x with
   | .p (.list nl xs) => match (xs.all fun x => Nat.beq x.cells.length ie.size) && decide (0 <= l /\ l <= ho.getD xs.length /\ ho.getD xs.length <= xs.length) with
    | true => some (.p (.list nl ((xs.take (ho.getD xs.length).toNat).drop l.toNat)))
    | false => none
   | .buf id => match H[id]? with
    | some (some (.buf e' _ xs)) => match Nat.beq e e', decide (0 <= l /\ l <= ho.getD xs.length /\ ho.getD xs.length <= xs.length) with
     | true, true => some (.sub id l.toNat (ho.getD xs.length).toNat)
     | _, _ => none
    | some (some (.frz nl xs)) => match (xs.all fun x => Nat.beq x.cells.length ie.size) && decide (0 <= l /\ l <= ho.getD xs.length /\ ho.getD xs.length <= xs.length) with
     | true => some (.p (.list nl ((xs.take (ho.getD xs.length).toNat).drop l.toNat)))
     | false => none
    | _ => none
   | .sub id lo hi => match H[id]? with
    | some (some (.buf e' _ xs)) => match Nat.beq e e', decide (0 <= l /\ l <= ho.getD ((hi - lo : Nat) : Int) /\ ho.getD ((hi - lo : Nat) : Int) <= ((hi - lo : Nat) : Int)) with
     | true, true => some (.sub id (lo + l.toNat) (lo + (ho.getD ((hi - lo : Nat) : Int)).toNat))
     | _, _ => none
    | _ => none
   | _ => none
  | none => none
 | some ⟨.str, _, _, _⟩ => match x with
  | .p (.v (.string s)) => match decide (0 <= l /\ l <= ho.getD s.size /\ ho.getD s.size <= s.size) with
   | true => some (.p (.v (.string (s.extract l.toNat (ho.getD s.size).toNat))))
   | false => none
  | _ => none
 | _ => none
theorem gw {xs : List PV} {n : Nat} (h : (xs.all fun x => Nat.beq x.cells.length n) = true) : ∀ x ∈ xs, x.cells.length = n := fun x hx => Nat.eq_of_beq_eq_true (List.all_eq_true.1 h x hx)
theorem fk {t : TypeId} {x v : AV} {l : Int} {ho : Option Int} {k : AV -> Prop} (h : qp ti H t x l ho = some v) (hk : k v) : lM ti H t x l ho k := by
 unfold qp at h; unfold lM
 split at h
 ·rename_i hi
  simp only [hi]
  split at h
  ·rename_i hie
   simp only [hie]
   split at h
   ·split at h
    ·rename_i hd
     injection h with h; subst h
     simp only [Bool.and_eq_true] at hd
     exact ⟨gw hd.1, _, of_decide_eq_true hd.2, rfl, hk⟩
    ·cases h
   ·split at h
    ·rename_i hc
     simp only [hc]
     split at h
     ·rename_i hb hd
      simp only [hb]
      injection h with h; subst h
      exact ⟨of_decide_eq_true hd, hk⟩
     ·cases h
    ·rename_i hc
     simp only [hc]
     split at h
     ·rename_i hd
      injection h with h; subst h
      simp only [Bool.and_eq_true] at hd
      exact ⟨gw hd.1, _, of_decide_eq_true hd.2, rfl, hk⟩
     ·cases h
    ·cases h
   ·split at h
    ·rename_i hc
     simp only [hc]
     split at h
     ·rename_i hb hd
      simp only [hb]
      injection h with h; subst h
      exact ⟨of_decide_eq_true hd, hk⟩
     ·cases h
    ·cases h
   ·cases h
  ·cases h
 ·rename_i hi
  simp only [hi]
  split at h
  ·split at h
   ·rename_i hd
    injection h with h; subst h
    exact ⟨of_decide_eq_true hd, hk⟩
   ·cases h
  ·cases h
 ·cases h
def mI (ti : TypeId -> Option TI) (H : AH) (t : TypeId) (x : AV) (lo hi mx : Option AV) : Option AV := match lo, hi, mx with
 | none, none, none => qp ti H t x 0 none
 | some l, none, none => match asI l with
  | some l => qp ti H t x l none
  | none => none
 | none, some h, none => match asI h with
  | some h => qp ti H t x 0 (some h)
  | none => none
 | some l, some h, none => match asI l, asI h with
  | some l, some h => qp ti H t x l (some h)
  | _, _ => none
 | _, _, _ => none
theorem i_ {t : TypeId} {x v : AV} {lo hi mx : Option AV} {k : AV -> Prop} (h : mI ti H t x lo hi mx = some v) (hk : k v) : dn ti H t x lo hi mx k := by
 unfold mI at h; unfold dn
 split at h
 ·exact fk h hk
 ·split at h
  ·rename_i hl
   simp only [hl]
   exact fk h hk
  ·cases h
 ·split at h
  ·rename_i hl
   simp only [hl]
   exact fk h hk
  ·cases h
 ·split at h
  ·rename_i hl hh
   simp only [hl, hh]
   exact fk h hk
  ·cases h
 ·cases h
def oD (ti : TypeId -> Option TI) (src dst : TypeId) (x : AV) : Option AV := match ti src, ti dst, x with
 | some ⟨.int _, _, _, _⟩, some ⟨.int kd, _, _, _⟩, .p (.v (.int _ n)) => some (.p (.v (.int kd (kd.wrap n))))
 | some ⟨.str, _, _, _⟩, some ⟨.str, _, _, _⟩, .p (.v (.string s)) => some (.p (.v (.string s)))
 | _, _, _ => none
theorem ef {s d : TypeId} {x v : AV} {k : AV -> Prop} (h : oD ti s d x = some v) (hk : k v) : jn ti s d x k := by
 unfold oD at h; unfold jn
 split at h
 ·rename_i h1 h2
  simp only [h1, h2]
  injection h with h; subst h
  exact ⟨_, rfl, hk⟩
 ·rename_i h1 h2
  simp only [h1, h2]
  injection h with h; subst h
  exact hk
 ·cases h
def Cx (op : UnOp) (x : AV) : Option AV := match op, x with
 | .not, .p (.v (.bool b)) => some (.p (.v (.bool (!b))))
 | .neg, .p (.v (.int kd n)) => some (.p (.v (.int kd (kd.wrap (0 - n)))))
 | _, _ => none
theorem u1 {op : UnOp} {x v : AV} {k : AV -> Prop} (h : Cx op x = some v) (hk : k v) : yZ op x k := by
 unfold Cx at h; unfold yZ
 split at h
 ·injection h with h; subst h
  exact hk
 ·injection h with h; subst h
  exact ⟨_, rfl, hk⟩
 ·cases h
def rK (ti : TypeId -> Option TI) (t : TypeId) (parts : List (Nat × AV)) : Option AV := match ti t with
 | some i => match i.k with
  | .st fs => match placesOf ti fs with
   | some ps => match dJ (ps[·]?) (zeroCells i) parts with
    | some cs => some (eK cs)
    | none => none
   | none => none
  | .ar _ e => match ti e with
   | some ie => match dJ (fun j => some (j * ie.size, ie.size)) (zeroCells i) parts with
    | some cs => some (eK cs)
    | none => none
   | none => none
  | _ => none
 | none => none
theorem pK {t : TypeId} {parts : List (Nat × AV)} {v : AV} {k : AV -> Prop} (h : rK ti t parts = some v) (hk : k v) : jU ti t parts k := by
 unfold rK at h; unfold jU
 split at h
 ·rename_i hi
  simp only [hi]
  split at h
  ·rename_i hs
   simp only [hs]
   split at h
   ·rename_i hp
    simp only [hp]
    split at h
    ·rename_i hf
     simp only [hf]
     injection h with h; subst h
     exact hk
    ·cases h
   ·cases h
  ·rename_i hs
   simp only [hs]
   split at h
   ·rename_i hp
    simp only [hp]
    split at h
    ·rename_i hf
     simp only [hf]
     injection h with h; subst h
     exact hk
    ·cases h
   ·cases h
  ·cases h
 ·cases h
def eR (mx : Bool) : AV -> List AV -> Option AV
 | x, [] => some x
 | .p (.v (.int kd a)), .p (.v (.int kd' b)) :: r => match gQ kd kd' with
  | true => match mx with
   | true => eR mx (.p (.v (.int kd (if b > a then b else a)))) r
   | false => eR mx (.p (.v (.int kd (if b < a then b else a)))) r
  | false => none
 | _, _ => none
theorem c7 {mx : Bool} {k : AV -> Prop} : ∀ {r : List AV} {x v : AV}, eR mx x r = some v -> k v -> ct mx x r k
 | [], x, v, h, hk => by
  unfold eR at h
  injection h with h; subst h
  unfold ct
  exact hk
 | y :: r, x, v, h, hk => by
  unfold eR at h; unfold ct
  split at h
  ·rename_i h0; cases h0
  ·rename_i he
   injection he with he1 he2
   subst he1; subst he2
   simp only
   split at h
   ·rename_i hs
    simp only [hs]
    split at h
    ·exact c7 h hk
    ·exact c7 h hk
   ·cases h
  ·cases h
end
end Go.Abs
namespace Go.Abs
open Go.RowKit
section
variable {ti : TypeId -> Option TI} {H : AH}
def evI (kd : IntKind) (n : Int) : Option AV := some (.p (.v (.int kd (kd.wrap n))))
def evB (b : Bool) : Option AV := some (.p (.v (.bool b)))
def u4 (op : BinOp) (kd : IntKind) (a b : Int) : Option AV := match op with
 | .add => evI kd (a + b)
 | .sub => evI kd (a - b)
 | .mul => evI kd (a * b)
 | .quo => match b == 0 with
  | true => none
  | false => evI kd (a.tdiv b)
 | .rem => match b == 0 with
  | true => none
  | false => some (.p (.v (.int kd (a.tmod b))))
 | .and => evI kd ((BitVec.ofInt kd.bits a &&& BitVec.ofInt kd.bits b).toNat : Int)
 | .or => evI kd ((BitVec.ofInt kd.bits a ||| BitVec.ofInt kd.bits b).toNat : Int)
 | .xor => evI kd ((BitVec.ofInt kd.bits a ^^^ BitVec.ofInt kd.bits b).toNat : Int)
 | .andNot => evI kd ((BitVec.ofInt kd.bits a &&& ~~~(BitVec.ofInt kd.bits b)).toNat : Int)
 | .eql => evB (a == b)
 | .neq => evB (a != b)
 | .lss => evB (decide (a < b))
 | .leq => evB (decide (a <= b))
 | .gtr => evB (decide (a > b))
 | .geq => evB (decide (a >= b))
 | _ => none
theorem ck {kd : IntKind} {n : Int} {v : AV} {k : AV -> Prop} (h : evI kd n = some v) (hk : k v) : NW kd n fun n => k (.p (.v (.int kd n))) := by
 injection h with h; subst h
 exact ⟨_, rfl, hk⟩
theorem aO {b : Bool} {v : AV} {k : AV -> Prop} (h : evB b = some v) (hk : k v) : k (.p (.v (.bool b))) := by
 injection h with h; subst h
 exact hk
theorem rz {op : BinOp} {kd : IntKind} {a b : Int} {v : AV} {k : AV -> Prop} (h : u4 op kd a b = some v) (hk : k v) : mR op kd a b k := by
 unfold u4 at h; unfold mR
 split at h
 ·exact ck h hk
 ·exact ck h hk
 ·exact ck h hk
 ·split at h
  ·cases h
  ·rename_i hb
   exact ⟨_, by simpa using hb, rfl, ck h hk⟩
 ·split at h
  ·cases h
  ·rename_i hb
   injection h with h; subst h
   exact ⟨_, by simpa using hb, rfl, hk⟩
 ·exact ck h hk
 ·exact ck h hk
 ·exact ck h hk
 ·exact ck h hk
 ·exact aO h hk
 ·exact aO h hk
 ·exact aO h hk
 ·exact aO h hk
 ·exact aO h hk
 ·exact aO h hk
 ·cases h
def ru (op : BinOp) (kd : IntKind) (a b : Int) : Option AV := match op, decide (0 <= b) with
 | .shl, true => evI kd (a * 2 ^ (min b.toNat kd.bits))
 | .shr, true => some (.p (.v (.int kd (a.fdiv (2 ^ (min b.toNat kd.bits))))))
 | _, _ => none
theorem pD {op : BinOp} {kd : IntKind} {a b : Int} {v : AV} {k : AV -> Prop} (h : ru op kd a b = some v) (hk : k v) : jM op kd a b k := by
 unfold ru at h; unfold jM
 split at h
 ·rename_i hd
  exact ⟨of_decide_eq_true hd, ck h hk⟩
 ·rename_i hd
  injection h with h; subst h
  exact ⟨of_decide_eq_true hd, _, rfl, hk⟩
 ·cases h
def gi (a b : ByteArray) : Bool := a.data.toList == b.data.toList
theorem eP (a b : ByteArray) : (a.toList == b.toList) = gi a b := by
 unfold gi
 rw [ByteArray.toList_eq, ByteArray.toList_eq]
def jD (ti : TypeId -> Option TI) : List (TypeId × Nat) -> List PV -> List PV -> Option Bool
 | [], _, _ => some true
 | (t, off) :: fs, xs, ys =>
  match ti t, xs[off]?, ys[off]?, jD ti fs xs ys with
  | some i, some (.v x), some (.v y), some r => match i.k, x, y with
   | .int _, .int ka a, .int kb b => match gQ ka kb with
    | true => some (a == b && r)
    | false => none
   | .bool, .bool a, .bool b => some ((a == b) && r)
   | .str, .string a, .string b => some (gi a b && r)
   | _, _, _ => none
  | _, _, _, _ => none
theorem eo : ∀ (fs : List (TypeId × Nat)) (xs ys : List PV), jD ti fs xs ys = oI ti fs xs ys
 | [], _, _ => rfl
 | (t, off) :: fs, xs, ys => by
  unfold jD oI
  rw [eo fs]
  simp only [eP]
  rfl
def Ac (ti : TypeId -> Option TI) (H : AH) (op : BinOp) (t : TypeId) (x y : AV) : Option AV :=
 match x, y with
 | .p (.v (.int ka a)), .p (.v (.int kb b)) => match mH op with
  | true => ru op ka a b
  | false => match gQ ka kb with
   | true => u4 op ka a b
   | false => none
 | .p (.v (.bool a)), .p (.v (.bool b)) => match ti t, op with
  | some ⟨.bool, _, _, _⟩, .eql => evB (a == b)
  | some ⟨.bool, _, _, _⟩, .neq => evB (!(a == b))
  | _, _ => none
 | .p (.v (.string a)), .p (.v (.string b)) => match op with
  | .eql => evB (gi a b)
  | .neq => evB (!gi a b)
  | .add => match Nat.ble (a.size + b.size) 9223372036854775807 with
   | true => some (.p (.v (.string (a ++ b))))
   | false => none
  | .lss => evB (Op.bytesLess a.data.toList b.data.toList)
  | .leq => evB (Op.bytesLess a.data.toList b.data.toList || gi a b)
  | .gtr => evB (!(Op.bytesLess a.data.toList b.data.toList || gi a b))
  | .geq => evB (!Op.bytesLess a.data.toList b.data.toList)
  | _ => none
 | .p (.list nl xs), .p (.list true []) => match ti t, op with
  | some ⟨.sl _, _, _, _⟩, .eql => evB nl
  | some ⟨.sl _, _, _, _⟩, .neq => evB (!nl)
  | _, _ => none
 | .buf id, .p (.list true []) => match ti t, op, H[id]? with
  | some ⟨.sl _, _, _, _⟩, .eql, some (some (.buf _ nl _)) => evB nl
  | some ⟨.sl _, _, _, _⟩, .neq, some (some (.buf _ nl _)) => evB (!nl)
  | some ⟨.sl _, _, _, _⟩, .eql, some (some (.frz nl _)) => evB nl
  | some ⟨.sl _, _, _, _⟩, .neq, some (some (.frz nl _)) => evB (!nl)
  | _, _, _ => none
 | .p (.agg xs), .p (.agg ys) => match ti t with
  | some ⟨.st fs, _, _, _⟩ => match jD ti fs xs ys, op with
   | some r, .eql => evB r
   | some r, .neq => evB (!r)
   | _, _ => none
  | _ => none
 | _, _ => none
theorem tG {op : BinOp} {t : TypeId} {x y v : AV} {k : AV -> Prop} (h : Ac ti H op t x y = some v) (hk : k v) : su ti H op t x y k := by
 unfold Ac at h; unfold su
 split at h
 ·split at h
  ·rename_i hs
   simp only [hs]
   exact pD h hk
  ·rename_i hs
   simp only [hs]
   split at h
   ·rename_i hs
    simp only [hs]
    exact rz h hk
   ·cases h
 ·split at h
  ·rename_i hi
   simp only [hi]
   exact aO h hk
  ·rename_i hi
   simp only [hi]
   exact aO h hk
  ·cases h
 ·split at h
  ·simp only [eP]
   exact aO h hk
  ·simp only [eP]
   exact aO h hk
  ·split at h
   ·rename_i hb
    injection h with h; subst h
    exact ⟨Nat.le_of_ble_eq_true hb, hk⟩
   ·cases h
  ·simp only [ByteArray.toList_eq]
   exact aO h hk
  ·simp only [eP, ByteArray.toList_eq]
   exact aO h hk
  ·simp only [eP, ByteArray.toList_eq]
   exact aO h hk
  ·simp only [ByteArray.toList_eq]
   exact aO h hk
  ·cases h
 ·split at h
  ·rename_i hi
   simp only [hi]
   exact ⟨fun _ => aO h hk⟩
  ·rename_i hi
   simp only [hi]
   exact ⟨fun _ => aO h hk⟩
  ·cases h
 ·split at h
  ·rename_i hi hc
   simp only [hi, hc]
   exact ⟨fun _ => aO h hk⟩
  ·rename_i hi hc
   simp only [hi, hc]
   exact ⟨fun _ => aO h hk⟩
  ·rename_i hi hc
   simp only [hi, hc]
   exact ⟨fun _ => aO h hk⟩
  ·rename_i hi hc
   simp only [hi, hc]
   exact ⟨fun _ => aO h hk⟩
  ·cases h
 ·split at h
  ·rename_i hi
   simp only [hi]
   rw [eo] at h
   split at h
   ·rename_i he
    simp only [he]
    exact aO h hk
   ·rename_i he
    simp only [he]
    exact aO h hk
   ·cases h
  ·cases h
 ·cases h
def z7 (t : Bool) (x y : AV) : AV := match t with
 | true => x
 | false => y
theorem ry {t : Bool} {x y : AV} {k : AV -> Prop} (hk : k (z7 t x y)) : qC t x y k := by
 unfold qC
 split
 ·cases t <;> exact hk
 ·cases t <;> exact hk
def Aa (ti : TypeId -> Option TI) (t : TypeId) (x : AV) : Option AV := match x with
 | .p (.list true []) => match ti t with
  | some ⟨.sl _, _, _, _⟩ => some (.p (.v (.int .i64 0)))
  | _ => none
 | _ => none
theorem tE {t : TypeId} {x v : AV} {k : AV -> Prop} (h : Aa ti t x = some v) (hk : k v) : vH ti t x k := by
 unfold Aa at h; unfold vH
 split at h
 ·split at h
  ·rename_i hi
   simp only [hi]
   injection h with h; subst h
   exact hk
  ·cases h
 ·cases h
def evQ (ti : TypeId -> Option TI) (σ : AS) (op : Op) : Option AV := match op with
 | .move x => some (σ.ev x)
 | .assign x => some (σ.ev x)
 | .pick c a b => match σ.ev c with
  | .p (.v (.bool t)) => some (z7 t (σ.ev a) (σ.ev b))
  | _ => none
 | .load t a => ll ti σ.h t (σ.ev a)
 | .nilCheck x => match σ.ev x with
  | .ptr id o => some (.ptr id o)
  | .bp id i o => some (.bp id i o)
  | .aN cs => some (.aN cs)
  | .clo fn caps => some (.clo fn caps)
  | _ => none
 | .binOp op t x y _ => Ac ti σ.h op t (σ.ev x) (σ.ev y)
 | .unOp op _ x => Cx op (σ.ev x)
 | .convert s d x => oD ti s d (σ.ev x)
 | .fieldAddr s x f => im ti s (σ.ev x) f
 | .field s x f => rE ti s (σ.ev x) f
 | .indexAddr t x i => il ti σ.h t (σ.ev x) (σ.ev i)
 | .index t x i => rA ti t (σ.ev x) (σ.ev i)
 | .slice t x lo hi mx => mI ti σ.h t (σ.ev x) (lo.map σ.ev) (hi.map σ.ev) (mx.map σ.ev)
 | .extract x i => match σ.ev x with
  | .tup xs => xs[i]?
  | _ => none
 | .build t parts => rK ti t (parts.toList.map fun p => (p.1, σ.ev p.2))
 | .makeFunc fn first caps => match first.toList with
  | [] => some (.clo fn (caps.toList.map σ.ev))
  | _ => none
 | .call c => match c.callee with
  | .builtin .len => match c.args.toList, c.argTypes.toList with
   | [x], [t] => z_ ti σ.h t (σ.ev x)
   | _, _ => none
  | .builtin .cap => match c.args.toList, c.argTypes.toList with
   | [x], [t] => Aa ti t (σ.ev x)
   | _, _ => none
  | .builtin .max => match c.args.toList with
   | x :: r => eR true (σ.ev x) (r.map σ.ev)
   | _ => none
  | .builtin .min => match c.args.toList with
   | x :: r => eR false (σ.ev x) (r.map σ.ev)
   | _ => none
  | _ => none
 | _ => none
theorem en {σ : AS} {op : Op} {v : AV} {k : AV -> Prop} (h : evQ ti σ op = some v) (hk : k v) : wpQ ti σ op k := by
 unfold evQ at h; unfold wpQ
 split at h
 ·injection h with h; subst h; exact hk
 ·injection h with h; subst h; exact hk
 ·split at h
  ·rename_i hc
   simp only [hc]
   injection h with h; subst h
   exact ry hk
  ·cases h
 ·exact gp h hk
 ·split at h <;> first | (cases h; done) | (rename_i hc; simp only [hc]; injection h with h; subst h; exact hk)
 ·exact tG h hk
 ·exact u1 h hk
 ·exact ef h hk
 ·exact kF h hk
 ·exact pF h hk
 ·exact kA h hk
 ·exact pE h hk
 ·exact i_ h hk
 ·split at h
  ·rename_i hc
   simp only [hc, h]
   exact hk
  ·cases h
 ·exact pK h hk
 ·split at h
  ·rename_i hc
   simp only [hc]
   injection h with h; subst h
   exact hk
  ·cases h
 ·split at h
  ·rename_i hc
   simp only [hc]
   split at h
   ·rename_i h1 h2
    simp only [h1, h2]
    exact tC h hk
   ·cases h
  ·rename_i hc
   simp only [hc]
   split at h
   ·rename_i h1 h2
    simp only [h1, h2]
    exact tE h hk
   ·cases h
  ·rename_i hc
   simp only [hc]
   split at h
   ·rename_i h1
    simp only [h1]
    exact c7 h hk
   ·cases h
  ·rename_i hc
   simp only [hc]
   split at h
   ·rename_i h1
    simp only [h1]
    exact c7 h hk
   ·cases h
  ·cases h
 ·cases h
end
end Go.Abs
namespace Go.Abs
open Go.RowKit
section
variable {ti : TypeId -> Option TI} {H : AH}
abbrev EV := Option (AV × AH)
def om (H : AH) (e : TypeId) (sz : Nat) (x : AV) : Option (List PV) := match x with
 | .p (.list _ ys) => match ys.all fun x => Nat.beq x.cells.length sz with
  | true => some ys
  | false => none
 | .buf id2 => match H[id2]? with
  | some (some (.buf e2 _ ys)) => match Nat.beq e e2 with
   | true => some ys
   | false => none
  | some (some (.frz _ ys)) => match ys.all fun x => Nat.beq x.cells.length sz with
   | true => some ys
   | false => none
  | _ => none
 | _ => none
theorem mf {e : TypeId} {sz : Nat} {x : AV} {ys : List PV} {k : List PV -> Prop} (h : om H e sz x = some ys) (hk : k ys) : lJ H e sz x k := by
 unfold om at h; unfold lJ
 split at h
 ·split at h
  ·rename_i ha
   injection h with h; subst h
   exact ⟨gw ha, hk⟩
  ·cases h
 ·split at h
  ·rename_i hc
   simp only [hc]
   split at h
   ·rename_i hb
    simp only [hb]
    injection h with h; subst h
    exact hk
   ·cases h
  ·rename_i hc
   simp only [hc]
   split at h
   ·rename_i ha
    injection h with h; subst h
    exact ⟨gw ha, hk⟩
   ·cases h
  ·cases h
 ·cases h
def u2 (H : AH) (e : TypeId) (sz : Nat) (x : AV) : Option (List PV) := match x with
 | .sub id2 lo hi => match H[id2]? with
  | some (some (.buf e2 _ ys)) => match Nat.beq e e2 with
   | true => some ((ys.take hi).drop lo)
   | false => none
  | _ => none
 | _ => om H e sz x
theorem rr {e : TypeId} {sz : Nat} {x : AV} {ys : List PV} {k : List PV -> Prop} (h : u2 H e sz x = some ys) (hk : k ys) : kV H e sz x k := by
 unfold u2 at h
 split at h
 ·unfold kV
  split at h
  ·rename_i hc
   simp only [hc]
   split at h
   ·rename_i hb
    simp only [hb]
    injection h with h; subst h
    exact hk
   ·cases h
  ·cases h
 unfold om at h; unfold kV
 split at h
 ·split at h
  ·rename_i ha
   injection h with h; subst h
   exact ⟨gw ha, hk⟩
  ·cases h
 ·split at h
  ·rename_i hc
   simp only [hc]
   split at h
   ·rename_i hb
    simp only [hb]
    injection h with h; subst h
    exact hk
   ·cases h
  ·rename_i hc
   simp only [hc]
   split at h
   ·rename_i ha
    injection h with h; subst h
    exact ⟨gw ha, hk⟩
   ·cases h
  ·cases h
 ·cases h
def oB (n by_ : Nat) : Bool := Nat.ble n maxLen && Nat.ble (n * by_) 140737488355328
theorem mg {n by_ : Nat} (h : oB n by_ = true) : n <= maxLen /\ n * by_ <= 140737488355328 := by
 unfold oB at h
 rw [Bool.and_eq_true] at h
 exact ⟨Nat.le_of_ble_eq_true h.1, Nat.le_of_ble_eq_true h.2⟩
def rR (H : AH) (e : TypeId) (sz by_ : Nat) (ob : Option Nat) (nl : Bool) (xs : List PV) (x : AV) : EV := match om H e sz x with
 | some ys => match oB (xs ++ ys).length by_ with
  | true => some (.buf H.length, kill H ob ++ [some (.buf e (ys.isEmpty && nl) (xs ++ ys))])
  | false => none
 | none => none
theorem kH {e : TypeId} {sz by_ : Nat} {ob : Option Nat} {nl : Bool} {xs : List PV} {x v : AV} {H' : AH} {k : AV -> AH -> Prop} (h : rR H e sz by_ ob nl xs x = some (v, H')) (hk : k v H') : kX H e sz by_ ob nl xs x k := by
 unfold rR at h; unfold kX
 split at h
 ·rename_i hs
  split at h
  ·rename_i hf
   injection h with h; injection h with h1 h2; subst h1; subst h2
   exact mf hs ⟨_, rfl, mg hf, hk⟩
  ·cases h
 ·cases h
def oG (ti : TypeId -> Option TI) (H : AH) (t : TypeId) (s x : AV) : EV := match ti t with
 | some ⟨.sl e, _, _, _⟩ => match ti e with
  | some ⟨_, sz + 1, by_, _⟩ => match s with
   | .p (.list true []) => rR H e (sz + 1) by_ none true [] x
   | .buf id => match H[id]? with
    | some (some (.buf e' nl xs)) => match Nat.beq e e' with
     | true => rR H e (sz + 1) by_ (some id) nl xs x
     | false => none
    | _ => none
   | .cap _ xs => match om H e (sz + 1) x with
    | some ys => match (xs.all fun x => Nat.beq x.cells.length (sz + 1)) && (Nat.blt 0 ys.length && oB (xs ++ ys).length by_) with
     | true => some (.buf H.length, H ++ [some (.buf e false (xs ++ ys))])
     | false => none
    | none => none
   | .sub id lo hi => match H[id]? with
    | some (some (.buf e' _ xs)) => match Nat.beq e e' with
     | true => match om H e (sz + 1) x with
      | some ys => match Nat.beq hi xs.length && (Nat.ble lo xs.length && (Nat.blt 0 ys.length && oB (xs.length + ys.length) by_)) with
       | true => none
       | false => none
      | none => none
     | false => none
    | _ => none
   | _ => none
  | _ => none
 | _ => none
theorem oF {t : TypeId} {s x v : AV} {H' : AH} {k : AV -> AH -> Prop} (h : oG ti H t s x = some (v, H')) (hk : k v H') : gL ti H t s x k := by
 unfold oG at h; unfold gL
 split at h
 ·rename_i hi
  simp only [hi]
  split at h
  ·rename_i hie
   simp only [hie]
   split at h
   ·exact kH h hk
   ·split at h
    ·rename_i hc
     simp only [hc]
     split at h
     ·rename_i hb
      simp only [hb]
      exact .own (kH h hk)
     ·cases h
    ·cases h
   ·split at h
    ·rename_i hs
     split at h
     ·rename_i hd
      injection h with h; injection h with h1 h2; subst h1; subst h2
      simp only [Bool.and_eq_true] at hd
      have h0 := Nat.le_of_ble_eq_true hd.2.1
      exact mf hs ⟨gw hd.1, ⟨h0, h0⟩, _, rfl, mg hd.2.2, hk⟩
     ·cases h
    ·cases h
   ·split at h
    ·split at h
     ·split at h
      ·split at h <;> cases h
      ·cases h
     ·cases h
    ·cases h
   ·cases h
  ·cases h
 ·cases h
def u_ (ti : TypeId -> Option TI) (H : AH) (t t' : TypeId) (s x : AV) : EV := match s, asI x, ti t, ti t' with
 | .p (.list true []), some n, some ⟨.sl e, _, _, _⟩, some ⟨.int _, _, _, _⟩ => match ti e with
  | some ⟨_, _ + 1, by_, z⟩ => match decide (0 < n /\ n * (by_ : Int) <= 281474976710656 /\ n <= 4611686018427387904) with
   | true => some (.buf H.length, H ++ [some (.buf e false (List.replicate n.toNat (pz z)))])
   | false => none
  | _ => none
 | _, _, _, _ => none
theorem rQ {t t' : TypeId} {s x v : AV} {H' : AH} {k : AV -> AH -> Prop} (h : u_ ti H t t' s x = some (v, H')) (hk : k v H') : mV ti H t t' s x k := by
 unfold u_ at h; unfold mV
 split at h
 ·rename_i h1 h2 h3
  simp only [h1, h2, h3]
  split at h
  ·rename_i h4
   simp only [h4]
   split at h
   ·rename_i hd
    injection h with h; injection h with h1 h2; subst h1; subst h2
    exact ⟨of_decide_eq_true hd, _, rfl, hk⟩
   ·cases h
  ·cases h
 ·cases h
def wm (H : AH) (e : TypeId) (x : AV) : Option (Nat × Bool × List PV × Nat × Nat) := match x with
 | .buf id => match H[id]? with
  | some (some (.buf e2 nl xs)) => match Nat.beq e e2 with
   | true => some (id, nl, xs, 0, xs.length)
   | false => none
  | _ => none
 | .sub id lo hi => match H[id]? with
  | some (some (.buf e2 nl xs)) => match Nat.beq e e2 with
   | true => some (id, nl, xs, lo, hi)
   | false => none
  | _ => none
 | _ => none
theorem mh {e : TypeId} {x : AV} {r : Nat × Bool × List PV × Nat × Nat} {k : Nat -> Bool -> List PV -> Nat -> Nat -> Prop} (h : wm H e x = some r) (hk : k r.1 r.2.1 r.2.2.1 r.2.2.2.1 r.2.2.2.2) : pW H e x k := by
 unfold wm at h; unfold pW
 split at h
 ·split at h
  ·rename_i hc
   simp only [hc]
   split at h
   ·rename_i hb
    simp only [hb]
    injection h with h; subst h
    exact hk
   ·cases h
  ·cases h
 ·split at h
  ·rename_i hc
   simp only [hc]
   split at h
   ·rename_i hb
    simp only [hb]
    injection h with h; subst h
    exact hk
   ·cases h
  ·cases h
 ·cases h
def u6 (ti : TypeId -> Option TI) (H : AH) (t : TypeId) (x y : AV) : EV := match ti t with
 | some ⟨.sl e, _, _, _⟩ => match ti e with
  | some ⟨_, sz + 1, _, _⟩ => match wm H e x, u2 H e (sz + 1) y with
   | some (id, nl, xs, lo, hi), some ys => some (.p (.v (.int .i64 (min (hi - lo) ys.length : Nat))), H.set id (some (.buf e nl (xs.take lo ++ ys.take (min (hi - lo) ys.length) ++ xs.drop (lo + min (hi - lo) ys.length)))))
   | _, _ => none
  | _ => none
 | _ => none
theorem rG {t : TypeId} {x y v : AV} {H' : AH} {k : AV -> AH -> Prop} (h : u6 ti H t x y = some (v, H')) (hk : k v H') : mT ti H t x y k := by
 unfold u6 at h; unfold mT
 split at h
 ·rename_i hi
  simp only [hi]
  split at h
  ·rename_i hie
   simp only [hie]
   split at h
   ·rename_i hd hs
    injection h with h; injection h with h1 h2; subst h1; subst h2
    exact mh hd (rr hs ⟨_, _, rfl, rfl, hk⟩)
   ·cases h
  ·cases h
 ·cases h
def rH (ti : TypeId -> Option TI) (H : AH) (t : TypeId) (x : AV) : EV := match ti t with
 | some ⟨.sl e, _, _, _⟩ => match ti e with
  | some ⟨_, _ + 1, _, z⟩ => match wm H e x with
   | some (id, nl, xs, lo, hi) => some (.tup [], H.set id (some (.buf e nl (xs.take lo ++ List.replicate (hi - lo) (pz z) ++ xs.drop hi))))
   | none => none
  | _ => none
 | _ => none
theorem pH {t : TypeId} {x v : AV} {H' : AH} {k : AV -> AH -> Prop} (h : rH ti H t x = some (v, H')) (hk : k v H') : jT ti H t x k := by
 unfold rH at h; unfold jT
 split at h
 ·rename_i hi
  simp only [hi]
  split at h
  ·rename_i hie
   simp only [hie]
   split at h
   ·rename_i hd
    injection h with h; injection h with h1 h2; subst h1; subst h2
    exact mh hd ⟨_, rfl, hk⟩
   ·cases h
  ·cases h
 ·cases h
def lp (d : TypeDesc) (x : Value) : Bool := match d, x with
 | .bool, .bool _ => true
 | .int k, .int k' _ => gQ k' k
 | .string, .string _ => true
 | _, _ => false
theorem eb {d : TypeDesc} {x : Value} (h : lp d x = true) : MapKept.IsKey d x := by
 unfold lp at h; unfold MapKept.IsKey
 split at h
 ·trivial
 ·exact p6 h
 ·trivial
 ·cases h
def qh : Value -> Value -> Bool
 | .int _ a, .int _ b => a != b
 | .bool a, .bool b => a != b
 | .string a, .string b => !(a.data.toList == b.data.toList)
 | _, _ => false
theorem ki {a b : Value} (h : qh a b = true) : a ≠ b := by
 rintro rfl
 unfold qh at h
 split at h
 ·simp at h
 ·simp at h
 ·simp at h
 ·cases h
def rD (key : Value) : List (Value × Value) -> Option (Option Value)
 | [] => some none
 | (k, v) :: r => match eqV k key with
  | true => match r.all fun e => qh e.1 key with
   | true => some (some v)
   | false => none
  | false => match qh k key with
   | true => rD key r
   | false => none
theorem kC {key : Value} : ∀ {es : List (Value × Value)} {r : Option Value}, rD key es = some r -> pR key es r
 | [], r, h => by
  injection h with h; subst h
  exact fun e he => by cases he
 | (k, v) :: es, r, h => by
  unfold rD at h
  split at h
  ·rename_i hk
   split at h
   ·rename_i ha
    injection h with h; subst h
    have hk := oH hk
    refine ⟨⟨_, List.mem_cons_self .., hk⟩, fun e he h1 => ?_⟩
    rcases List.mem_cons.1 he with rfl | he
    ·rfl
    ·exact absurd h1 (ki (List.all_eq_true.1 ha e he))
   ·cases h
  ·split at h
   ·rename_i hn
    have hn := ki hn
    have ih := kC h
    cases r with
    | none =>
     intro e he
     rcases List.mem_cons.1 he with rfl | he
     ·exact hn
     ·exact ih e he
    | some x =>
     obtain ⟨⟨e, he, h1⟩, h2⟩ := ih
     refine ⟨⟨e, List.mem_cons_of_mem _ he, h1⟩, fun e he h1 => ?_⟩
     rcases List.mem_cons.1 he with rfl | he
     ·exact absurd h1 hn
     ·exact h2 e he h1
   ·cases h
def Bn : List Value -> List Value -> Bool
 | [], [] => true
 | x :: xs, y :: ys => eqV x y && Bn xs ys
 | _, _ => false
theorem wo : ∀ {a b : List Value}, Bn a b = true -> a = b
 | [], [], _ => rfl
 | x :: xs, y :: ys, h => by
  simp only [Bn, Bool.and_eq_true] at h
  rw [oH h.1, wo h.2]
 | [], _ :: _, h => by cases h
 | _ :: _, [], h => by cases h
def A5 : List Value -> List Value -> Bool
 | x :: xs, y :: ys => qh x y || A5 xs ys
 | _, _ => false
theorem vS : ∀ {a b : List Value}, A5 a b = true -> a ≠ b
 | x :: xs, y :: ys, h => by
  simp only [A5, Bool.or_eq_true] at h
  intro he
  injection he with h1 h2
  rcases h with h | h
  ·exact ki h h1
  ·exact vS h h2
 | [], _, h => by cases h
 | _ :: _, [], h => by cases h
def u3 (ti : TypeId -> Option TI) (fs : List (TypeId × Nat)) (cs : List PV) (x : Value) : Option Bool := match x with
 | .agg vs => match jD ti fs cs (vs.toList.map .v), vs.toList.all (·.oneCell') with
  | some true, true => match Bn vs.toList (ca cs) with
   | true => some true
   | false => none
  | some false, true => match A5 vs.toList (ca cs) with
   | true => some false
   | false => none
  | _, _ => none
 | _ => none
theorem iz : ∀ (l : List Value), ca (l.map .v) = l /\ tP (l.map .v) = true
 | [] => ⟨rfl, rfl⟩
 | x :: r => by simp [ca, tP, iz r]
theorem kz {fs : List (TypeId × Nat)} {cs : List PV} {x : Value} {b : Bool} (h : u3 ti fs cs x = some b) : BB ti fs cs x /\ (b = true ↔ x = cP cs) := by
 unfold u3 at h
 split at h
 ·rename_i vs
  have hx : Value.agg vs = cP (vs.toList.map .v) := by unfold cP; rw [(iz _).1]
  split at h
  ·rename_i h1 h2
   split at h
   ·rename_i h3
    injection h with h; subst h
    have he : Value.agg vs = cP cs := by unfold cP; rw [<- wo h3]
    refine ⟨⟨_, true, ?_, hx, by rw [<- eo]; exact h1, by simp [he]⟩, by simp [he]⟩
    unfold my
    rw [(iz _).1, (iz _).2, h2]
    rfl
   ·cases h
  ·rename_i h1 h2
   split at h
   ·rename_i h3
    injection h with h; subst h
    have he : Value.agg vs ≠ cP cs := by
     unfold cP
     intro he
     injection he with he
     exact vS h3 (by rw [he])
    refine ⟨⟨_, false, ?_, hx, by rw [<- eo]; exact h1, by simp [he]⟩, by simp [he]⟩
    unfold my
    rw [(iz _).1, (iz _).2, h2]
    rfl
   ·cases h
  ·cases h
 ·cases h
def kD (ti : TypeId -> Option TI) (fs : List (TypeId × Nat)) (cs : List PV) : List (Value × Value) -> Option (Option Value)
 | [] => some none
 | (k, v) :: r => match u3 ti fs cs k, kD ti fs cs r with
  | some true, some none => some (some v)
  | some false, some x => some x
  | _, _ => none
theorem dw {fs : List (TypeId × Nat)} {cs : List PV} : ∀ {es : List (Value × Value)} {r : Option Value}, kD ti fs cs es = some r -> pR (cP cs) es r /\ ∀ e ∈ es, BB ti fs cs e.1
 | [], r, h => by
  injection h with h; subst h
  exact ⟨fun e he => (by cases he), fun e he => (by cases he)⟩
 | (k, v) :: es, r, h => by
  unfold kD at h
  split at h
  ·rename_i h1 h2
   injection h with h; subst h
   obtain ⟨g1, g2⟩ := kz h1
   obtain ⟨g3, g4⟩ := dw h2
   refine ⟨⟨⟨_, List.mem_cons_self .., g2.1 rfl⟩, fun e he h5 => ?_⟩, fun e he => ?_⟩
   ·rcases List.mem_cons.1 he with rfl | he
    ·rfl
    ·exact absurd h5 (g3 e he)
   ·rcases List.mem_cons.1 he with rfl | he
    ·exact g1
    ·exact g4 e he
  ·rename_i h1 h2
   injection h with h; subst h
   obtain ⟨g1, g2⟩ := kz h1
   obtain ⟨g3, g4⟩ := dw h2
   have hne : k ≠ cP cs := fun e => by cases g2.2 e
   refine ⟨?_, fun e he => ?_⟩
   ·rename_i x
    cases x with
    | none =>
     intro e he
     rcases List.mem_cons.1 he with rfl | he
     ·exact hne
     ·exact g3 e he
    | some x =>
     obtain ⟨⟨e, he, h5⟩, h6⟩ := g3
     refine ⟨⟨e, List.mem_cons_of_mem _ he, h5⟩, fun e he h5 => ?_⟩
     rcases List.mem_cons.1 he with rfl | he
     ·exact absurd h5 hne
     ·exact h6 e he h5
   ·rcases List.mem_cons.1 he with rfl | he
    ·exact g1
    ·exact g4 e he
  ·cases h
def oA (ti : TypeId -> Option TI) (H : AH) (t : TypeId) (ok : Bool) (x ix : AV) : Option AV := match x, ix, ti t with
 | .mp id, .p (.v kv), some ⟨.map kt et, _, _, _⟩ => match ti kt, ti et, H[id]? with
  | some ⟨tk, _, _, _⟩, some ⟨_, _, _, z⟩, some (some (.map es)) => match yn tk, z.oneCell', rD kv es with
   | some d, true, some r => match lp d kv && es.all fun e => lp d e.1 with
    | true => match ok with
     | false => some (.p (.v (r.getD z)))
     | true => some (.tup [.p (.v (r.getD z)), .p (.v (.bool r.isSome))])
    | false => none
   | _, _, _ => none
  | _, _, _ => none
 | .mp id, .p (.agg cs), some ⟨.map kt et, _, _, _⟩ => match ti kt, ti et, H[id]? with
  | some ⟨.st fs, _, _, _⟩, some ⟨_, _, _, z⟩, some (some (.map es)) => match z.oneCell' && my cs, jD ti fs cs cs, kD ti fs cs es with
   | true, some _, some r => match ok with
    | false => some (.p (.v (r.getD z)))
    | true => some (.tup [.p (.v (r.getD z)), .p (.v (.bool r.isSome))])
   | _, _, _ => none
  | _, _, _ => none
 | _, _, _ => none
theorem oz {t : TypeId} {ok : Bool} {x ix v : AV} {k : AV -> Prop} (h : oA ti H t ok x ix = some v) (hk : k v) : gJ ti H t ok x ix k := by
 unfold oA at h; unfold gJ
 split at h
 ·rename_i hi
  simp only [hi]
  split at h
  ·rename_i h1 h2 h3
   simp only [h1, h2, h3]
   split at h
   ·rename_i h4 h5 h6
    simp only [h4, h5]
    split at h
    ·rename_i hd
     simp only [Bool.and_eq_true] at hd
     refine ⟨_, eb hd.1, fun e he => eb (List.all_eq_true.1 hd.2 e he), kC h6, ?_⟩
     split at h
     ·injection h with h; subst h; exact hk
     ·injection h with h; subst h; exact hk
    ·cases h
   ·cases h
  ·cases h
 ·rename_i hi
  simp only [hi]
  split at h
  ·rename_i h1 h2 h3
   simp only [h1, h2, h3]
   split at h
   ·rename_i h4 h5 h6
    simp only [Bool.and_eq_true] at h4
    simp only [h4.1]
    obtain ⟨g1, g2⟩ := dw h6
    refine ⟨_, _, h4.2, by rw [<- eo]; exact h5, g2, g1, ?_⟩
    split at h
    ·injection h with h; subst h; exact hk
    ·injection h with h; subst h; exact hk
   ·cases h
  ·cases h
 ·cases h
def fj (ti : TypeId -> Option TI) (H : AH) (t : TypeId) (x ix v : AV) : EV := match x, ix, v, ti t with
 | .mp id, .p (.v kv), .p (.v vv), some ⟨.map kt _, _, _, _⟩ => match ti kt, H[id]? with
  | some ⟨tk, _, _, _⟩, some (some (.map es)) => match yn tk with
   | some d => match lp d kv && es.all fun e => lp d e.1 && qh e.1 kv with
    | true => some (.dead, H.set id (some (.map (es ++ [(kv, vv)]))))
    | false => none
   | none => none
  | _, _ => none
 | .mp id, .p (.agg cs), .p (.v vv), some ⟨.map kt _, _, _, _⟩ => match ti kt, H[id]? with
  | some ⟨.st fs, _, _, _⟩, some (some (.map es)) => match my cs, jD ti fs cs cs, kD ti fs cs es with
   | true, some _, some none => some (.dead, H.set id (some (.map (es ++ [(cP cs, vv)]))))
   | _, _, _ => none
  | _, _ => none
 | _, _, _, _ => none
theorem fi {t : TypeId} {x ix v r : AV} {H' : AH} {k : AV -> AH -> Prop} (h : fj ti H t x ix v = some (r, H')) (hk : k r H') : cF ti H t x ix v k := by
 unfold fj at h; unfold cF
 split at h
 ·rename_i hi
  simp only [hi]
  split at h
  ·rename_i h1 h2
   simp only [h1, h2]
   split at h
   ·rename_i h3
    simp only [h3]
    split at h
    ·rename_i hd
     injection h with h; injection h with h4 h5; subst h4; subst h5
     simp only [Bool.and_eq_true] at hd
     have ha := fun e he => Bool.and_eq_true _ _ ▸ List.all_eq_true.1 hd.2 e he
     exact ⟨eb hd.1, fun e he => eb (ha e he).1, fun e he => ki (ha e he).2, hk⟩
    ·cases h
   ·cases h
  ·cases h
 ·rename_i hi
  simp only [hi]
  split at h
  ·rename_i h1 h2
   simp only [h1, h2]
   split at h
   ·rename_i h3 h4 h5
    injection h with h; injection h with h6 h7; subst h6; subst h7
    obtain ⟨g1, g2⟩ := dw h5
    exact ⟨_, _, h3, by rw [<- eo]; exact h4, g2, g1, rfl, hk⟩
   ·cases h
  ·cases h
 ·cases h
def nL : List PV -> Option (List Int)
 | [] => some []
 | .v (.int .u8 n) :: r => match nL r with
  | some l => some (n :: l)
  | none => none
 | _ :: _ => none
theorem lb : ∀ {xs : List PV} {ns : List Int}, nL xs = some ns -> xs = ns.map fun n => .v (.int .u8 n)
 | [], ns, h => by injection h with h; subst h; rfl
 | x :: r, ns, h => by
  unfold nL at h
  split at h
  ·rename_i h0; cases h0
  ·rename_i he
   injection he with h1 h2
   subst h1; subst h2
   split at h
   ·rename_i hl
    injection h with h; subst h
    rw [List.map_cons, lb hl]
   ·cases h
  ·cases h
def mK (ti : TypeId -> Option TI) (H : AH) (src dst : TypeId) (x : AV) : Option AV := match x with
 | .buf id => match ti src, ti dst, H[id]? with
  | some ⟨.sl e, _, _, _⟩, some ⟨.str, _, _, _⟩, some (some (.buf e' _ xs)) => match ti e, Nat.beq e e' with
   | some ⟨.int .u8, _, _, _⟩, true => match nL xs with
    | some ns => some (.p (.v (.string (c_ ns))))
    | none => none
   | _, _ => none
  | _, _, _ => none
 | .p (.list nl xs) => match vg ti src dst with
  | true => match nL xs with
   | some ns => some (.p (.v (.string (c_ ns))))
   | none => none
  | false => oD ti src dst (.p (.list nl xs))
 | x => oD ti src dst x
theorem pG {s d : TypeId} {x v : AV} {k : AV -> Prop} (h : mK ti H s d x = some v) (hk : k v) : iy ti H s d x k := by
 cases x with
 | buf id =>
  unfold mK at h; unfold iy
  simp only at h ⊢
  split at h
  ·rename_i h1 h2 h3
   simp only [h1, h2, h3]
   split at h
   ·rename_i h4 h5
    simp only [h4, h5]
    split at h
    ·rename_i h6
     injection h with h; subst h
     exact ⟨_, lb h6, hk⟩
    ·cases h
   ·cases h
  ·cases h
 | p y =>
  cases y with
  | list nl xs =>
   unfold mK at h; unfold iy
   simp only at h ⊢
   split at h
   ·rename_i h1
    simp only [h1]
    split at h
    ·rename_i h6
     injection h with h; subst h
     exact ⟨_, lb h6, hk⟩
    ·cases h
   ·rename_i h1
    simp only [h1]
    exact ef (ti := ti) h hk
  | _ => exact ef (ti := ti) h hk
 | _ => exact ef (ti := ti) h hk
def z6 (ti : TypeId -> Option TI) (H : AH) (t : TypeId) (x : AV) (lo hi mx : Option AV) : EV := match mI ti H t x lo hi mx with
 | some v => some (v, H)
 | none => none
theorem gk {t : TypeId} {x v : AV} {lo hi mx : Option AV} {H' : AH} {k : AV -> AH -> Prop} (h : z6 ti H t x lo hi mx = some (v, H')) (hk : k v H') : dn ti H t x lo hi mx fun v => k v H := by
 unfold z6 at h
 split at h
 ·rename_i hs
  injection h with h; injection h with h5 h6; subst h5; subst h6
  exact i_ hs hk
 ·cases h
def kG (ti : TypeId -> Option TI) (H : AH) (t : TypeId) (x : AV) (lo hi mx : Option AV) : EV := match x with
 | .ptr id off => match off, ti t, lo, hi, mx with
  | 0, some ⟨.ar n e, _, _, _⟩, none, some h, none => match H[id]?, asI h, ti e with
   | some (some (.arr xs)), some h, some ⟨_, 1, _, _⟩ => match decide (0 <= h /\ h <= n /\ n <= 65536) && Nat.beq xs.length n with
    | true => some (.p (.list false (xs.take h.toNat)), H.set id none)
    | false => none
   | _, _, _ => none
  | _, _, _, _, _ => none
 | .p y => match y, mx with
  | .list nl xs, some m => match lo, hi, ti t with
   | none, some h, some ⟨.sl e, _, _, _⟩ => match asI h, asI m, ti e with
    | some h, some m, some _ => match decide (h = m /\ 0 <= h /\ h <= (xs.length : Int)) with
     | true => some (.cap nl (xs.take h.toNat), H)
     | false => none
    | _, _, _ => none
   | _, _, _ => none
  | y, none => z6 ti H t (.p y) lo hi none
  | _, _ => none
 | .buf id => z6 ti H t (.buf id) lo hi mx
 | .sub id a b => z6 ti H t (.sub id a b) lo hi mx
 | _ => none
theorem oC {t : TypeId} {x v : AV} {lo hi mx : Option AV} {H' : AH} {k : AV -> AH -> Prop} (h : kG ti H t x lo hi mx = some (v, H')) (hk : k v H') : ew ti H t x lo hi mx k := by
 cases x with
 | ptr id off =>
  unfold kG at h
  simp only at h
  split at h
  ·rename_i h1
   unfold ew
   simp only [h1]
   split at h
   ·rename_i h2 h3 h4
    simp only [h2, h3, h4]
    split at h
    ·rename_i hd
     injection h with h; injection h with h5 h6; subst h5; subst h6
     simp only [Bool.and_eq_true] at hd
     exact ⟨of_decide_eq_true hd.1, Nat.eq_of_beq_eq_true hd.2, hk⟩
    ·cases h
   ·cases h
  ·cases h
 | p y =>
  unfold kG at h
  simp only at h
  split at h
  ·split at h
   ·rename_i h1
    unfold ew
    simp only [h1]
    split at h
    ·rename_i h2 h3 h4
     simp only [h2, h3, h4]
     split at h
     ·rename_i hd
      injection h with h; injection h with h5 h6; subst h5; subst h6
      exact ⟨of_decide_eq_true hd, _, rfl, hk⟩
     ·cases h
    ·cases h
   ·cases h
  ·cases y with
   | list nl xs =>
    unfold ew
    cases lo <;> cases hi <;> exact gk h hk
   | _ => exact gk h hk
  ·cases h
 | buf id => exact .part (gk h hk)
 | sub id a b => exact gk h hk
 | _ => cases h
end
end Go.Abs
namespace Go.Abs
open Go.RowKit
inductive Fr where
 | leaf
 | node (x : AV) (l r : Fr)
def Fr.get : Fr -> Nat -> AV
 | .leaf, _ => .dead
 | .node x l r, i => match Nat.beq i 0 with
  | true => x
  | false => match Nat.beq (i % 2) 1 with
   | true => l.get (i / 2)
   | false => r.get (i / 2 - 1)
def Fr.has : Fr -> Nat -> Bool
 | .leaf, _ => false
 | .node _ l r, i => match Nat.beq i 0 with
  | true => true
  | false => match Nat.beq (i % 2) 1 with
   | true => l.has (i / 2)
   | false => r.has (i / 2 - 1)
def Fr.set : Fr -> Nat -> AV -> Fr
 | .leaf, _, _ => .leaf
 | .node x l r, i, v => match Nat.beq i 0 with
  | true => .node v l r
  | false => match Nat.beq (i % 2) 1 with
   | true => .node x (l.set (i / 2) v) r
   | false => .node x l (r.set (i / 2 - 1) v)
def Fr.of : Nat -> (Nat -> AV) -> Fr
 | 0, _ => .leaf
 | d + 1, f => .node (f 0) (Fr.of d fun i => f (2 * i + 1)) (Fr.of d fun i => f (2 * i + 2))
theorem je {a b : Nat} (h : Nat.beq a b = false) : a ≠ b := fun e => by rw [e, Nat.beq_refl] at h; cases h
theorem Fr.rm : ∀ {t : Fr} {i : Nat} {v : AV}, t.has i = true -> (t.set i v).get = aM t.get i v
 | .leaf, i, v, h => by cases h
 | .node x l r, i, v, h => by
  funext j
  unfold Fr.has at h
  unfold Fr.set aM
  cases hi : Nat.beq i 0 with
  | true =>
   have hi := Nat.eq_of_beq_eq_true hi
   subst hi
   cases hj : Nat.beq j 0 with
   | true => simp only [Fr.get, hj]
   | false => simp only [Fr.get, hj]
  | false =>
   have hi0 := je hi
   simp only [hi] at h
   cases hp : Nat.beq (i % 2) 1 with
   | true =>
    have hp1 := Nat.eq_of_beq_eq_true hp
    simp only [hp] at h
    simp only [Fr.get]
    cases hj : Nat.beq j 0 with
    | true =>
     have hj := Nat.eq_of_beq_eq_true hj
     subst hj
     cases h2 : Nat.beq 0 i with
     | true => exact absurd (Nat.eq_of_beq_eq_true h2).symm hi0
     | false => simp only
    | false =>
     have hj0 := je hj
     cases hq : Nat.beq (j % 2) 1 with
     | true =>
      have hq1 := Nat.eq_of_beq_eq_true hq
      simp only [Fr.rm h, aM]
      cases h2 : Nat.beq j i with
      | true => rw [Nat.eq_of_beq_eq_true h2, Nat.beq_refl]
      | false =>
       have := je h2
       cases h3 : Nat.beq (j / 2) (i / 2) with
       | true => exact absurd (Nat.eq_of_beq_eq_true h3) (by omega)
       | false => rfl
     | false =>
      have hq1 := je hq
      simp only
      cases h2 : Nat.beq j i with
      | true => exact absurd (Nat.eq_of_beq_eq_true h2) (by intro e; subst e; exact hq1 hp1)
      | false => rfl
   | false =>
    have hp1 := je hp
    simp only [hp] at h
    simp only [Fr.get]
    cases hj : Nat.beq j 0 with
    | true =>
     have hj := Nat.eq_of_beq_eq_true hj
     subst hj
     cases h2 : Nat.beq 0 i with
     | true => exact absurd (Nat.eq_of_beq_eq_true h2).symm hi0
     | false => simp only
    | false =>
     have hj0 := je hj
     cases hq : Nat.beq (j % 2) 1 with
     | true =>
      have hq1 := Nat.eq_of_beq_eq_true hq
      simp only
      cases h2 : Nat.beq j i with
      | true => exact absurd (Nat.eq_of_beq_eq_true h2) (by intro e; subst e; exact hp1 hq1)
      | false => rfl
     | false =>
      have hq1 := je hq
      simp only [Fr.rm h, aM]
      cases h2 : Nat.beq j i with
      | true => rw [Nat.eq_of_beq_eq_true h2, Nat.beq_refl]
      | false =>
       have := je h2
       cases h3 : Nat.beq (j / 2 - 1) (i / 2 - 1) with
       | true => exact absurd (Nat.eq_of_beq_eq_true h3) (by omega)
       | false => rfl
theorem Fr.uY : ∀ {d : Nat} {f : Nat -> AV} {i : Nat}, (Fr.of d f).get i = f i \/ (Fr.of d f).has i = false /\ (Fr.of d f).get i = .dead
 | 0, f, i => .inr ⟨rfl, rfl⟩
 | d + 1, f, i => by
  unfold Fr.of Fr.get Fr.has
  cases hi : Nat.beq i 0 with
  | true => rw [Nat.eq_of_beq_eq_true hi]; exact .inl rfl
  | false =>
   have hi0 := je hi
   cases hp : Nat.beq (i % 2) 1 with
   | true =>
    have hp1 := Nat.eq_of_beq_eq_true hp
    have := Fr.uY (d := d) (f := fun i => f (2 * i + 1)) (i := i / 2)
    simp only at this ⊢
    rwa [show 2 * (i / 2) + 1 = i by omega] at this
   | false =>
    have hp1 := je hp
    have := Fr.uY (d := d) (f := fun i => f (2 * i + 2)) (i := i / 2 - 1)
    simp only at this ⊢
    rwa [show 2 * (i / 2 - 1) + 2 = i by omega] at this
def hasAll (t : Fr) : Nat -> Bool
 | 0 => true
 | n + 1 => t.has n && hasAll t n
theorem oc {t : Fr} : ∀ {n i : Nat}, hasAll t n = true -> i < n -> t.has i = true
 | n + 1, i, h, hi => by
  simp only [hasAll, Bool.and_eq_true] at h
  by_cases e : i = n
  ·subst e; exact h.1
  ·exact oc h.2 (by omega)
theorem Fr.A3 {d : Nat} {args : List AV} (h : hasAll (Fr.of d (eM args)) args.length = true) : (Fr.of d (eM args)).get = eM args := by
 funext i
 rcases Fr.uY (d := d) (f := eM args) (i := i) with h1 | ⟨h1, h2⟩
 ·exact h1
 ·rw [h2]
  by_cases hi : i < args.length
  ·rw [oc h hi] at h1; cases h1
  ·unfold eM
   rw [List.getElem?_eq_none (by omega)]
def nN {α : Type} (n : Nat) (k : Nat -> α) : α := match n with
 | 0 => k 0
 | m + 1 => k (m + 1)
def nI {α : Type} (n : Int) (k : Int -> α) : α := match n with
 | .ofNat m => nN m fun m => k (.ofNat m)
 | .negSucc m => nN m fun m => k (.negSucc m)
def nB {α : Type} (b : Bool) (k : Bool -> α) : α := match b with
 | true => k true
 | false => k false
def nV {α : Type} (v : Value) (k : Value -> α) : α := match v with
 | .int kd n => nI n fun n => k (.int kd n)
 | .bool b => nB b fun b => k (.bool b)
 | x => k x
def nA {α : Type} (v : AV) (k : AV -> α) : α := match v with
 | .p (.v x) => nV x fun x => k (.p (.v x))
 | .ptr id off => nN id fun id => nN off fun off => k (.ptr id off)
 | .buf id => nN id fun id => k (.buf id)
 | .bp id i off => nN id fun id => nN i fun i => nN off fun off => k (.bp id i off)
 | .sub id lo hi => nN id fun id => nN lo fun lo => nN hi fun hi => k (.sub id lo hi)
 | x => k x
theorem BJ {α : Type} (n : Nat) (k : Nat -> α) : nN n k = k n := by cases n <;> rfl
theorem Dw {α : Type} (n : Int) (k : Int -> α) : nI n k = k n := by cases n <;> simp only [nI, BJ]
theorem Dx {α : Type} (b : Bool) (k : Bool -> α) : nB b k = k b := by cases b <;> rfl
theorem Dv {α : Type} (v : Value) (k : Value -> α) : nV v k = k v := by
 cases v <;> simp only [nV, Dw, Dx]
theorem Dy {α : Type} (v : AV) (k : AV -> α) : nA v k = k v := by
 unfold nA
 split <;> simp only [Dv, BJ]
def nH {α : Type} : AH -> (AH -> α) -> α
 | [], k => k []
 | o :: r, k => nH r fun r => k (o :: r)
theorem BK {α : Type} : ∀ (H : AH) (k : AH -> α), nH H k = k H
 | [], _ => rfl
 | o :: r, k => by unfold nH; rw [BK r]
section
variable {P : Program} {ti : TypeId -> Option TI} {H : AH}
def wk (i : TI) (H : AH) (a x : AV) : EV := match a with
 | .ptr id off => match H[id]? with
  | some (some (.cells cs)) => match x.cells.all AV.one && Nat.beq x.cells.length i.size && Nat.ble (off + i.size) cs.length with
   | true => some (.dead, H.set id (some (.cells (setAt cs off x.cells))))
   | false => none
  | some (some (.arr xs)) => match i.k.isAgg, x with
   | false, .p y => match y.one && Nat.beq i.size 1, Nat.blt off xs.length with
    | true, true => some (.dead, H.set id (some (.arr (xs.set off y))))
    | _, _ => none
   | _, _ => none
  | _ => none
 | .bp id ix off => match zx (aP H (da H x)) x, (aP H (da H x))[id]? with
  | some px, some (some (.buf e nl xs)) => match px.cells.all PV.one && Nat.beq px.cells.length i.size && Nat.blt 0 i.size, xs[ix]? with
   | true, some y => match Nat.ble (off + i.size) y.cells.length with
    | true => some (.dead, (aP H (da H x)).set id (some (.buf e nl (xs.set ix (y.setAt off px.cells)))))
    | false => none
   | _, _ => none
  | _, _ => none
 | _ => none
def tF (ie : TI) (H1 : AH) (e : TypeId) (len : Nat) (parts : List (Nat × AV)) : EV :=
 match dJ (fun j => some (j * ie.size, ie.size)) (cN ie len) parts with
 | some cs => match lG cs with
  | some ps => match ps.all PV.one && Nat.ble (len * ie.size) 16777216 && Nat.blt 0 ie.size && (ie.k.isAgg || Nat.beq ie.size 1) with
   | true => some (.buf H1.length, H1 ++ [some (.buf e false (chunk ie.k.isAgg ie.size len ps))])
   | false => none
  | none => none
 | none => none
def evE (ti : TypeId -> Option TI) (σ : AS) (H : AH) (op : Op) : EV := match op with
 | .alloc t => match ti t with
  | some i => match BS i with
   | true => some (.ptr H.length 0, H ++ [some (.arr (gH i))])
   | false => some (.ptr H.length 0, H ++ [some (.cells (zeroCells i))])
  | none => none
 | .box _ x => match (σ.ev x).cells.all AV.one with
  | true => some (.ptr H.length 0, H ++ [some (.cells (σ.ev x).cells)])
  | false => none
 | .makeSlice t l c => match ti t with
  | some ⟨.sl e, _, _, _⟩ => match ti e, asI (σ.ev l), asI (σ.ev c) with
   | some ⟨_, _ + 1, by_, z⟩, some l, some c => match decide (0 <= l /\ l <= c /\ (by_ : Int) * c <= 281474976710656 /\ c <= 9223372036854775807) with
    | true => some (.buf H.length, H ++ [some (.buf e false (List.replicate l.toNat (pz z)))])
    | false => none
   | _, _, _ => none
  | _ => none
 | .buildSlice t len parts => match ti t with
  | some ⟨.sl e, _, _, _⟩ => match ti e with
   | some ie => tF ie (aP H (parts.toList.flatMap fun p => da H (σ.ev p.2))) e len (parts.toList.map fun p => (p.1, jV (aP H (parts.toList.flatMap fun p => da H (σ.ev p.2))) (σ.ev p.2)))
   | none => none
  | _ => none
 | .store t a x => match ti t with
  | some i => wk i H (σ.ev a) (σ.ev x)
  | none => none
 | .call c => match c.callee with
  | .builtin .append => match c.args.toList, c.argTypes.toList with
   | [s, x], [t, t'] => match Nat.beq t t' with
    | true => oG ti H t (σ.ev s) (σ.ev x)
    | false => u_ ti H t t' (σ.ev s) (σ.ev x)
   | _, _ => none
  | .builtin .copy => match c.args.toList, c.argTypes.toList with
   | [x, y], [t, _] => u6 ti H t (σ.ev x) (σ.ev y)
   | _, _ => none
  | .builtin .clear => match c.args.toList, c.argTypes.toList with
   | [x], [t] => rH ti H t (σ.ev x)
   | _, _ => none
  | _ => none
 | .lookup t x ix ok => match oA ti H t ok (σ.ev x) (σ.ev ix) with
  | some v => some (v, H)
  | none => none
 | .makeMap _ r => match r with
  | none => some (.mp H.length, H ++ [some (.map [])])
  | some _ => none
 | .mapUpdate t x ix v => fj ti H t (σ.ev x) (σ.ev ix) (σ.ev v)
 | .insert t x ix v => fj ti H t (σ.ev x) (σ.ev ix) (σ.ev v)
 | .convert s d x => match mK ti H s d (σ.ev x) with
  | some v => some (v, H)
  | none => none
 | .slice t x lo hi mx => kG ti H t (σ.ev x) (lo.map σ.ev) (hi.map σ.ev) (mx.map σ.ev)
 | _ => none
theorem yu {σ : AS} {op : Op} {v : AV} {H' : AH} {k : AV -> AH -> Prop} (h : evE ti σ H op = some (v, H')) (hk : k v H') : wpE ti σ H op k := by
 unfold evE at h; unfold wpE
 split at h
 ·split at h
  ·rename_i hi
   simp only [hi]
   split at h
   ·rename_i hb
    simp only [hb]
    injection h with h; injection h with h1 h2; subst h1; subst h2
    exact hk
   ·rename_i hb
    simp only [hb]
    injection h with h; injection h with h1 h2; subst h1; subst h2
    exact hk
  ·cases h
 ·split at h
  ·rename_i hb
   simp only [hb]
   injection h with h; injection h with h1 h2; subst h1; subst h2
   exact hk
  ·cases h
 ·split at h
  ·rename_i hi
   simp only [hi]
   split at h
   ·rename_i h1 h2 h3
    simp only [h1, h2, h3]
    split at h
    ·rename_i hd
     injection h with h; injection h with h4 h5; subst h4; subst h5
     exact ⟨of_decide_eq_true hd, _, rfl, hk⟩
    ·cases h
   ·cases h
  ·cases h
 ·split at h
  ·rename_i hi
   simp only [hi]
   split at h
   ·rename_i hie
    simp only [hie]
    unfold tF at h
    split at h
    ·rename_i hf
     simp only [hf]
     split at h
     ·rename_i hp
      simp only [hp]
      split at h
      ·rename_i hd
       simp only [hd]
       injection h with h; injection h with h4 h5; subst h4; subst h5
       exact ⟨_, rfl, hk⟩
      ·cases h
     ·cases h
    ·cases h
   ·cases h
  ·cases h
 ·split at h
  ·rename_i i hi
   simp only [hi]
   unfold wk at h
   split at h
   ·rename_i ha
    simp only [ha]
    split at h
    ·rename_i hc
     simp only [hc]
     split at h
     ·rename_i hd
      simp only [hd]
      injection h with h; injection h with h4 h5; subst h4; subst h5
      exact hk
     ·cases h
    ·rename_i hc
     simp only [hc]
     split at h
     ·rename_i hg hx
      split at h
      ·rename_i h1 h2
       injection h with h; injection h with h4 h5; subst h4; subst h5
       unfold fQ
       simp only [hg, hx, h1]
       exact ⟨_, _, rfl, Nat.le_of_ble_eq_true h2, rfl, hk⟩
      ·cases h
     ·cases h
    ·cases h
   ·rename_i ha
    simp only [ha]
    split at h
    ·rename_i h1 h2
     simp only [h1, h2]
     split at h
     ·rename_i h3 h4
      simp only [h3]
      split at h
      ·rename_i h5
       injection h with h; injection h with h6 h7; subst h6; subst h7
       exact ⟨_, Int.natCast_nonneg _, h4, by simp only [h5]; exact ⟨_, rfl, hk⟩⟩
      ·cases h
     ·cases h
    ·cases h
   ·cases h
  ·cases h
 ·split at h
  ·rename_i hc
   simp only [hc]
   split at h
   ·rename_i h1 h2
    simp only [h1, h2]
    split at h
    ·rename_i hb
     simp only [hb]
     exact oF h hk
    ·rename_i hb
     simp only [hb]
     exact rQ h hk
   ·cases h
  ·rename_i hc
   simp only [hc]
   split at h
   ·rename_i h1 h2
    simp only [h1, h2]
    exact rG h hk
   ·cases h
  ·rename_i hc
   simp only [hc]
   split at h
   ·rename_i h1 h2
    simp only [h1, h2]
    exact pH h hk
   ·cases h
  ·cases h
 ·split at h
  ·rename_i hl
   injection h with h; injection h with h4 h5; subst h4; subst h5
   exact oz hl hk
  ·cases h
 ·split at h
  ·injection h with h; injection h with h4 h5; subst h4; subst h5
   exact hk
  ·cases h
 ·exact fi h hk
 ·exact fi h hk
 ·split at h
  ·rename_i hl
   injection h with h; injection h with h4 h5; subst h4; subst h5
   exact pG hl hk
  ·cases h
 ·exact oC h hk
 ·cases h
end
end Go.Abs
namespace Go.Abs
open Go.RowKit
section
variable {P : Program} {ti : TypeId -> Option TI}
abbrev CF := FuncId -> List AV -> AH -> EV
abbrev CQ := FuncId -> List AV -> AH -> Option Value
def CF.ok (P : Program) (C : CF) : Prop := ∀ f args H v H', C f args H = some (v, H') -> ∀ K : AV -> AH -> Prop, K v H' -> ab P f args H K
def CQ.ok (P : Program) (C : CQ) : Prop := ∀ f args H v, C f args H = some v -> ∀ K : AV -> Prop, K (.p (.v v)) -> gD P f args H K
def u7 (C : CF) (σ : AS) (H : AH) (op : Op) : EV := match op with
 | .call c => match c.callee with
  | .value f => match σ.ev f with
   | .clo (.func g) caps => C g (c.args.toList.map σ.ev ++ caps) H
   | _ => none
  | _ => none
 | _ => none
theorem rI {C : CF} (hC : C.ok P) {σ : AS} {H : AH} {op : Op} {v : AV} {H' : AH} {k : AV -> AH -> Prop} (h : u7 C σ H op = some (v, H')) (hk : k v H') : gK P σ H op k := by
 unfold u7 at h; unfold gK
 split at h
 ·split at h
  ·rename_i hc
   simp only [hc]
   split at h
   ·rename_i hf
    simp only [hf, di]
    exact hC _ _ _ _ _ h k hk
   ·cases h
  ·cases h
 ·cases h
def Bm (ti : TypeId -> Option TI) (C : CF) (fr : Fr) (H : AH) (op : Op) : EV := match n0 op with
 | .quiet => match evQ ti ⟨fr.get, H⟩ op with
  | some v => some (v, H)
  | none => none
 | .eff => match evE ti ⟨fr.get, H⟩ H op with
  | some (v, H') => nH H' fun H' => some (v, H')
  | none => none
 | .call => u7 C ⟨fr.get, H⟩ H op
theorem ow {C : CF} (hC : C.ok P) {fr : Fr} {H : AH} {op : Op} {v : AV} {H' : AH} {k : AV -> AH -> Prop} (h : Bm ti C fr H op = some (v, H')) (hk : k v H') : wpOp P ti fr.get H op k := by
 unfold Bm at h; unfold wpOp
 split at h
 ·rename_i ho
  simp only [ho]
  split at h
  ·rename_i hq
   injection h with h; injection h with h1 h2; subst h1; subst h2
   exact en hq hk
  ·cases h
 ·rename_i ho
  simp only [ho]
  split at h
  ·rename_i hq
   rw [BK] at h
   injection h with h; injection h with h1 h2; subst h1; subst h2
   exact yu hq hk
  ·cases h
 ·rename_i ho
  simp only [ho]
  exact rI hC h hk
def rJ (C : CQ) (σ : AS) (H : AH) (op : Op) : Option AV := match op with
 | .call c => match c.callee with
  | .value f => match σ.ev f with
   | .clo (.func g) caps => match C g (c.args.toList.map σ.ev ++ caps) H with
    | some x => some (.p (.v x))
    | none => none
   | _ => none
  | _ => none
 | _ => none
theorem pJ {C : CQ} (hC : C.ok P) {σ : AS} {H : AH} {op : Op} {v : AV} {k : AV -> Prop} (h : rJ C σ H op = some v) (hk : k v) : mE P σ H op k := by
 unfold rJ at h; unfold mE
 split at h
 ·split at h
  ·rename_i hc
   simp only [hc]
   split at h
   ·rename_i hf
    simp only [hf, di]
    split at h
    ·rename_i hx
     injection h with h; subst h
     exact hC _ _ _ _ hx k hk
    ·cases h
   ·cases h
  ·cases h
 ·cases h
def z8 (ti : TypeId -> Option TI) (C : CQ) (fr : Fr) (H : AH) (op : Op) : Option AV := match n0 op with
 | .call => rJ C ⟨fr.get, H⟩ H op
 | _ => evQ ti ⟨fr.get, H⟩ op
theorem tB {C : CQ} (hC : C.ok P) {fr : Fr} {H : AH} {op : Op} {v : AV} {k : AV -> Prop} (h : z8 ti C fr H op = some v) (hk : k v) : sm P ti true fr.get H op k := by
 unfold z8 at h; unfold sm
 cases ho : n0 op with
 | call =>
  simp only [ho] at h ⊢
  exact pJ hC h hk
 | quiet =>
  simp only [ho] at h ⊢
  exact en h hk
 | eff =>
  simp only [ho] at h ⊢
  exact en h hk
def dc (nt : Nat) (dst : Option Tmp) (fr : Fr) (v : AV) : Option Fr := match dst with
 | none => some fr
 | some d => match Nat.blt d nt && fr.has d with
  | true => nA v fun v => some (fr.set d v)
  | false => none
theorem bB {nt : Nat} {dst : Option Tmp} {fr fr' : Fr} {h : AH} {v : AV} {k : AS -> Prop} (he : dc nt dst fr v = some fr') (hk : k ⟨fr'.get, h⟩) : bG nt dst fr.get h v k := by
 unfold dc at he; unfold bG
 split at he
 ·injection he with he; subst he
  simp only [cZ]
  exact hk
 ·split at he
  ·rename_i hd
   simp only [Bool.and_eq_true] at hd
   rw [Dy] at he
   injection he with he; subst he
   simp only [hd.1, eL, cZ]
   rw [<- Fr.rm hd.2]
   exact hk
  ·cases he
theorem fW {fr : Nat -> AV} {d : Nat} {x : AV} (h : fr d = x) : aM fr d x = fr := by
 funext s
 unfold aM
 cases hb : Nat.beq s d with
 | true => rw [Nat.eq_of_beq_eq_true hb, h]
 | false => rfl
def ee (ops : List Oper) (g : Option (Nat × Bool)) (fr : Fr) : Option Bool := match g with
 | none => some true
 | some (j, want) => match ops[j]? with
  | some oj => match oj.dst with
   | some d => match fr.get d with
    | .p (.v (.bool b)) => match want with
     | true => some b
     | false => some (!b)
    | .tup [] => some false
    | _ => none
   | none => none
  | none => none
theorem bg {ops : List Oper} {g : Option (Nat × Bool)} {fr : Fr} {b : Bool} {yes no : (Nat -> AV) -> Prop} (h : ee ops g fr = some b) (hy : b = true -> yes fr.get) (hn : b = false -> no fr.get) : bM ops g fr.get yes no := by
 unfold ee at h; unfold bM
 split at h
 ·injection h with h; subst h
  exact hy rfl
 ·split at h
  ·rename_i ho
   simp only [ho]
   split at h
   ·rename_i hd
    simp only [hd]
    split at h
    ·rename_i b0 hf
     simp only [hf]
     split at h
     ·injection h with h; subst h
      unfold br
      cases b0 with
      | true => simp only; rw [fW hf]; exact hy rfl
      | false => simp only; rw [fW hf]; exact hn rfl
     ·injection h with h; subst h
      unfold br
      cases b0 with
      | true => simp only; rw [fW hf]; exact hn rfl
      | false => simp only; rw [fW hf]; exact hy rfl
    ·rename_i hf
     simp only [hf]
     injection h with h; subst h
     exact hn rfl
    ·cases h
   ·cases h
  ·cases h
abbrev ER := Option (Fr × AH)
def tA (ti : TypeId -> Option TI) (C : CF) (nt : Nat) (ops : List Oper) : List Oper -> Fr -> AH -> ER
 | [], fr, H => some (fr, H)
 | o :: rest, fr, H => match ee ops o.guard fr with
  | some true => match Bm ti C fr H o.op with
   | some (v, H') => match dc nt o.dst fr v with
    | some fr' => tA ti C nt ops rest fr' H'
    | none => none
   | none => none
  | some false => match dc nt o.dst fr (.tup []) with
   | some fr' => tA ti C nt ops rest fr' H
   | none => none
  | none => none
theorem ik {C : CF} (hC : C.ok P) {nt : Nat} {ops : List Oper} {K : AS -> Prop} : ∀ {rest : List Oper} {fr fr' : Fr} {H H' : AH}, tA ti C nt ops rest fr H = some (fr', H') -> K ⟨fr'.get, H'⟩ -> wpOps P ti nt ops rest K ⟨fr.get, H⟩
 | [], fr, fr', H, H', h, hk => by
  injection h with h; injection h with h1 h2; subst h1; subst h2
  exact hk
 | o :: rest, fr, fr', H, H', h, hk => by
  unfold tA at h
  unfold wpOps
  split at h
  ·rename_i hg
   split at h
   ·rename_i v H1 ho
    split at h
    ·rename_i fr1 hp
     exact bg hg (fun _ => ow hC ho (bB hp (ik hC h hk))) (fun e => by cases e)
    ·cases h
   ·cases h
  ·rename_i hg
   split at h
   ·rename_i hp
    exact bg hg (fun e => by cases e) (fun _ => bB hp (ik hC h hk))
   ·cases h
  ·cases h
def ou (ti : TypeId -> Option TI) (C : CQ) (nt : Nat) (ops : List Oper) : List Oper -> Fr -> AH -> Option Fr
 | [], fr, _ => some fr
 | o :: rest, fr, H => match ee ops o.guard fr with
  | some true => match z8 ti C fr H o.op with
   | some v => match dc nt o.dst fr v with
    | some fr' => ou ti C nt ops rest fr' H
    | none => none
   | none => none
  | some false => match dc nt o.dst fr (.tup []) with
   | some fr' => ou ti C nt ops rest fr' H
   | none => none
  | none => none
theorem gm {C : CQ} (hC : C.ok P) {nt : Nat} {ops : List Oper} {K : AS -> Prop} : ∀ {rest : List Oper} {fr fr' : Fr} {H : AH}, ou ti C nt ops rest fr H = some fr' -> K ⟨fr'.get, H⟩ -> cz P ti nt true ops rest K ⟨fr.get, H⟩
 | [], fr, fr', H, h, hk => by
  injection h with h; subst h
  exact hk
 | o :: rest, fr, fr', H, h, hk => by
  unfold ou at h
  unfold cz
  split at h
  ·rename_i hg
   split at h
   ·rename_i v ho
    split at h
    ·rename_i fr1 hp
     exact bg hg (fun _ => tB hC ho (bB hp (gm hC h hk))) (fun e => by cases e)
    ·cases h
   ·cases h
  ·rename_i hg
   split at h
   ·rename_i hp
    exact bg hg (fun e => by cases e) (fun _ => bB hp (gm hC h hk))
   ·cases h
  ·cases h
def Ad : Fr -> Fr -> Bool
 | .leaf, .leaf => true
 | .node x l r, .node y l' r' => eqA x y && Ad l l' && Ad r r'
 | _, _ => false
theorem rS : ∀ {a b : Fr}, Ad a b = true -> a = b
 | .leaf, .leaf, _ => rfl
 | .node x l r, .node y l' r', h => by
  simp only [Ad, Bool.and_eq_true] at h
  rw [Af h.1.1, rS h.1.2, rS h.2]
 | .leaf, .node _ _ _, h => by cases h
 | .node _ _ _, .leaf, h => by cases h
def eqE : List (Value × Value) -> List (Value × Value) -> Bool
 | [], [] => true
 | (a, b) :: r, (c, d) :: s => eqV a c && eqV b d && eqE r s
 | _, _ => false
theorem Ae : ∀ {a b : List (Value × Value)}, eqE a b = true -> a = b
 | [], [], _ => rfl
 | (a, b) :: r, (c, d) :: s, h => by
  simp only [eqE, Bool.and_eq_true] at h
  rw [oH h.1.1, oH h.1.2, Ae h.2]
 | [], _ :: _, h => by cases h
 | _ :: _, [], h => by cases h
def eqO : AO -> AO -> Bool
 | .cells a, .cells b => oJ a b
 | .buf e n xs, .buf f m ys => Nat.beq e f && n == m && lq xs ys
 | .frz n xs, .frz m ys => n == m && lq xs ys
 | .map a, .map b => eqE a b
 | .arr a, .arr b => lq a b
 | .bn e xs l, .bn f ys m => Nat.beq e f && (lq xs ys && oJ l m)
 | _, _ => false
theorem Cy {a b : AO} (h : eqO a b = true) : a = b := by
 unfold eqO at h
 split at h
 ·rw [gx h]
 ·simp only [Bool.and_eq_true, beq_iff_eq] at h
  rw [Nat.eq_of_beq_eq_true h.1.1, h.1.2, dy h.2]
 ·simp only [Bool.and_eq_true, beq_iff_eq] at h
  rw [h.1, dy h.2]
 ·rw [Ae h]
 ·rw [dy h]
 ·simp only [Bool.and_eq_true] at h
  rw [Nat.eq_of_beq_eq_true h.1, dy h.2.1, gx h.2.2]
 ·cases h
def yw : AH -> AH -> Bool
 | [], [] => true
 | none :: r, none :: s => yw r s
 | some a :: r, some b :: s => eqO a b && yw r s
 | _, _ => false
theorem rT : ∀ {a b : AH}, yw a b = true -> a = b
 | [], [], _ => rfl
 | none :: r, none :: s, h => by rw [rT (show yw r s = true from h)]
 | some a :: r, some b :: s, h => by
  simp only [yw, Bool.and_eq_true] at h
  rw [Cy h.1, rT h.2]
 | [], _ :: _, h => by cases h
 | none :: _, [], h => by cases h
 | some _ :: _, [], h => by cases h
 | none :: _, some _ :: _, h => by cases h
 | some _ :: _, none :: _, h => by cases h
def yv (a b : Fr × AH) : Bool := Ad a.1 b.1 && yw a.2 b.2
theorem Bp {a b : Fr × AH} (h : yv a b = true) : a = b := by
 unfold yv at h
 simp only [Bool.and_eq_true] at h
 exact Prod.ext (rS h.1) (rT h.2)
def cy (ti : TypeId -> Option TI) (H : AH) : List Fact -> Bool
 | [] => true
 | f :: fs => match evQ ti ⟨f.fr, H⟩ f.o.op with
  | some (.p y) => eqP y f.p && cy ti H fs
  | _ => false
theorem dx {H : AH} {K : Prop} (hk : K) : ∀ {fs : List Fact}, cy ti H fs = true -> du ti H fs K
 | [], _ => hk
 | f :: fs, h => by
  unfold cy at h
  split at h
  ·rename_i hq
   simp only [Bool.and_eq_true] at h
   refine en hq ⟨by rw [vb h.1], dx hk h.2⟩
  ·cases h
def eQ (ti : TypeId -> Option TI) (C : CF) (nt : Nat) (ops : List Oper) (i : Nat) (fr : Fr) (H : AH) : ER := match ops[i]? with
 | some o => match ee ops o.guard fr with
  | some true => match Bm ti C fr H o.op with
   | some (v, H') => match dc nt o.dst fr v with
    | some fr' => some (fr', H')
    | none => none
   | none => none
  | some false => match dc nt o.dst fr (.tup []) with
   | some fr' => some (fr', H)
   | none => none
  | none => none
 | none => none
theorem gj {C : CF} (hC : C.ok P) {nt i : Nat} {ops : List Oper} {K : AS -> Prop} {fr fr' : Fr} {H H' : AH} (h : eQ ti C nt ops i fr H = some (fr', H')) (hk : K ⟨fr'.get, H'⟩) : er P ti nt ops i K ⟨fr.get, H⟩ := by
 unfold eQ at h
 unfold er
 split at h
 ·rename_i ho
  simp only [ho]
  split at h
  ·rename_i hg
   split at h
   ·rename_i v H1 ho
    split at h
    ·rename_i fr1 hp
     injection h with h; injection h with h1 h2; subst h1; subst h2
     exact bg hg (fun _ => ow hC ho (bB hp hk)) (fun e => by cases e)
    ·cases h
   ·cases h
  ·rename_i hg
   split at h
   ·rename_i hp
    injection h with h; injection h with h1 h2; subst h1; subst h2
    exact bg hg (fun e => by cases e) (fun _ => bB hp hk)
   ·cases h
  ·cases h
 ·cases h
def oo (ti : TypeId -> Option TI) (C : CF) (nt : Nat) (ops : List Oper) : Sc -> List Fact -> Fr -> AH -> ER
 | .done, _, fr, H => some (fr, H)
 | .take i k, fs, fr, H => match ops[i]? with
  | some o => match ri o.op with
   | true => none
   | false => match ee ops o.guard fr with
    | some true => match evQ ti ⟨fr.get, H⟩ o.op with
     | some v => match dc nt o.dst fr v with
      | some fr' => oo ti C nt ops k fs fr' H
      | none => none
     | none => none
    | some false => match dc nt o.dst fr (.tup []) with
     | some fr' => oo ti C nt ops k fs fr' H
     | none => none
    | none => none
  | none => none
 | .load i k, fs, fr, H => match ops[i]? with
  | some o => match o.guard with
   | none => match evQ ti ⟨fr.get, H⟩ o.op with
    | some (.p y) => match nT fr.get o y, dc nt o.dst fr (.p y) with
     | some F, some fr' => oo ti C nt ops k (F :: fs) fr' H
     | _, _ => none
    | _ => none
   | some _ => none
  | none => none
 | .frz i k, fs, fr, H => match ops[i]? with
  | some o => match ee ops o.guard fr with
   | some true => match o.op with
    | .load t x => match (AS.mk fr.get H).ev x with
     | .aN cs => match ll ti H t (.aN cs) with
      | some v => match dc nt o.dst fr v with
       | some fr' => oo ti C nt ops k fs fr' H
       | none => none
      | none => none
     | _ => none
    | _ => none
   | some false => match dc nt o.dst fr (.tup []) with
    | some fr' => oo ti C nt ops k fs fr' H
    | none => none
   | none => none
  | none => none
 | .one i k, fs, fr, H => match eQ ti C nt ops i fr H with
  | some (fr', H') => match cy ti H' fs with
   | true => oo ti C nt ops k fs fr' H'
   | false => none
  | none => none
 | .two i j k l, fs, fr, H => match eQ ti C nt ops i fr H, eQ ti C nt ops j fr H with
  | some (fr1, H1), some (fr2, H2) => match cy ti H1 fs && cy ti H2 fs with
   | true => match oo ti C nt ops k fs fr1 H1, oo ti C nt ops l fs fr2 H2 with
    | some r, some s => match yv r s with
     | true => some r
     | false => none
    | _, _ => none
   | false => none
  | _, _ => none
 | .three i j q k l p, fs, fr, H => match eQ ti C nt ops i fr H, eQ ti C nt ops j fr H, eQ ti C nt ops q fr H with
  | some (fr1, H1), some (fr2, H2), some (fr3, H3) => match cy ti H1 fs && cy ti H2 fs && cy ti H3 fs with
   | true => match oo ti C nt ops k fs fr1 H1, oo ti C nt ops l fs fr2 H2, oo ti C nt ops p fs fr3 H3 with
    | some r, some s, some t => match yv r s && yv r t with
     | true => some r
     | false => none
    | _, _, _ => none
   | false => none
  | _, _, _ => none
def s4 (c : Nat) (i : Nat) (k : Sc) : Sc := match c with
 | 0 => .take i k
 | 1 => .load i k
 | _ => .frz i k
def wj (ti : TypeId -> Option TI) (nt : Nat) (ops : List Oper) (i : Nat) (fs : List Fact) (fr : Fr) (H : AH) : Option (Nat × Fr × List Fact) := match ops[i]? with
 | some o => match ri o.op with
  | false => match ee ops o.guard fr with
   | some true => match evQ ti ⟨fr.get, H⟩ o.op with
    | some v => match dc nt o.dst fr v with
     | some fr' => some (0, fr', fs)
     | none => none
    | none => none
   | some false => match dc nt o.dst fr (.tup []) with
    | some fr' => some (0, fr', fs)
    | none => none
   | none => none
  | true => match o.op with
   | .load t x => match ee ops o.guard fr with
    | some true => match (AS.mk fr.get H).ev x with
     | .aN cs => match ll ti H t (.aN cs) with
      | some v => match dc nt o.dst fr v with
       | some fr' => some (2, fr', fs)
       | none => none
      | none => none
     | _ => match o.guard with
      | none => match evQ ti ⟨fr.get, H⟩ o.op with
       | some (.p y) => match nT fr.get o y, dc nt o.dst fr (.p y) with
        | some F, some fr' => some (1, fr', F :: fs)
        | _, _ => none
       | _ => none
      | some _ => none
    | some false => match dc nt o.dst fr (.tup []) with
     | some fr' => some (2, fr', fs)
     | none => none
    | none => none
   | _ => none
 | none => none
theorem tz {nt : Nat} {ops : List Oper} {K : AS -> Prop} {i c : Nat} {fs fs' : List Fact} {fr fr' : Fr} {H : AH} {sc : Sc} (h : wj ti nt ops i fs fr H = some (c, fr', fs')) (hk : cQ P ti nt ops sc fs' K ⟨fr'.get, H⟩) : cQ P ti nt ops (s4 c i sc) fs K ⟨fr.get, H⟩ := by
 unfold wj at h
 split at h
 ·rename_i o ho
  split at h
  ·rename_i hl
   split at h
   ·rename_i hg
    split at h
    ·rename_i hq
     split at h
     ·rename_i hp
      injection h with h; injection h with h1 h2; injection h2 with h2 h3; subst h1; subst h2; subst h3
      unfold s4 cQ
      simp only [ho, hl]
      exact bg hg (fun _ => en hq (bB hp hk)) (fun e => by cases e)
     ·cases h
    ·cases h
   ·rename_i hg
    split at h
    ·rename_i hp
     injection h with h; injection h with h1 h2; injection h2 with h2 h3; subst h1; subst h2; subst h3
     unfold s4 cQ
     simp only [ho, hl]
     exact bg hg (fun e => by cases e) (fun _ => bB hp hk)
    ·cases h
   ·cases h
  ·split at h
   ·rename_i t x hop
    split at h
    ·rename_i hg
     split at h
     ·rename_i cs hx
      split at h
      ·rename_i hl
       split at h
       ·rename_i hp
        injection h with h; injection h with h1 h2; injection h2 with h2 h3; subst h1; subst h2; subst h3
        unfold s4 cQ
        simp only [ho]
        refine bg hg (fun _ => ?_) (fun e => by cases e)
        simp only [hop, hx]
        exact gp hl (bB hp hk)
       ·cases h
      ·cases h
     ·split at h
      ·rename_i hgn
       split at h
       ·rename_i hq
        split at h
        ·rename_i hF hp
         injection h with h; injection h with h1 h2; injection h2 with h2 h3; subst h1; subst h2; subst h3
         unfold s4 cQ
         simp only [ho, hgn]
         refine en hq ?_
         simp only [hF]
         exact bB hp hk
        ·cases h
       ·cases h
      ·cases h
    ·rename_i hg
     split at h
     ·rename_i hp
      injection h with h; injection h with h1 h2; injection h2 with h2 h3; subst h1; subst h2; subst h3
      unfold s4 cQ
      simp only [ho]
      exact bg hg (fun e => by cases e) (fun _ => bB hp hk)
     ·cases h
    ·cases h
   ·cases h
 ·cases h
def kE (ti : TypeId -> Option TI) (nt : Nat) (ops : List Oper) (ls : Array Bool) (fs : List Fact) (fr : Fr) (H : AH) : List Nat -> Option (Nat × Nat × Fr × List Fact)
 | [] => none
 | i :: r => match Region.free .any ops.toArray ls i with
  | true => match wj ti nt ops i fs fr H with
   | some (c, fr', fs') => some (i, c, fr', fs')
   | none => kE ti nt ops ls fs fr H r
  | false => kE ti nt ops ls fs fr H r
theorem gq {nt : Nat} {ops : List Oper} {ls : Array Bool} {fs : List Fact} {fr : Fr} {H : AH} {i c : Nat} {fr' : Fr} {fs' : List Fact} : ∀ {r : List Nat}, kE ti nt ops ls fs fr H r = some (i, c, fr', fs') -> i ∈ r /\ Region.free .any ops.toArray ls i = true /\ wj ti nt ops i fs fr H = some (c, fr', fs')
 | [], h => by cases h
 | j :: r, h => by
  unfold kE at h
  split at h
  ·rename_i hf
   split at h
   ·rename_i ht
    injection h with h; injection h with h1 h2; injection h2 with h2 h3; injection h3 with h3 h4; subst h1; subst h2; subst h3; subst h4
    exact ⟨List.mem_cons_self .., hf, ht⟩
   ·obtain ⟨h1, h2⟩ := gq h
    exact ⟨List.mem_cons_of_mem _ h1, h2⟩
  ·obtain ⟨h1, h2⟩ := gq h
   exact ⟨List.mem_cons_of_mem _ h1, h2⟩
def iq (ti : TypeId -> Option TI) (C : CF) (nt : Nat) (ops : List Oper) : Nat -> Array Bool -> List Fact -> Fr -> AH -> ER
 | 0, ls, _, fr, H => match (Region.ready .any ops.toArray ls).isEmpty with
  | true => some (fr, H)
  | false => none
 | n + 1, ls, fs, fr, H => match Region.ready .any ops.toArray ls with
  | [] => some (fr, H)
  | i :: r => match kE ti nt ops ls fs fr H (i :: r) with
   | some (j, _, fr', fs') => iq ti C nt ops n (ls.setIfInBounds j true) fs' fr' H
   | none => match r with
    | [] => match eQ ti C nt ops i fr H with
     | some (fr', H') => match cy ti H' fs && ops[i]?.isSome with
      | true => iq ti C nt ops n (ls.setIfInBounds i true) fs fr' H'
      | false => none
     | none => none
    | [j] => match eQ ti C nt ops i fr H, eQ ti C nt ops j fr H with
     | some (fr1, H1), some (fr2, H2) => match cy ti H1 fs && cy ti H2 fs && (ops[i]?.isSome && ops[j]?.isSome) with
      | true => match iq ti C nt ops n (ls.setIfInBounds i true) fs fr1 H1, iq ti C nt ops n (ls.setIfInBounds j true) fs fr2 H2 with
       | some r, some s => match yv r s with
        | true => some r
        | false => none
       | _, _ => none
      | false => none
     | _, _ => none
    | _ => none
theorem c8 {C : CF} (hC : C.ok P) {nt : Nat} {ops : List Oper} : ∀ {n : Nat} {ls : Array Bool} {fs : List Fact} {fr : Fr} {H : AH} {r : Fr × AH}, iq ti C nt ops n ls fs fr H = some r ->
  ∃ sc, scB ops.toArray sc n ls = true /\ ∀ K : AS -> Prop, K ⟨r.1.get, r.2⟩ -> cQ P ti nt ops sc fs K ⟨fr.get, H⟩
 | 0, ls, fs, fr, H, r, h => by
  unfold iq at h
  split at h
  ·rename_i he
   injection h with h; subst h
   exact ⟨.done, by simp only [scB, he], fun K hk => hk⟩
  ·cases h
 | n + 1, ls, fs, fr, H, r, h => by
  unfold iq at h
  split at h
  ·rename_i he
   injection h with h; subst h
   exact ⟨.done, by simp only [scB, he]; rfl, fun K hk => hk⟩
  ·rename_i i r0 hr
   split at h
   ·rename_i j c fr' fs' hq
    obtain ⟨h1, h2, h3⟩ := gq hq
    obtain ⟨sc, h4, h5⟩ := c8 hC h
    refine ⟨s4 c j sc, ?_, fun K hk => tz h3 (h5 K hk)⟩
    have h6 : (Region.ready .any ops.toArray ls).contains j = true := by rw [hr]; exact List.contains_iff_mem.2 h1
    unfold s4
    split <;> simp only [scB, h6, h2, h4, Bool.and_self]
   ·split at h
    ·split at h
     ·rename_i hs
      split at h
      ·rename_i hf
       simp only [Bool.and_eq_true] at hf
       obtain ⟨sc, h4, h5⟩ := c8 hC h
       refine ⟨.one i sc, ?_, fun K hk => ?_⟩
       ·simp only [scB, hr, h4, Bool.and_true, List.getElem?_toArray, hf.2]
        exact beq_self_eq_true [i]
       ·unfold cQ
        exact gj hC hs (dx (h5 K hk) hf.1)
      ·cases h
     ·cases h
    ·rename_i j _
     split at h
     ·rename_i hs1 hs2
      split at h
      ·rename_i hf
       simp only [Bool.and_eq_true] at hf
       split at h
       ·rename_i ha hb
        split at h
        ·rename_i he
         injection h with h; subst h
         have he := Bp he
         obtain ⟨sc, h4, h5⟩ := c8 hC ha
         obtain ⟨sc2, h6, h7⟩ := c8 hC hb
         refine ⟨.two i j sc sc2, ?_, fun K hk => ?_⟩
         ·simp only [scB, hr, h4, h6, Bool.and_true, List.getElem?_toArray, hf.2.1, hf.2.2]
          exact beq_self_eq_true [i, j]
         ·unfold cQ
          exact ⟨gj hC hs1 (dx (h5 K hk) hf.1.1), gj hC hs2 (dx (h7 K (he ▸ hk)) hf.1.2)⟩
        ·cases h
       ·cases h
      ·cases h
     ·cases h
    ·cases h
def mJ (ti : TypeId -> Option TI) (C : CF) (nt : Nat) (ops : List Oper) (fr : Fr) (H : AH) : ER := match Region.noSelect ops.toArray with
 | true => iq ti C nt ops ops.length (Array.replicate ops.length false) [] fr H
 | false => none
def u5 (ti : TypeId -> Option TI) (C : CF) (Q : CQ) (nt : Nat) (ops : List Oper) (fr : Fr) (H : AH) : ER := match Region.lexB .any ops.toArray with
 | true => match ou ti Q nt ops ops fr H with
  | some fr' => some (fr', H)
  | none => mJ ti C nt ops fr H
 | false => mJ ti C nt ops fr H
theorem ja {C : CF} (hm : P.follows .mixedOrders = true) (hC : C.ok P) {nt k0 : Nat} {ops : List Oper} {K : AS -> Prop} {fr : Fr} {H : AH} {r : Fr × AH} (h : mJ ti C nt ops fr H = some r) (hk : K ⟨r.1.get, r.2⟩) : ax true P ti nt k0 ops K ⟨fr.get, H⟩ := by
 unfold mJ at h
 split at h
 ·rename_i hn
  obtain ⟨sc, h1, h2⟩ := c8 hC h
  exact .bA sc hm hn h1 (h2 K hk)
 ·cases h
theorem rF {C : CF} {Q : CQ} (hm : P.follows .mixedOrders = true) (hC : C.ok P) (hQ : Q.ok P) {nt k0 : Nat} {ops : List Oper} {K : AS -> Prop} {fr : Fr} {H : AH} {r : Fr × AH} (h : u5 ti C Q nt ops fr H = some r) (hk : K ⟨r.1.get, r.2⟩) : ax true P ti nt k0 ops K ⟨fr.get, H⟩ := by
 unfold u5 at h
 split at h
 ·rename_i hb
  split at h
  ·rename_i hq
   injection h with h; subst h
   exact .quiet hm hb (gm hQ hq hk)
  ·exact ja hm hC h hk
 ·exact ja hm hC h hk
def evC (ti : TypeId -> Option TI) (C : CF) (Q : CQ) (nt : Nat) : Nat -> Code -> Fr -> AH -> Option (Exit × Fr × AH)
 | 0, _, _, _ => none
 | n + 1, c, fr, H => match c with
  | .skip => some (.normal, fr, H)
  | .region _ ops draw => match draw with
   | true => match u5 ti C Q nt ops.toList fr H with
    | some (fr', H') => some (.normal, fr', H')
    | none => none
   | false => match tA ti C nt ops.toList ops.toList fr H with
    | some (fr', H') => some (.normal, fr', H')
    | none => none
  | .seq x y => match evC ti C Q nt n x fr H with
   | some (.normal, fr', H') => evC ti C Q nt n y fr' H'
   | r => r
  | .cond c x y => match (AS.mk fr.get H).ev c with
   | .p (.v (.bool b)) => match b with
    | true => evC ti C Q nt n x fr H
    | false => evC ti C Q nt n y fr H
   | _ => none
  | .block id c => match evC ti C Q nt n c fr H with
   | some (.exit i, fr', H') => match Nat.beq i id with
    | true => some (.normal, fr', H')
    | false => some (.exit i, fr', H')
   | r => r
  | .loop c => match evC ti C Q nt n c fr H with
   | some (.normal, fr', H') => evC ti C Q nt n (.loop c) fr' H'
   | r => r
  | .exit id => some (.exit id, fr, H)
  | .scope c => match evC ti C Q nt n c fr H with
   | some (.goto _, _, _) => none
   | r => r
  | .label _ => some (.normal, fr, H)
  | .ret => some (.ret, fr, H)
  | _ => none
theorem bL {C : CF} {Q : CQ} (hm : P.follows .mixedOrders = true) (hC : C.ok P) (hQ : Q.ok P) {nt k0 : Nat} : ∀ {n : Nat} {c : Code} {fr fr' : Fr} {H H' : AH} {e : Exit}, evC ti C Q nt n c fr H = some (e, fr', H') -> ∀ X : Exit -> AS -> Prop, X e ⟨fr'.get, H'⟩ -> wpA P ti nt k0 c X ⟨fr.get, H⟩
 | 0, c, fr, fr', H, H', e, h, X, hX => by cases h
 | n + 1, c, fr, fr', H, H', e, h, X, hX => by
  unfold evC at h
  split at h
  ·injection h with h; injection h with h1 h2; injection h2 with h2 h3; subst h1; subst h2; subst h3
   exact hX
  ·unfold wpA wpG
   split at h
   ·split at h
    ·rename_i hd
     injection h with h; injection h with h1 h2; injection h2 with h2 h3; subst h1; subst h2; subst h3
     exact rF hm hC hQ hd hX
    ·cases h
   ·split at h
    ·rename_i hd
     injection h with h; injection h with h1 h2; injection h2 with h2 h3; subst h1; subst h2; subst h3
     exact ik hC hd hX
    ·cases h
  ·unfold wpA wpG
   split at h
   ·rename_i h1
    exact bL hm hC hQ h1 _ (bL hm hC hQ h X hX)
   ·rename_i hne
    refine bL hm hC hQ h _ ?_
    cases e with
    | normal => exact (hne _ _ h).elim
    | _ => exact hX
  ·unfold wpA wpG
   split at h
   ·rename_i hb
    simp only [hb]
    refine .plain ?_
    unfold br
    split at h
    ·exact bL hm hC hQ h X hX
    ·exact bL hm hC hQ h X hX
   ·cases h
  ·unfold wpA wpG
   split at h
   ·rename_i i _ _ h1
    refine bL hm hC hQ h1 _ ?_
    unfold kr
    split at h
    ·rename_i hb
     injection h with h; injection h with h1 h2; injection h2 with h2 h3; subst h1; subst h2; subst h3
     simp only [hb]
     exact hX
    ·rename_i hb
     injection h with h; injection h with h1 h2; injection h2 with h2 h3; subst h1; subst h2; subst h3
     simp only [hb]
     exact hX
   ·rename_i hne
    refine bL hm hC hQ h _ ?_
    cases e with
    | exit i => exact (hne _ _ _ h).elim
    | _ => exact hX
  ·rename_i c
   unfold wpA wpG
   split at h
   ·rename_i h1
    refine cw.fu (bL hm hC hQ h1 _ ?_)
    have := bL (k0 := k0) hm hC hQ h X hX
    unfold wpA wpG at this
    exact this
   ·rename_i hne
    refine cw.fu (bL hm hC hQ h _ ?_)
    cases e with
    | normal => exact (hne _ _ h).elim
    | _ => exact hX
  ·injection h with h; injection h with h1 h2; injection h2 with h2 h3; subst h1; subst h2; subst h3
   exact hX
  ·unfold wpA wpG
   split at h
   ·cases h
   ·rename_i hne
    refine bL hm hC hQ h _ ?_
    cases e with
    | goto l => exact (hne _ _ _ h).elim
    | _ => exact hX
  ·injection h with h; injection h with h1 h2; injection h2 with h2 h3; subst h1; subst h2; subst h3
   exact hX
  ·injection h with h; injection h with h1 h2; injection h2 with h2 h3; subst h1; subst h2; subst h3
   exact hX
  ·cases h
end
end Go.Abs
namespace Go.Abs
open Go.RowKit
section
variable {P : Program} {ti : TypeId -> Option TI}
def qo (ti : TypeId -> Option TI) : List ResultVar -> AS -> Option (List AV)
 | [], _ => some []
 | .tmp t :: r, σ => match qo ti r σ with
  | some l => some (σ.fr t :: l)
  | none => none
 | .cell a t :: r, σ => match ll ti σ.h t (σ.fr a), qo ti r σ with
  | some x, some l => some (x :: l)
  | _, _ => none
theorem ij {σ : AS} : ∀ {rs : List ResultVar} {l : List AV}, qo ti rs σ = some l -> ∀ k : List AV -> Prop, k l -> mr ti rs σ k
 | [], l, h, k, hk => by injection h with h; subst h; exact hk
 | .tmp t :: r, l, h, k, hk => by
  unfold qo at h
  unfold mr
  rw [eL]
  split at h
  ·rename_i hr
   injection h with h; subst h
   exact ij hr _ hk
  ·cases h
 | .cell a t :: r, l, h, k, hk => by
  unfold qo at h
  unfold mr
  split at h
  ·rename_i hx hr
   injection h with h; subst h
   refine gp hx ?_
   rw [eL]
   exact ij hr _ hk
  ·cases h
def DR : Exit -> Bool
 | .normal => true
 | .ret => true
 | _ => false
def wz (n : Nat) : Nat := Nat.log2 n + 2
def DT (ti : TypeId -> Option TI) (C : CF) (Q : CQ) (fuel : Nat) (fn : Func) (args : List AV) (H : AH) : EV := match fn.body with
 | some c => match Nat.ble args.length fn.ntmps && !(fn.name == "runtime.NumGoroutine") && hasAll (Fr.of (wz fn.ntmps) (eM args)) args.length with
  | true => match evC ti C Q fn.ntmps fuel c (Fr.of (wz fn.ntmps) (eM args)) H with
   | some (e, fr', H') => match DR e with
    | true => match qo ti fn.results.toList ⟨fr'.get, H'⟩ with
     | some l => some (lN l, H')
     | none => none
    | false => none
   | none => none
  | false => none
 | none => none
def gu (P : Program) (ti : TypeId -> Option TI) (C : CF) (Q : CQ) (fuel : Nat) (f : FuncId) (args : List AV) (H : AH) : EV := match P.funcs[f]? with
 | some fn => DT ti C Q fuel fn args H
 | none => none
theorem gr {C : CF} {Q : CQ} (hT : aK P ti) (hm : P.follows .mixedOrders = true) (hC : C.ok P) (hQ : Q.ok P) {fuel : Nat} {f : FuncId} {args : List AV} {H : AH} {r : AV} {H' : AH} (h : gu P ti C Q fuel f args H = some (r, H'))
  {K : AV -> AH -> Prop} (hK : ∀ fr, ay ti H.length ⟨fr, H'⟩ r K) : ao P f args H K := by
 unfold gu at h
 split at h
 ·rename_i fn hf
  unfold DT at h
  split at h
  ·rename_i c hb
   split at h
   ·rename_i hd
    simp only [Bool.and_eq_true, Bool.not_eq_true'] at hd
    split at h
    ·rename_i e fr' H1 hc
     split at h
     ·rename_i he
      split at h
      ·rename_i l hr
       injection h with h; injection h with h1 h2; subst h1; subst h2
       refine aa hf hb hd.1.2 hT hd.1.1 ?_
       have := bL (k0 := H.length) hm hC hQ hc (BE ti fn.results.toList H.length K) ?_
       ·rw [Fr.A3 hd.2] at this
        exact this
       ·have h9 : mr ti fn.results.toList ⟨fr'.get, H1⟩ fun l => ay ti H.length ⟨fr'.get, H1⟩ (lN l) K := ij hr _ (hK _)
        cases e <;> first | exact h9 | cases he
      ·cases h
     ·cases h
    ·cases h
   ·cases h
  ·cases h
 ·cases h
theorem rM {C : CF} {Q : CQ} (hT : aK P ti) (hm : P.follows .mixedOrders = true) (hC : C.ok P) (hQ : Q.ok P) {fuel : Nat} {f : FuncId} {args : List AV} {H : AH} {r : AV} {H' : AH} (h : gu P ti C Q fuel f args H = some (r, H'))
  {K : AV -> AH -> Prop} (hK : K r H') : ao P f args H K := gr hT hm hC hQ h fun _ => .raw _ _ _ hK
def vh (H : AH) : AV -> List Nat
 | .tup l => l.flatMap (da H)
 | x => da H x
def isP : AV -> Bool
 | .p _ => true
 | _ => false
def vO : AV -> Bool
 | .p _ => true
 | .tup l => l.all isP
 | _ => false
theorem zt {ρ : Nat -> Nat} : ∀ {l : List AV}, l.all isP = true -> dP ρ l = l /\ wfL 0 l = true
 | [], _ => ⟨rfl, rfl⟩
 | .p x :: r, h => by
  simp only [List.all_cons, Bool.and_eq_true] at h
  obtain ⟨h1, h2⟩ := zt (ρ := ρ) h.2
  exact ⟨by unfold dP; rw [h1]; rfl, by unfold wfL; rw [h2]; rfl⟩
theorem lf {ρ : Nat -> Nat} {r : AV} (h : vO r = true) : r.ren ρ = r /\ r.wf 0 = true := by
 unfold vO at h
 split at h
 ·exact ⟨rfl, rfl⟩
 ·obtain ⟨h1, h2⟩ := zt (ρ := ρ) h
  exact ⟨by unfold AV.ren; rw [h1], by unfold AV.wf; exact h2⟩
 ·cases h
abbrev PF := FuncId -> List AV -> Option AV
def PF.ok (P : Program) (U : PF) : Prop := ∀ f args r, U f args = some r -> ao P f args [] fun r' H' => r' = r /\ H' = []
def Di (H' : AH) (r : AV) : Option AV := match r with
 | .sub id lo hi => match H'[id]? with
  | some (some (.buf _ nl xs)) => some (.p (.list nl ((xs.take hi).drop lo)))
  | _ => none
 | _ => match vO (sB (aP H' (vh H' r)) r) with
  | true => some (sB (aP H' (vh H' r)) r)
  | false => none
def mL (P : Program) (ti : TypeId -> Option TI) (C : CF) (Q : CQ) (fuel : Nat) (f : FuncId) (args : List AV) : Option AV := match gu P ti C Q fuel f args [] with
 | some (r, H') => Di H' r
 | none => none
theorem pL {C : CF} {Q : CQ} (hT : aK P ti) (hm : P.follows .mixedOrders = true) (hC : C.ok P) (hQ : Q.ok P) {fuel : Nat} : PF.ok P (mL P ti C Q fuel) := by
 intro f args r h
 unfold mL at h
 split at h
 ·rename_i r0 H' hb
  unfold Di at h
  split at h
  ·rename_i id lo hi
   split at h
   ·rename_i e nl xs hl
    injection h with h; subst h
    refine gr hT hm hC hQ hb fun fr => .Df _ id lo hi e nl xs _ hl ?_
    exact .mk _ _ _ [] _ [] rfl rfl trivial rfl rfl ⟨rfl, rfl⟩
   ·cases h
  ·split at h
   ·rename_i hp
    injection h with h; subst h
    refine gr hT hm hC hQ hb fun fr => .frz _ _ _ (vh H' r0) ?_
    exact .mk _ _ _ [] _ [] rfl (lf hp).1.symm trivial rfl (by rw [show ([] : AH).length = 0 from rfl, (lf (ρ := id) hp).2]; rfl) ⟨rfl, rfl⟩
   ·cases h
 ·cases h
def look (f : FuncId) (args : List AV) : List (FuncId × List AV × AV) -> Option AV
 | [] => none
 | (g, as_, r) :: t => match Nat.beq g f with
  | true => match oJ as_ args with
   | true => some r
   | false => look f args t
  | false => look f args t
def vK (P : Program) (tab : List (FuncId × List AV × AV)) : Prop := ∀ e ∈ tab, ao P e.1 e.2.1 [] fun r' H' => r' = e.2.2 /\ H' = []
theorem jx {f : FuncId} {args : List AV} {r : AV} : ∀ {tab : List (FuncId × List AV × AV)}, vK P tab -> look f args tab = some r -> ao P f args [] fun r' H' => r' = r /\ H' = []
 | [], _, h => by cases h
 | (g, as_, r0) :: t, ht, h => by
  unfold look at h
  split at h
  ·rename_i hg
   split at h
   ·rename_i ha
    injection h with h; subst h
    have := ht _ (List.mem_cons_self ..)
    simp only [Nat.eq_of_beq_eq_true hg, gx ha] at this
    exact this
   ·exact jx (fun e he => ht e (List.mem_cons_of_mem _ he)) h
  ·exact jx (fun e he => ht e (List.mem_cons_of_mem _ he)) h
def tK (U : PF) : CQ := fun f args H => match U f (bo H [] true args) with
 | some (.p (.v x)) => some x
 | _ => none
theorem mM {U : PF} (hU : U.ok P) : (tK U).ok P := by
 intro f args H v h K hK
 unfold tK at h
 split at h
 ·rename_i hx
  injection h with h; subst h
  exact ⟨_, hU _ _ _ hx, hK⟩
 ·cases h
def uZ : AV -> Bool
 | .p x => x.wi
 | .tup l => l.all fun y => match y with
  | .p x => x.wi
  | _ => false
 | _ => false
theorem tv {r : AV} (h : uZ r = true) : r.flat /\ ∀ ρ, r.ren ρ = r := by
 unfold uZ at h
 split at h
 ·exact ⟨tu h, fun _ => rfl⟩
 ·rename_i l
  have key : ∀ l : List AV, (l.all fun y => match y with
    | .p x => x.wi
    | _ => false) = true -> qn l /\ ∀ ρ, dP ρ l = l := by
   intro l
   induction l with
   | nil => exact fun _ => ⟨trivial, fun _ => rfl⟩
   | cons y r ih =>
    intro h
    simp only [List.all_cons, Bool.and_eq_true] at h
    obtain ⟨h1, h2⟩ := h
    obtain ⟨h3, h4⟩ := ih h2
    split at h1
    ·exact ⟨⟨tu h1, h3⟩, fun ρ => by unfold dP; rw [h4]; rfl⟩
    ·cases h1
  obtain ⟨h1, h2⟩ := key l h
  exact ⟨h1, fun ρ => by unfold AV.ren; rw [h2]⟩
 ·cases h
def vf (mode : Nat) (W : CF) (U : PF) : CF := fun f args H => match mode with
 | 0 => W f args H
 | 1 => match U f (bo H [] true args) with
  | some r => match uZ r with
   | true => some (r, H)
   | false => none
  | none => none
 | _ => match U f (bo (aP H (args.flatMap (da H))) [] false args) with
  | some r => match vO r with
   | true => some (r, aP H (args.flatMap (da H)))
   | false => none
  | none => none
theorem yI (H : AH) : fM H [] [] = H := by simp [fM, cC, db]
theorem yB {mode : Nat} {W : CF} {U : PF} (hW : W.ok P) (hU : U.ok P) : (vf mode W U).ok P := by
 intro f args H v H' h K hK
 unfold vf at h
 split at h
 ·exact hW _ _ _ _ _ h K hK
 ·split at h
  ·rename_i r hr
   split at h
   ·rename_i hf
    injection h with h; injection h with h1 h2; subst h1; subst h2
    obtain ⟨h3, h4⟩ := tv hf
    refine .s9 ((hU _ _ _ hr).mono ?_)
    rintro r' H' ⟨rfl, rfl⟩
    refine ⟨h3, trivial, ?_⟩
    rw [h4]
    simpa [db] using hK
   ·cases h
  ·cases h
 ·split at h
  ·rename_i r hr
   split at h
   ·rename_i hf
    injection h with h; injection h with h1 h2; subst h1; subst h2
    refine .loc [] (args.flatMap (da H)) rfl rfl ((hU _ _ _ hr).mono ?_)
    rintro r' H' ⟨rfl, rfl⟩
    rw [(lf hf).1, yI]
    exact hK
   ·cases h
  ·cases h
abbrev XF := FuncId -> List AV -> Option AV
def XF.ok (P : Program) (X : XF) : Prop := ∀ f args v, X f args = some v -> kS P f args v
theorem sx {args : List AV} {x y : Value} {P : Program} {H : AH} {m : Nat -> Value} {S : Nat -> Prop} {w : World} {vals : Array Value} (ha : args = [.p (.v x), .p (.v y)]) (hl : vals.size = args.length)
  (hr : ∀ (j : Nat) (x : AV), args[j]? = some x -> Rd P H m S w x (vals.getD j undef)) : vals = #[x, y] := by
 subst ha
 obtain ⟨l⟩ := vals
 match l, hl with
 | [a, b], _ =>
  have h0 := hr 0 _ rfl
  have h1 := hr 1 _ rfl
  have e0 : a = x := by cases h0 with | p _ _ h => cases h; rfl
  have e1 : b = y := by cases h1 with | p _ _ h => cases h; rfl
  rw [e0, e1]
theorem kS.indexByte {P : Program} {f : FuncId} {fn : Func} (hf : P.funcs[f]? = some fn) (hname : (fn.name == "runtime.NumGoroutine") = false) (hb : fn.body.isNone = true) (hn : Extern.findNext fn = none) (he : Extern.find fn = some Extern.BytealgIndexByte.indexByte) (s : ByteArray) (c : Int) :
  kS P f [.p (.v (.string s)), .p (.v (.int .u8 c))] (.p (.v (.int .i64 (Lib.indexByte s.data.toList c.toNat.toUInt8)))) :=
 ⟨fun H m S w vals hp hl hr => by
  rw [sx rfl hl hr, run_callFunc_extern hf hname hb hn he, Lib.run_indexByteString]
  exact ⟨_, rfl, .p _ _ (.v _ rfl)⟩⟩
theorem kS.count {P : Program} {f : FuncId} {fn : Func} (hf : P.funcs[f]? = some fn) (hname : (fn.name == "runtime.NumGoroutine") = false) (hb : fn.body.isNone = true) (hn : Extern.findNext fn = none) (he : Extern.find fn = some Extern.BytealgCount.count) (s : ByteArray) (c : Int) :
  kS P f [.p (.v (.string s)), .p (.v (.int .u8 c))] (.p (.v (.int .i64 (Lib.countByte s.data.toList c.toNat.toUInt8 : Nat)))) :=
 ⟨fun H m S w vals hp hl hr => by
  rw [sx rfl hl hr, run_callFunc_extern hf hname hb hn he, Lib.run_countString]
  exact ⟨_, rfl, .p _ _ (.v _ rfl)⟩⟩
def zF (X : XF) (C : CF) : CF := fun f args H => match X f args with
 | some v => some (v, H)
 | none => C f args H
theorem zE {P : Program} {X : XF} {C : CF} (hX : X.ok P) (hC : C.ok P) : (zF X C).ok P := by
 intro f args H v H' h K hK
 unfold zF at h
 split at h
 ·rename_i hx
  injection h with h; injection h with h1 h2; subst h1; subst h2
  exact .ext _ (hX _ _ _ hx) hK
 ·exact hC _ _ _ _ _ h K hK
def bk (P : Program) (ti : TypeId -> Option TI) (X : XF) (fuel : Nat) (mode : FuncId -> Nat) (tab : List (FuncId × List AV × AV)) : Nat -> PF × CF
 | 0 => (fun _ _ => none, fun _ _ _ => none)
 | n + 1 =>
  (fun f args => match look f args tab with
   | some r => some r
   | none => mL P ti (bk P ti X fuel mode tab n).2 (tK (bk P ti X fuel mode tab n).1) fuel f args,
    zF X fun f args H => vf (mode f) (gu P ti (bk P ti X fuel mode tab n).2 (tK (bk P ti X fuel mode tab n).1) fuel)
   (fun f args => match look f args tab with
   | some r => some r
   | none => mL P ti (bk P ti X fuel mode tab n).2 (tK (bk P ti X fuel mode tab n).1) fuel f args) f args H)
theorem iL (hT : aK P ti) (hm : P.follows .mixedOrders = true) {X : XF} (hX : X.ok P) {fuel : Nat} {mode : FuncId -> Nat} {tab : List (FuncId × List AV × AV)} (ht : vK P tab) : ∀ n, (bk P ti X fuel mode tab n).1.ok P /\ (bk P ti X fuel mode tab n).2.ok P
 | 0 => ⟨fun _ _ _ h => (by cases h), fun _ _ _ _ _ h => (by cases h)⟩
 | n + 1 => by
  obtain ⟨h1, h2⟩ := iL hT hm hX (fuel := fuel) (mode := mode) ht n
  have hU : PF.ok P (bk P ti X fuel mode tab (n + 1)).1 := by
   intro f args r h
   simp only [bk] at h
   split at h
   ·rename_i hl
    injection h with h; subst h
    exact jx ht hl
   ·exact pL hT hm h2 (mM h1) _ _ _ h
  refine ⟨hU, zE hX fun f args H v H' h K hK => ?_⟩
  exact yB (W := gu P ti (bk P ti X fuel mode tab n).2 (tK (bk P ti X fuel mode tab n).1) fuel) (U := (bk P ti X fuel mode tab (n + 1)).1)
   (fun _ _ _ _ _ h K hK => .all (rM hT hm h2 (mM h1) h hK)) hU _ _ _ _ _ h K hK
theorem cd (hT : aK P ti) (hm : P.follows .mixedOrders = true) {X : XF} (hX : X.ok P) {fuel : Nat} {mode : FuncId -> Nat} {tab : List (FuncId × List AV × AV)} (ht : vK P tab) (n : Nat) {f : FuncId} {args : List AV} {r : AV} (h : (bk P ti X fuel mode tab n).1 f args = some r) :
  ao P f args [] fun r' H' => r' = r /\ H' = [] := (iL hT hm hX ht n).1 _ _ _ h
end
end Go.Abs
namespace Go.Proofs.YtaocnijlcgohnaaGreatDoor
open Go.Abs
set_option maxRecDepth 100000
def xf (f : FuncId) (args : List AV) : Option AV := match args with
 | [.p (.v (.string s)), .p (.v (.int .u8 c))] => match Nat.beq f 256 with
  | true => some (.p (.v (.int .i64 (Lib.indexByte s.data.toList c.toNat.toUInt8))))
  | false => match Nat.beq f 268 with
   | true => some (.p (.v (.int .i64 (Lib.countByte s.data.toList c.toNat.toUInt8 : Nat))))
   | false => none
 | _ => none
theorem fD : XF.ok Tryz.prog xf := by
 intro f args v h
 unfold xf at h
 split at h
 ·split at h
  ·rename_i hf
   have hf := Nat.eq_of_beq_eq_true hf
   subst hf
   injection h with h; subst h
   exact kS.indexByte Tryz.func256 (by kernel_rfl) (by kernel_rfl) (by kernel_rfl) (by kernel_rfl) _ _
  ·split at h
   ·rename_i hf
    have hf := Nat.eq_of_beq_eq_true hf
    subst hf
    injection h with h; subst h
    exact kS.count Tryz.func268 (by kernel_rfl) (by kernel_rfl) (by kernel_rfl) (by kernel_rfl) _ _
   ·cases h
 ·cases h
theorem mixed : Tryz.prog.follows .mixedOrders = true := by kernel_rfl
theorem gpB {P : Prop} (h : P := by
 (first | ((first | apply bx.snoc (f := pB) (a := _) rfl | apply bx.one (f := pB) (a := _) rfl); (first | omega | (simp only [pC] at *; omega) | grind)) | apply IsL.set (f := pB) (a := _) rfl | apply IsL.rep (f := pB) (a := _) rfl | apply IsL.lit (f := pB) [] rfl | apply IsL.lit (f := pB) [_] rfl | apply IsL.lit (f := pB) [_, _] rfl | apply IsL.lit (f := pB) [_, _, _] rfl) <;> (solve_by_elim (newGoals := .nonDependentOnly) (symm := false) (exfalso := false) (transparency := .reducible) only [rfl, aC])) : P := h
theorem gpI {P : Prop} (h : P := by
 (first | ((first | apply bx.snoc (f := pI) (a := _) rfl | apply bx.one (f := pI) (a := _) rfl); (first | omega | (simp only [pC] at *; omega) | grind)) | apply IsL.set (f := pI) (a := _) rfl | apply IsL.rep (f := pI) (a := _) rfl | apply IsL.lit (f := pI) [] rfl | apply IsL.lit (f := pI) [_] rfl | apply IsL.lit (f := pI) [_, _] rfl | apply IsL.lit (f := pI) [_, _, _] rfl) <;> (solve_by_elim (newGoals := .nonDependentOnly) (symm := false) (exfalso := false) (transparency := .reducible) only [rfl, aC])) : P := h
theorem aC {P : Prop} (x : P) (_ : x = x) : P := x
theorem ar_ {P : Prop} (h : P := by (first | omega | (simp only [pC] at *; omega) | grind)) : P := h
theorem aw {P : Prop} (h : P := by (first | omega | (simp only []; omega) | (simp; omega) | (first | omega | (simp only [pC] at *; omega) | grind))) : P := h
theorem gC {P : Prop} (h : P := by
 (first | ((first | apply cq.map | apply oZ.map | apply oZ.mk); intro _) | ((first | apply NW.as | apply fA.as); with_reducible assumption) | ((first | apply NW.i64 | apply NW.u32 | apply NW.u64 | apply NW.u8 | apply InA.nat | apply InA.map | apply aX.lo | apply aX.hi); (first | omega | (simp only [pC] at *; omega) | grind)) | ((first | (apply sf.as; assumption) | apply sf.self); (first | omega | (simp only [pC] at *; omega) | grind)) | (apply fA.as; assumption) | apply fA.self | (apply NW.as; assumption) | (apply SzA.map; (intro _; rfl)) | with_reducible apply BN | with_reducible apply BO | with_reducible apply Ao | with_reducible apply Ap | apply vE.mk | ((first | apply CN | apply Ea | apply BP | apply BQ); assumption) | ((first | apply vj | apply vk | apply Aq | apply Ar | apply oQ | apply As | apply vm | apply wE | apply wD | apply vi | apply D_ | apply fK) <;> intro h0 <;> first | (exfalso; first | omega | exact tf h0 (by assumption) | exact tf (by assumption) h0 | exact h0 (by assumption) | exact h0 rfl | exact of_decide_eq_false h0 rfl) | skip) | refine CZ.mk _ rfl rfl ?_ | (apply bO.lit; omega; exact rfl) | ((first | apply bO.Cd | (apply bO.of_map; (first | omega | (simp only [pC] at *; omega) | grind))); rotate_left; (first | omega | (simp only [pC] at *; omega) | grind)) | apply BD.own | apply sj.part | (apply And.intro; (first | with_reducible rfl | (show (_ : AV) = _; rfl) | (first | omega | (simp only [pC] at *; omega) | grind)))) <;> (solve_by_elim (newGoals := .nonDependentOnly) (symm := false) (exfalso := false) (transparency := .reducible) only [rfl, aC])) : P := h
theorem gE {P : Prop} (h : P := by
 ((first | apply bx.map | apply bx.nil); (first | omega | (simp only [pC] at *; omega) | grind)) <;> (solve_by_elim (newGoals := .nonDependentOnly) (symm := false) (exfalso := false) (transparency := .reducible) only [rfl, aC])) : P := h
theorem aj {P : Prop} (h : P := by
 (repeat' (first | exact trivial | refine And.intro ?_ ?_ | with_reducible rfl | (refine Dq ?_; exact ar_) | (refine CM ?_) | (refine CL ?_) | (refine wC ?_) | rfl)) <;> (solve_by_elim (newGoals := .nonDependentOnly) (symm := false) (exfalso := false) (transparency := .reducible) only [rfl, aC])) : P := h
theorem sa_ {P : Prop} (h : P := by
 (refine aq.auto rfl rfl rfl rfl ?_ ?_ <;> refine' aj) <;> (solve_by_elim (newGoals := .nonDependentOnly) (symm := false) (exfalso := false) (transparency := .reducible) only [rfl, aC])) : P := h
theorem rp_ {P : Prop} (h : P := by
 (refine ay.p ?_ <;> refine' aj; all_goals try first | refine Et ?_ | refine Dq ?_) <;> (solve_by_elim (newGoals := .nonDependentOnly) (symm := false) (exfalso := false) (transparency := .reducible) only [rfl, aC])) : P := h
theorem jo (x n : Int) (h : 0 < n) : x.tmod n < n /\ -n < x.tmod n := ⟨Int.tmod_lt_of_pos x h, Int.lt_tmod_of_pos x h⟩
def q9 (x n : Int) : Int := if n < 1 then 0 else if x.tmod n < 0 then x.tmod n + n else x.tmod n
theorem uM (x n : Int) : 0 <= q9 x n /\ (q9 x n < n \/ q9 x n = 0) := by
 unfold q9
 split
 ·omega
 ·have h1 := jo x n (by omega)
  split <;> omega
theorem yea1d {P : Prop} (h : P := by
 ((conv => whnf); repeat' ((first | apply aB.plain | refine' gC | refine' gpI | refine' gpB | refine' gE | (apply ax.quiet (by kernel_rfl) (by kernel_rfl); (conv => whnf); fail_if_success (show False))) <;> (conv => whnf))) <;> (solve_by_elim (newGoals := .nonDependentOnly) (symm := false) (exfalso := false) (transparency := .reducible) only [rfl, aC])) : P := h
theorem AB (x n : Int) (hn : n <= 4611686018427387904) : ao Tryz.prog 69 [.p (pI x), .p (pI n)] [] fun r H => r = .p (pI (q9 x n)) /\ H = [] := by
 refine aa Tryz.func69 rfl rfl au rfl ?_
 have h1 : ¬ n < 1 -> x.tmod n < n := fun h => (jo x n (by omega)).1
 have h2 : ¬ n < 1 -> -n < x.tmod n := fun h => (jo x n (by omega)).2
 refine' yea1d
 all_goals refine ay.p ⟨?_, rfl⟩
 ·rw [q9, if_pos (by omega)]; rfl
 ·rw [q9, if_neg (by omega), if_pos (by omega)]; rfl
 ·rw [q9, if_neg (by omega), if_neg (by omega)]; rfl
def src (nl : Bool) (ts : List Int) (i : Nat) : AH := [some (.cells [.p (.list nl (ts.map pI)), .p (pI i)])]
theorem Ay (nl : Bool) (ts : List Int) (i : Nat) (h : i <= ts.length) :
  ao Tryz.prog 70 [.ptr 0 0] (src nl ts i) fun r H => ∃ v i', i' <= ts.length /\ r = .p (pI v) /\ H = src nl ts i' := by
 refine aa Tryz.func70 rfl rfl au rfl ?_
 refine' yea1d
 ·(refine' ay.auto (.p (pI 0)) (src nl ts i) rfl rfl rfl rfl _ _ _ <;> refine' aj)
  exact ⟨0, i, h, rfl, rfl⟩
 ·(refine' ay.auto (.p (pI ts[((i : Int) + 1 - 1).toNat])) (src nl ts (i + 1)) rfl rfl rfl rfl _ _ _ <;> refine' aj)
  exact ⟨_, i + 1, by omega, rfl, rfl⟩
theorem dU (nl : Bool) (ts : List Int) (i : Nat) (h : i <= ts.length) (n : Int) (hn : n <= 4611686018427387904) :
  ao Tryz.prog 25 [.ptr 0 0, .p (pI n)] (src nl ts i) fun r H => ∃ v i', 0 <= v /\ (v < n \/ v = 0) /\ i' <= ts.length /\ r = .p (pI v) /\ H = src nl ts i' := by
 refine aa Tryz.func25 rfl rfl au rfl ?_
 refine' yea1d
 refine ab.all ((Ay nl ts i h).mono ?_)
 rintro r H ⟨v, i', hi', rfl, rfl⟩
 (conv => whnf); repeat' ((first | refine' zea1d | (refine ab.scalar (AB v n hn) ?_)) <;> (conv => whnf))
 have hr := uM v n
 (refine' ay.auto (.p (pI (q9 v n))) (src nl ts i') rfl rfl rfl rfl _ _ _ <;> refine' aj)
 exact ⟨_, i', hr.1, hr.2, hi', rfl, rfl⟩
theorem jI (nl : Bool) (ts : List Int) (i : Nat) (h : i <= ts.length) (lo hi : Int) (h1 : -1152921504606846976 <= lo /\ lo <= 1152921504606846976) (h2 : -1152921504606846976 <= hi /\ hi <= 1152921504606846976) :
  ao Tryz.prog 26 [.ptr 0 0, .p (pI lo), .p (pI hi)] (src nl ts i) fun r H => ∃ v i', lo <= v /\ (v <= hi \/ v = lo) /\ i' <= ts.length /\ r = .p (pI v) /\ H = src nl ts i' := by
 refine aa Tryz.func26 rfl rfl au rfl ?_
 refine' yea1d
 refine ab.all ((dU nl ts i h _ (by omega)).mono ?_)
 rintro r H ⟨v, i', hv, hv2, hi', rfl, rfl⟩
 refine' yea1d
 (refine' ay.auto (.p (pI (lo + v))) (src nl ts i') rfl rfl rfl rfl _ _ _ <;> refine' aj)
 exact ⟨_, i', by omega, by omega, hi', rfl, rfl⟩
theorem cO (nl nl2 : Bool) (ts : List Int) (i : Nat) (h : i <= ts.length) (xs : List Int) (h0 : 0 < xs.length) (h1 : xs.length <= 1000000) :
  ao Tryz.prog 27 [.ptr 0 0, .p (.list nl2 (xs.map pI))] (src nl ts i) fun r H => ∃ v i', v ∈ xs /\ i' <= ts.length /\ r = .p (pI v) /\ H = src nl ts i' := by
 refine aa Tryz.func27 rfl rfl au rfl ?_
 refine' yea1d
 refine ab.loc [0] [] rfl rfl ((dU nl ts i h _ (by omega)).mono ?_)
 rintro r H ⟨v, i', hv, hv2, hi', rfl, rfl⟩
 refine' yea1d
 (refine' ay.auto (.p (pI (xs[v.toNat]'(by omega)))) (src nl ts i') rfl rfl rfl rfl _ _ _ <;> refine' aj)
 exact ⟨_, i', List.getElem_mem _, hi', rfl, rfl⟩
theorem AA (nl : Bool) (ts : List Int) : ao Tryz.prog 4 [.p (.list nl (ts.map pI))] [] fun r H => ∃ ts', r = .ptr 0 0 /\ H = src nl ts' 0 := by
 refine aa Tryz.func4 rfl rfl au rfl ?_
 refine' yea1d
 (refine' ay.auto (.ptr 0 0) (src nl ((ts.take (if (500 : Int) < (ts.length : Int) then 500 else (ts.length : Int)).toNat)) 0) rfl rfl rfl rfl _ _ _ <;> refine' aj)
 exact ⟨_, rfl, rfl⟩
structure Ck where
 kind : Int
 pn : Bool
 ps : List Int
 cn : Bool
 cs : List Int
 lo : Int
 hi : Int
def Ck.pv (c : Ck) : PV := .agg [pI c.kind, .list c.pn (c.ps.map pI), .list c.cn (c.cs.map pI), pI c.lo, pI c.hi]
theorem b4 {P : Program} {f : FuncId} {args : List AV} {H : AH} {K : AV -> AH -> Prop} {p : Bool -> Prop} (h : ao P f (bo H [] true args) [] fun r H' => ∃ b : Bool, r = .p (pB b) /\ H' = [] /\ p b) (hk : ∀ b, p b -> K (.p (pB b)) H) : ab P f args H K :=
 .s9 (h.mono fun r H' ⟨b, h1, h2, h3⟩ => by subst h1; subst h2; exact ⟨trivial, trivial, by simpa [db, AV.ren] using hk b h3⟩)
theorem dL {P : Program} {f : FuncId} {args : List AV} {H : AH} {K : AV -> AH -> Prop} {p : Int -> Prop} (h : ao P f (bo H [] true args) [] fun r H' => ∃ b : Int, r = .p (pI b) /\ H' = [] /\ p b) (hk : ∀ b, p b -> K (.p (pI b)) H) : ab P f args H K :=
 .s9 (h.mono fun r H' ⟨b, h1, h2, h3⟩ => by subst h1; subst h2; exact ⟨trivial, trivial, by simpa [db, AV.ren] using hk b h3⟩)
theorem ak {α : Type} {l : List α} {d : α} {i : Nat} (h : i < l.length) : l.getD i d = l[i] := by simp [List.getD, h]
structure Sup where
 par : Int
 ln : Bool
 lv : List Int
 drop : Int
 cap : Int
 alw : Bool
def Sup.pv (s : Sup) : PV := .agg [pI s.par, .list s.ln (s.lv.map pI), pI s.drop, pI s.cap, pB s.alw]
structure Dr where
 sup : Int
 lo : Int
 hi : Int
 load : Int
def Dr.pv (d : Dr) : PV := .agg [pI d.sup, pI d.lo, pI d.hi, pI d.load]
def oX (s : Sup) (i : Nat) : Prop := (-1 <= s.par /\ s.par < i) /\ 1 <= s.lv.length /\ (0 <= s.drop /\ s.drop <= 5000) /\ (s.par < 0 -> s.drop = 0) /\ (0 <= s.cap /\ s.cap <= 10000) /\
 (∀ v ∈ s.lv, 1 <= v /\ v <= 5000) /\ ∀ (k : Nat) (h : k + 1 < s.lv.length), s.lv[k] < s.lv[k + 1]
def aT (l : List Sup) : Prop := l.length <= 16 /\ (∀ s ∈ l, s.lv.length <= 16) /\ ∀ (i : Nat) (h : i < l.length), oX l[i] i
def DrV (n : Nat) (x : Dr) : Prop := (0 <= x.sup /\ x.sup < n) /\ (0 <= x.hi /\ x.hi <= 5000) /\ (0 <= x.lo /\ x.lo <= x.hi) /\ 0 <= x.load /\ x.load <= 10000
def b9 (n : Nat) (d : List Dr) : Prop := d.length <= 32 /\ ∀ x ∈ d, DrV n x
structure Rl where
 on : List Bool
 lev : List Int
def RlV (l : List Sup) (r : Rl) : Prop := r.on.length = l.length /\ r.lev.length = l.length /\ ∀ (i : Nat) (h : i < l.length) (h' : i < r.lev.length), 0 <= r.lev[i] /\ r.lev[i] < (l[i]).lv.length
instance : Inhabited Sup := ⟨⟨0, false, [], 0, 0, false⟩⟩
def onA (r : Rl) (i : Nat) : Bool := r.on.getD i false
def lvA (r : Rl) (i : Nat) : Int := r.lev.getD i 0
def vt (l : List Sup) (i : Nat) (k : Int) : Int := (l.getD i default).lv.getD k.toNat 0
def bu (l : List Sup) (i : Nat) : Int := (l.getD i default).par
def jc (l : List Sup) (i : Nat) : Int := (l.getD i default).drop
inductive Usd (l : List Sup) (d : List Dr) : Nat -> Prop
 | draw (x : Dr) (h : x ∈ d) : Usd l d x.sup.toNat
 | alw (i : Nat) (h : i < l.length) (ha : l[i].alw = true) : Usd l d i
 | par (i : Nat) (h : i < l.length) (hu : Usd l d i) (hp : 0 <= l[i].par) : Usd l d l[i].par.toNat
theorem Usd.mono {l : List Sup} {d d' : List Dr} (h : ∀ x ∈ d, ∃ y ∈ d', y.sup = x.sup) {i : Nat} (hu : Usd l d i) : Usd l d' i := by
 induction hu with
 | draw x hx => obtain ⟨y, hy, e⟩ := h x hx; rw [<- e]; exact .draw y hy
 | alw i h ha => exact .alw i h ha
 | par i h _ hp ih => exact .par i h ih hp
def dd (xs : List Int) (i : Nat) (v : Int) : List Int := xs.set i (xs.getD i 0 + v)
def ld0 (n : Nat) (d : List Dr) : List Int := d.foldl (fun xs x => dd xs x.sup.toNat x.load) (List.replicate n 0)
def ldS (l : List Sup) (xs : List Int) (k : Nat) : List Int := if 0 <= (l.getD k default).par then dd xs (l.getD k default).par.toNat (xs.getD k 0) else xs
def aS (l : List Sup) (d : List Dr) : List Int := (List.finRange l.length).reverse.foldl (fun xs i => ldS l xs i.val) (ld0 l.length d)
structure bm (l : List Sup) (r : Rl) (d : List Dr) : Prop where
 rv : RlV l r
 dv : b9 l.length d
 use : ∀ i, i < l.length -> Usd l d i -> onA r i = true
 par : ∀ i, i < l.length -> onA r i = true -> 0 <= bu l i -> onA r (bu l i).toNat = true /\ vt l i (lvA r i) + jc l i <= vt l (bu l i).toNat (lvA r (bu l i).toNat)
 load : ∀ i, i < l.length -> onA r i = true -> (aS l d).getD i 0 <= (l.getD i default).cap
 draw : ∀ x ∈ d, x.lo <= vt l x.sup.toNat (lvA r x.sup.toNat) /\ vt l x.sup.toNat (lvA r x.sup.toNat) <= x.hi
theorem fJ (xs : List Int) (i : Nat) (v : Int) : (dd xs i v).length = xs.length := by simp [dd]
theorem rf (n : Nat) (d : List Dr) : (ld0 n d).length = n := by
 suffices h : ∀ (d : List Dr) (xs : List Int), (d.foldl (fun xs x => dd xs x.sup.toNat x.load) xs).length = xs.length by
  rw [ld0, h]; simp
 intro d
 induction d with
 | nil => intro xs; rfl
 | cons x d ih => intro xs; rw [List.foldl_cons, ih, fJ]
def PLe (xs ys : List Int) : Prop := xs.length = ys.length /\ ∀ i, xs.getD i 0 <= ys.getD i 0
theorem PLe.refl (xs : List Int) : PLe xs xs := ⟨rfl, fun _ => Int.le_refl _⟩
theorem bK (xs : List Int) (i j : Nat) (v : Int) : (xs.set i v).getD j 0 = if i = j /\ j < xs.length then v else xs.getD j 0 := by
 simp only [List.getD_eq_getElem?_getD, List.getElem?_set]
 by_cases h : i = j
 ·subst h
  by_cases hl : i < xs.length <;> simp [hl]
 ·simp [h]
theorem bQ (xs : List Int) (i j : Nat) (v : Int) : (dd xs i v).getD j 0 = if i = j /\ j < xs.length then xs.getD i 0 + v else xs.getD j 0 := bK _ _ _ _
theorem PLe.Eb {xs ys : List Int} (h : PLe xs ys) {i : Nat} {v w : Int} (hv : v <= w) : PLe (dd xs i v) (dd ys i w) := by
 refine ⟨by rw [fJ, fJ, h.1], fun j => ?_⟩
 rw [bQ, bQ, h.1]
 have := h.2 i
 have := h.2 j
 split <;> omega
theorem PLe.yL {xs ys : List Int} (h : PLe xs ys) {i : Nat} {w : Int} (hw : 0 <= w) : PLe xs (dd ys i w) := by
 refine ⟨by rw [fJ, h.1], fun j => ?_⟩
 rw [bQ]
 have := h.2 i
 have := h.2 j
 split
 ·rename_i h; obtain ⟨rfl, _⟩ := h; omega
 ·omega
theorem zM (l : List Sup) (k : Nat) {xs ys : List Int} (h : PLe xs ys) : PLe (ldS l xs k) (ldS l ys k) := by
 unfold ldS
 split
 ·exact h.Eb (h.2 k)
 ·exact h
theorem tc {n : Nat} (l : List Sup) : ∀ (is : List (Fin n)) {xs ys : List Int}, PLe xs ys -> PLe (is.foldl (fun xs i => ldS l xs i.val) xs) (is.foldl (fun xs i => ldS l xs i.val) ys)
 | [], _, _, h => h
 | i :: is, _, _, h => tc l is (zM l i.val h)
theorem Be (n : Nat) (d e : List Dr) (he : ∀ x ∈ e, 0 <= x.load) : PLe (ld0 n d) (ld0 n (d ++ e)) := by
 unfold ld0
 rw [List.foldl_append]
 generalize d.foldl _ _ = xs
 suffices h : ∀ (e : List Dr) (ys : List Int), (∀ x ∈ e, 0 <= x.load) -> PLe xs ys -> PLe xs (e.foldl (fun xs x => dd xs x.sup.toNat x.load) ys) from h e xs he (.refl _)
 intro e
 induction e with
 | nil => exact fun ys _ h => h
 | cons x e ih => exact fun ys he h => ih _ (fun y hy => he y (List.mem_cons_of_mem _ hy)) (h.yL (he x (List.mem_cons_self ..)))
theorem yj (l : List Sup) (d e : List Dr) (he : ∀ x ∈ e, 0 <= x.load) : PLe (aS l d) (aS l (d ++ e)) := tc l _ (Be _ d e he)
theorem bm.less {l : List Sup} {r : Rl} {d e : List Dr} (h : bm l r (d ++ e)) : bm l r d := by
 refine ⟨h.rv, ⟨by have := h.dv.1; simp at this; omega, fun x hx => h.dv.2 x (List.mem_append_left _ hx)⟩, fun i hi hu => h.use i hi (hu.mono fun x hx => ⟨x, List.mem_append_left _ hx, rfl⟩), h.par,
  fun i hi ho => Int.le_trans ((yj l d e fun x hx => (h.dv.2 x (List.mem_append_right _ hx)).2.2.2.1).2 i) (h.load i hi ho), fun x hx => h.draw x (List.mem_append_left _ hx)⟩
theorem oX.lt {s : Sup} {i : Nat} (h : oX s i) {j k : Nat} (hjk : j < k) (hk : k < s.lv.length) : s.lv[j] < s.lv[k] := by
 induction k with
 | zero => omega
 | succ k ih =>
  have h1 := h.2.2.2.2.2.2 k hk
  rcases Nat.lt_or_ge j k with h2 | h2
  ·exact Int.lt_trans (ih h2 (by omega)) h1
  ·obtain rfl : j = k := by omega
   exact h1
theorem cT {l : List Sup} (hl : aT l) {i : Nat} (hi : i < l.length) {j k : Int} (hj : 0 <= j) (hjk : j <= k) (hk : k < (l[i]).lv.length) : vt l i j <= vt l i k := by
 unfold vt
 rw [ak hi, ak (show k.toNat < _ by omega), ak (show j.toNat < _ by omega)]
 rcases Int.lt_or_eq_of_le hjk with h | rfl
 ·exact Int.le_of_lt ((hl.2.2 i hi).lt (by omega) (by omega))
 ·exact Int.le_refl _
def aD (a b : Rl) : Rl := ⟨(List.range b.on.length).map fun i => onA a i || onA b i, (List.range b.lev.length).map fun i => if onA a i then (if onA b i then max (lvA a i) (lvA b i) else lvA a i) else lvA b i⟩
theorem kg {a b : Rl} {i : Nat} (h : i < b.on.length) : onA (aD a b) i = (onA a i || onA b i) := by
 unfold onA aD
 rw [ak (by simpa using h)]
 simp [onA]
theorem km {a b : Rl} {i : Nat} (h : i < b.lev.length) : lvA (aD a b) i = if onA a i then (if onA b i then max (lvA a i) (lvA b i) else lvA a i) else lvA b i := by
 rw [lvA, aD]
 simp only
 rw [ak (by simpa using h)]
 simp
theorem RlV.at_ {l : List Sup} {r : Rl} (h : RlV l r) {i : Nat} (hi : i < l.length) : 0 <= lvA r i /\ lvA r i < (l[i]).lv.length := by
 have h1 : i < r.lev.length := by rw [h.2.1]; exact hi
 have := h.2.2 i hi h1
 unfold lvA
 rw [ak h1]
 exact this
theorem RlV.of {l : List Sup} {r : Rl} (h1 : r.on.length = l.length) (h2 : r.lev.length = l.length) (h : ∀ i (hi : i < l.length), 0 <= lvA r i /\ lvA r i < (l[i]).lv.length) : RlV l r := by
 refine ⟨h1, h2, fun i hi h' => ?_⟩
 have := h i hi
 unfold lvA at this
 rwa [ak h'] at this
theorem qT {l : List Sup} {a b : Rl} (ha : RlV l a) (hb : RlV l b) : RlV l (aD a b) := by
 refine .of (by simp [aD, hb.1]) (by simp [aD, hb.2.1]) fun i hi => ?_
 rw [km (by rw [hb.2.1]; exact hi)]
 have h1 := ha.at_ hi
 have h2 := hb.at_ hi
 split
 ·split <;> omega
 ·exact h2
theorem ju {l : List Sup} (hl : aT l) {i : Nat} (hi : i < l.length) (hp : 0 <= bu l i) : (bu l i).toNat < i := by
 have := (hl.2.2 i hi).1
 unfold bu at hp ⊢
 rw [ak hi] at hp ⊢
 omega
theorem uk {l : List Sup} {d : List Dr} (hl : aT l) (hd : b9 l.length d) {i : Nat} (h : Usd l d i) : i < l.length := by
 cases h with
 | draw x hx => have := (hd.2 x hx).1; omega
 | alw i h _ => exact h
 | par i h _ hp => have := (hl.2.2 i h).1; omega
theorem bm.mix {l : List Sup} (hl : aT l) {a b r : Rl} {d : List Dr} (ha : bm l a d) (hb : bm l b d) (hv : RlV l r)
  (hon : ∀ i, i < l.length -> onA a i = true -> onA b i = true -> onA r i = true)
  (hon2 : ∀ i, i < l.length -> onA r i = true -> onA a i = true \/ onA b i = true)
  (hlo : ∀ i, i < l.length -> onA a i = true -> onA b i = true -> (lvA a i <= lvA r i \/ lvA b i <= lvA r i) /\ (lvA r i <= lvA a i \/ lvA r i <= lvA b i))
  (hpar : ∀ i, i < l.length -> onA r i = true -> 0 <= bu l i -> onA r (bu l i).toNat = true /\ vt l i (lvA r i) + jc l i <= vt l (bu l i).toNat (lvA r (bu l i).toNat)) : bm l r d := by
 refine ⟨hv, ha.dv, fun i hi hu => hon i hi (ha.use i hi hu) (hb.use i hi hu), hpar, fun i hi ho => ?_, fun x hx => ?_⟩
 ·rcases hon2 i hi ho with h | h
  ·exact ha.load i hi h
  ·exact hb.load i hi h
 ·have hu : Usd l d x.sup.toNat := .draw x hx
  have hi := uk hl ha.dv hu
  have h1 := ha.draw x hx
  have h2 := hb.draw x hx
  have h3 := hlo _ hi (ha.use _ hi hu) (hb.use _ hi hu)
  have r1 := hv.at_ hi
  have r2 := ha.rv.at_ hi
  have r3 := hb.rv.at_ hi
  constructor
  ·rcases h3.1 with h | h
   ·exact Int.le_trans h1.1 (cT hl hi r2.1 h r1.2)
   ·exact Int.le_trans h2.1 (cT hl hi r3.1 h r1.2)
  ·rcases h3.2 with h | h
   ·exact Int.le_trans (cT hl hi r1.1 h r2.2) h1.2
   ·exact Int.le_trans (cT hl hi r1.1 h r3.2) h2.2
theorem vQ {l : List Sup} (hl : aT l) {a b : Rl} {d : List Dr} (ha : bm l a d) (hb : bm l b d) {i : Nat} (hi : i < l.length) (ho : onA (aD a b) i = true) (hp : 0 <= bu l i) :
  onA (aD a b) (bu l i).toNat = true /\ vt l i (lvA (aD a b) i) + jc l i <= vt l (bu l i).toNat (lvA (aD a b) (bu l i).toNat) := by
 have hpl := ju hl hi hp
 have hpn : (bu l i).toNat < l.length := by omega
 rw [kg (by rw [hb.rv.1]; exact hi)] at ho
 rw [kg (by rw [hb.rv.1]; exact hpn), km (by rw [hb.rv.2.1]; exact hi), km (by rw [hb.rv.2.1]; exact hpn)]
 have a1 := ha.rv.at_ hpn
 have b1 := hb.rv.at_ hpn
 have pa := fun h => ha.par i hi h hp
 have pb := fun h => hb.par i hi h hp
 generalize (bu l i).toNat = p at *
 have mono : ∀ {j k : Int}, 0 <= j -> j <= k -> k < (l[p]'hpn).lv.length -> vt l p j <= vt l p k := fun h1 h2 h3 => cT hl hpn h1 h2 h3
 have h1 : lvA a p <= max (lvA a p) (lvA b p) := Int.le_max_left _ _
 have h2 : lvA b p <= max (lvA a p) (lvA b p) := Int.le_max_right _ _
 have h3 : max (lvA a p) (lvA b p) < (l[p]'hpn).lv.length := by omega
 by_cases hai : onA a i = true
 ·have ⟨q1, q2⟩ := pa hai
  have m1 := mono a1.1 h1 h3
  rw [if_pos hai, q1]
  refine ⟨rfl, ?_⟩
  simp only [if_true]
  by_cases hbi : onA b i = true
  ·have ⟨q3, q4⟩ := pb hbi
   have m2 := mono b1.1 h2 h3
   rw [if_pos hbi, if_pos q3]
   rcases Int.le_total (lvA a i) (lvA b i) with h | h
   ·rw [Int.max_eq_right h]; omega
   ·rw [Int.max_eq_left h]; omega
  ·rw [if_neg hbi]
   split <;> omega
 ·have hbi : onA b i = true := by
   cases h : onA b i
   ·rw [h] at ho; simp at ho; exact absurd ho hai
   ·rfl
  have ⟨q3, q4⟩ := pb hbi
  have m2 := mono b1.1 h2 h3
  rw [if_neg hai, q3]
  refine ⟨by simp, ?_⟩
  split
  ·simp only [if_true]; omega
  ·omega
structure sk (l : List Sup) (a b r : Rl) : Prop where
 rv : RlV l r
 on : ∀ i, i < l.length -> onA a i = true -> onA b i = true -> onA r i = true
 lo : ∀ i, i < l.length -> onA a i = true -> onA b i = true -> lvA a i <= lvA r i \/ lvA b i <= lvA r i
theorem AK {l : List Sup} (hl : aT l) {a b r : Rl} {d : List Dr} (ha : bm l a d) (hb : bm l b d) (hv : RlV l r) (c : Nat)
  (h1 : ∀ i, i < l.length -> i < c -> onA (aD a b) i = true -> onA r i = true /\ lvA r i = lvA (aD a b) i)
  (h2 : ∀ i, i < l.length -> i < c -> onA (aD a b) i = false -> onA r i = false)
  (h3 : ∀ i, i < l.length -> c <= i -> onA r i = onA a i)
  (h4 : ∀ i, i < l.length -> c < i -> lvA r i = lvA a i)
  (h5 : c < l.length -> lvA r c = lvA a c \/ (onA (aD a b) c = true /\ lvA r c = lvA (aD a b) c)) : bm l r d /\ sk l a b r := by
 have jon : ∀ i, i < l.length -> onA (aD a b) i = (onA a i || onA b i) := fun i hi => kg (by rw [hb.rv.1]; exact hi)
 have jlv : ∀ i, i < l.length -> lvA (aD a b) i = if onA a i then (if onA b i then max (lvA a i) (lvA b i) else lvA a i) else lvA b i := fun i hi => km (by rw [hb.rv.2.1]; exact hi)
 -- the level of what is on: as before, or as in the join
 have key : ∀ i, i < l.length -> onA r i = true -> onA (aD a b) i = true /\ (lvA r i = lvA (aD a b) i \/ (onA a i = true /\ lvA r i = lvA a i)) := by
  intro i hi ho
  rcases Nat.lt_or_ge i c with h | h
  ·cases hj : onA (aD a b) i
   ·rw [h2 i hi h hj] at ho; cases ho
   ·exact ⟨rfl, .inl (h1 i hi h hj).2⟩
  ·have hai : onA a i = true := by rw [<- h3 i hi h]; exact ho
   refine ⟨by rw [jon i hi, hai]; rfl, ?_⟩
   rcases Nat.lt_or_eq_of_le h with h | h
   ·exact .inr ⟨hai, h4 i hi h⟩
   ·subst h
    rcases h5 hi with h | h
    ·exact .inr ⟨hai, h⟩
    ·exact .inl h.2
 have lo : ∀ i, i < l.length -> onA a i = true -> onA b i = true -> onA r i = true := fun i hi ha' hb' => by
  rcases Nat.lt_or_ge i c with h | h
  ·exact (h1 i hi h (by rw [jon i hi, ha']; rfl)).1
  ·rw [h3 i hi h]; exact ha'
 have lo2 : ∀ i, i < l.length -> onA a i = true -> onA b i = true -> (lvA a i <= lvA r i \/ lvA b i <= lvA r i) /\ (lvA r i <= lvA a i \/ lvA r i <= lvA b i) := fun i hi ha' hb' => by
  rcases (key i hi (lo i hi ha' hb')).2 with h | ⟨_, h⟩
  ·rw [h, jlv i hi, if_pos ha', if_pos hb']; omega
  ·omega
 refine ⟨bm.mix hl ha hb hv lo (fun i hi ho => ?_) lo2 fun i hi ho hp => ?_, hv, lo, fun i hi ha' hb' => (lo2 i hi ha' hb').1⟩
 ·have := (key i hi ho).1
  rw [jon i hi] at this
  simpa using this
 ·have hpl := ju hl hi hp
  have hpn : (bu l i).toNat < l.length := by omega
  obtain ⟨k1, k2⟩ := key i hi ho
  obtain ⟨t1, t2⟩ := vQ hl ha hb hi k1 hp
  rcases Nat.lt_or_ge (bu l i).toNat c with h | h
  ·obtain ⟨q1, q2⟩ := h1 _ hpn h t1
   refine ⟨q1, ?_⟩
   rw [q2]
   rcases k2 with k2 | ⟨k2, k3⟩
   ·rw [k2]; exact t2
   ·have := (ha.par i hi k2 hp)
    have a1 := ha.rv.at_ hpn
    have b1 := hb.rv.at_ hpn
    have := cT hl hpn (j := lvA a (bu l i).toNat) (k := lvA (aD a b) (bu l i).toNat) a1.1 (by rw [jlv _ hpn, if_pos this.1]; split <;> omega) (by rw [jlv _ hpn, if_pos this.1]; split <;> omega)
    rw [k3]; omega
  ·
   have hic : c < i := by omega
   have hai : onA a i = true := by rw [<- h3 i hi (by omega)]; exact ho
   have hap := ha.par i hi hai hp
   refine ⟨by rw [h3 _ hpn h]; exact hap.1, ?_⟩
   rw [h4 i hi hic]
   rcases Nat.lt_or_eq_of_le h with h | h
   ·rw [h4 _ hpn h]; exact hap.2
   ·rcases h5 (by omega) with h' | ⟨_, h'⟩
    ·rw [<- h, h', h]; exact hap.2
    ·rw [<- h, h', h]
     have a1 := ha.rv.at_ hpn
     have b1 := hb.rv.at_ hpn
     have := cT hl hpn (j := lvA a (bu l i).toNat) (k := lvA (aD a b) (bu l i).toNat) a1.1 (by rw [jlv _ hpn, if_pos hap.1]; split <;> omega) (by rw [jlv _ hpn, if_pos hap.1]; split <;> omega)
     omega
theorem yx {l : List Sup} (hl : aT l) {a b r : Rl} {d : List Dr} (ha : bm l a d) (hb : bm l b d) (hv : RlV l r) (c : Nat)
  (h1 : ∀ i, i < l.length -> c <= i -> onA r i = onA b i /\ lvA r i = lvA b i)
  (h2 : ∀ i, i < l.length -> i + 1 < c -> onA r i = onA (aD a b) i /\ (onA r i = true -> lvA r i = lvA (aD a b) i))
  (h3 : ∀ i, i < l.length -> i + 1 = c -> (onA r i = onA (aD a b) i /\ (onA r i = true -> lvA r i = lvA (aD a b) i)) \/ (onA r i = onA b i /\ (onA b i = true -> lvA r i = lvA b i \/ lvA r i = lvA (aD a b) i))) : bm l r d /\ sk l a b r := by
 have jon : ∀ i, i < l.length -> onA (aD a b) i = (onA a i || onA b i) := fun i hi => kg (by rw [hb.rv.1]; exact hi)
 have jlv : ∀ i, i < l.length -> lvA (aD a b) i = if onA a i then (if onA b i then max (lvA a i) (lvA b i) else lvA a i) else lvA b i := fun i hi => km (by rw [hb.rv.2.1]; exact hi)
 -- each supply is as in the join, or as at the end
 have key : ∀ i, i < l.length -> (onA r i = onA (aD a b) i /\ (onA r i = true -> lvA r i = lvA (aD a b) i)) \/ (c <= i + 1 /\ onA r i = onA b i /\ (onA b i = true -> lvA r i = lvA b i)) := by
  intro i hi
  rcases Nat.lt_or_ge i c with h | h
  ·rcases Nat.lt_or_ge (i + 1) c with h' | h'
   ·exact .inl (h2 i hi h')
   ·rcases h3 i hi (by omega) with h | ⟨k1, k2⟩
    ·exact .inl h
    ·cases hb' : onA b i
     ·exact .inr ⟨h', k1.trans hb', fun h => by cases h⟩
     ·rcases k2 hb' with k2 | k2
      ·exact .inr ⟨h', k1.trans hb', fun _ => k2⟩
      ·exact .inl ⟨by rw [k1, jon i hi, hb']; simp, fun _ => k2⟩
  ·exact .inr ⟨by omega, (h1 i hi h).1, fun _ => (h1 i hi h).2⟩
 have lo : ∀ i, i < l.length -> onA a i = true -> onA b i = true -> onA r i = true := fun i hi ha' hb' => by
  rcases key i hi with h | h
  ·rw [h.1, jon i hi, ha']; rfl
  ·rw [h.2.1]; exact hb'
 have lo2 : ∀ i, i < l.length -> onA a i = true -> onA b i = true -> (lvA a i <= lvA r i \/ lvA b i <= lvA r i) /\ (lvA r i <= lvA a i \/ lvA r i <= lvA b i) := fun i hi ha' hb' => by
  rcases key i hi with h | h
  ·rw [h.2 (lo i hi ha' hb'), jlv i hi, if_pos ha', if_pos hb']; omega
  ·rw [h.2.2 hb']; omega
 refine ⟨bm.mix hl ha hb hv lo (fun i hi ho => ?_) lo2 fun i hi ho hp => ?_, hv, lo, fun i hi ha' hb' => (lo2 i hi ha' hb').1⟩
 ·rcases key i hi with h | h
  ·rw [h.1, jon i hi] at ho
   simpa using ho
  ·rw [h.2.1] at ho; exact .inr ho
 ·have hpl := ju hl hi hp
  have hpn : (bu l i).toNat < l.length := by omega
  have a1 := ha.rv.at_ hpn
  have b1 := hb.rv.at_ hpn
  rcases key i hi with h | ⟨hc, h, h'⟩
  ·
   have ho' := ho
   rw [h.1] at ho'
   obtain ⟨t1, t2⟩ := vQ hl ha hb hi ho' hp
   rcases Nat.lt_or_ge i c with hic | hic
   ·have := h2 _ hpn (by omega)
    rw [h.2 ho, this.2 (by rw [this.1]; exact t1), this.1]
    exact ⟨t1, t2⟩
   ·
    have hh := h1 i hi hic
    have hbi : onA b i = true := by rw [<- hh.1]; exact ho
    obtain ⟨p1, p2⟩ := hb.par i hi hbi hp
    have e1 := hh.2
    rcases key _ hpn with g | ⟨_, g, g'⟩
    ·refine ⟨by rw [g.1, jon _ hpn, p1]; simp, ?_⟩
     rw [g.2 (by rw [g.1, jon _ hpn, p1]; simp), e1]
     have := cT hl hpn (j := lvA b (bu l i).toNat) (k := lvA (aD a b) (bu l i).toNat) b1.1 (by rw [jlv _ hpn, if_pos p1]; split <;> omega) (by rw [jlv _ hpn, if_pos p1]; split <;> (try split) <;> omega)
     omega
    ·refine ⟨by rw [g]; exact p1, ?_⟩
     rw [g' p1, e1]; exact p2
  ·have hbi : onA b i = true := by rw [<- h]; exact ho
   obtain ⟨p1, p2⟩ := hb.par i hi hbi hp
   have e1 := h' hbi
   rcases key _ hpn with g | ⟨_, g, g'⟩
   ·refine ⟨by rw [g.1, jon _ hpn, p1]; simp, ?_⟩
    rw [g.2 (by rw [g.1, jon _ hpn, p1]; simp), e1]
    have := cT hl hpn (j := lvA b (bu l i).toNat) (k := lvA (aD a b) (bu l i).toNat) b1.1 (by rw [jlv _ hpn, if_pos p1]; split <;> omega) (by rw [jlv _ hpn, if_pos p1]; split <;> (try split) <;> omega)
    omega
   ·refine ⟨by rw [g]; exact p1, ?_⟩
    rw [g' p1, e1]; exact p2
theorem aI {P : Prop} (h : P := by
 (first | ((first | apply bx.snoc (f := Sup.pv) (a := _) rfl | apply bx.one (f := Sup.pv) (a := _) rfl | (apply bx.snoc (f := Sup.pv) (a := ⟨_, _, _, _, _, _⟩); dsimp only [Sup.pv]; exact rfl) | (apply bx.one (f := Sup.pv) (a := ⟨_, _, _, _, _, _⟩); dsimp only [Sup.pv]; exact rfl)); exact ar_) | apply IsL.set (f := Sup.pv) (a := _) rfl | apply IsL.rep (f := Sup.pv) (a := _) rfl | (apply IsL.set (f := Sup.pv) (a := ⟨_, _, _, _, _, _⟩); dsimp only [Sup.pv]; exact rfl) | (apply IsL.rep (f := Sup.pv) (a := ⟨_, _, _, _, _, _⟩); dsimp only [Sup.pv]; exact rfl) | apply IsL.lit (f := Sup.pv) [] rfl | apply IsL.lit (f := Sup.pv) [_] rfl | apply IsL.lit (f := Sup.pv) [_, _] rfl | apply IsL.lit (f := Sup.pv) [_, _, _] rfl | apply IsL.lit (f := Sup.pv) [] rfl | apply IsL.lit (f := Sup.pv) [⟨_, _, _, _, _, _⟩] rfl | apply IsL.lit (f := Sup.pv) [⟨_, _, _, _, _, _⟩, ⟨_, _, _, _, _, _⟩] rfl | apply IsL.lit (f := Sup.pv) [⟨_, _, _, _, _, _⟩, ⟨_, _, _, _, _, _⟩, ⟨_, _, _, _, _, _⟩] rfl) <;> (solve_by_elim (newGoals := .nonDependentOnly) (symm := false) (exfalso := false) (transparency := .reducible) only [rfl, aC])) : P := h
theorem zy (a : Act) (d : Nat) (v : Value) : (a.put (some d) v).tmps.size = a.tmps.size := by simp [Act.put]
theorem iK {P : Program} {nt : Nat} {S : Nat -> Prop} {fr : List (Nat × AV)} {a : Act} {w : World} {t : Nat} {x : Value} (h : ItS P nt S fr a w) (e : dQ fr t = .p (.v x)) : a.tmps.getD t undef = x := by
 have := h.fr t
 rw [e] at this
 exact this.pv.1
theorem rb {P : Program} {o : Oper} {t : TypeId} {x : Operand} {a : Act} {w : World} {v u : Value} (ho : o.op = .load t x) (hx : a.eval x = u) (h : (Instr.loadAt t u).run P w = .ok v w) : (execOp a.eval o).run P w = .ok (.value v) w := by
 simp only [execOp, ho, hx]
 rw [Sem.run_bind, h]
 rfl
theorem A8 {P : Program} {o : Oper} {x : Operand} {a : Act} {w : World} {v : Value} (ho : o.op = .move x) (hx : a.eval x = v) : (execOp a.eval o).run P w = .ok (.value v) w := by
 simp only [execOp, ho, hx]
 rfl
theorem zQ {P : Program} {o : Oper} {t : TypeId} {x y : Operand} {a : Act} {w : World} {v u z : Value} (ho : o.op = .indexAddr t x y) (hx : a.eval x = u) (hy : a.eval y = z) (h : (Instr.indexAt t u z).run P w = .ok v w) : (execOp a.eval o).run P w = .ok (.value v) w := by
 simp only [execOp, ho, hx, hy]
 rw [Sem.run_bind, h]
 rfl
theorem Ce {P : Program} {o : Oper} {t : TypeId} {x : Operand} {a : Act} {w : World} {b : Bool} (ho : o.op = .unOp .not t x) (hx : a.eval x = .bool b) : (execOp a.eval o).run P w = .ok (.value (.bool (!b))) w := by
 simp only [execOp, ho, hx]
 rfl
def bkF (l : Nat) (ad : Addr) (v : Int) : List (Nat × AV) := [(0, .clo (.yield l) []), (1, .p (.v (.pointer (some ad)))), (3, .p (pI v))]
def CP (a : Act) (_ : World) : Nat := match a.tmps.getD 3 undef with
 | .int _ v => (v + 1).toNat
 | _ => 0
theorem wF {S : Nat -> Prop} {l : Nat} {ad : Addr} {v : Int} {a : Act} {W : World} {nt : Nat} (h : ItS Tryz.prog nt S (bkF l ad v) a W) : CP a W = (v + 1).toNat := by
 unfold CP
 rw [h.int (t := 3) rfl]
theorem ig {n k : Nat} (h : k < n) : ((List.finRange n).drop (k + 1)).reverse ++ [⟨k, h⟩] = ((List.finRange n).drop k).reverse := by
 have e : (List.finRange n).drop k = ⟨k, h⟩ :: (List.finRange n).drop (k + 1) := by
  rw [List.drop_eq_getElem_cons (by simpa using h)]
  simp
 rw [e, List.reverse_cons]
theorem yc048 {P : Prop} (h : P := by
 ((conv => whnf); repeat' ((first | apply aB.plain | refine' gC | refine' gpI | refine' gpB | refine' aI | refine' gE | (apply ax.quiet (by kernel_rfl) (by kernel_rfl); (conv => whnf); fail_if_success (show False))) <;> (conv => whnf))) <;> (solve_by_elim (newGoals := .nonDependentOnly) (symm := false) (exfalso := false) (transparency := .reducible) only [rfl, aC])) : P := h
set_option maxHeartbeats 4000000 in
theorem oT (nl : Bool) (ls : List Sup) :
  CX Tryz.prog 157 (.list nl (ls.map Sup.pv)) (α := Fin ls.length) (fun i => [pI (i.val : Int), (ls[i.val]'i.isLt).pv]) ls.length (List.finRange ls.length).reverse := by
 refine ⟨rY Tryz.func157 rfl rfl, fun n S w ad u hlt hG hS hcell hr => ?_⟩
 obtain ⟨hlen0, hone⟩ := hr.vX
 rw [List.length_map] at hlen0
 have hlen : (ls.length : Int) <= 9223372036854775807 := zL hlen0
 obtain ⟨_, vs, rfl, hvs, hld⟩ := fq (ti := ti) au (t := 29) (H := []) (m := fun _ => undef) (k := fun v => v = .p (.list nl (ls.map Sup.pv))) (by conv => whnf) (Rd.Dg (P := Tryz.prog) hS hcell hr hone)
 have hrs : RdP S w (.list nl (ls.map Sup.pv)) vs := by cases hvs with | p _ _ h => exact h
 obtain ⟨_, hone2⟩ := hrs.vX
 have hix : ∀ i : Fin ls.length, ∃ pv : Addr × Value, (∀ W, (Instr.indexAt 29 vs (.int .i64 (i.val : Int))).run Tryz.prog W = .ok (.pointer (some pv.1)) W) /\ RdP S w (ls[i.val]'i.isLt).pv pv.2 /\
   ∀ W, b8 S w W -> (Instr.loadAt 70 (.pointer (some pv.1))).run Tryz.prog W = .ok pv.2 W := by
  intro i
  obtain ⟨p, hp, hpr⟩ := j4 (P := Tryz.prog) (H := []) (m := fun _ => undef) (t := 29) (e := 70) (kd := .i64) (i := (i.val : Int)) (z := (ls[i.val]'i.isLt).pv) (by kernel_rfl) (au.ok _ _ rfl) hrs (by omega) (by simp) rfl
  have hw : de ti [] 70 (.aN (ls[i.val]'i.isLt).pv.cells) (fun v => v = .p (ls[i.val]'i.isLt).pv) := by
   conv => whnf
   rfl
  obtain ⟨_, v, rfl, hv, hvl⟩ := fq (ti := ti) au hw hp
  cases hp with
  | aN _ a us h1 h2 h3 => exact ⟨(a, v), hpr, by cases hv with | p _ _ h => exact h, hvl⟩
 obtain ⟨ps, hps⟩ := Classical.axiomOfChoice hix
 refine ⟨fun i => #[.int .i64 (i.val : Int), (ps i).2], fun i => ⟨rfl, fun j c hj => ?_⟩, fun l J Jx W hW hJ hJx hY h0 => ?_⟩
 ·match j, hj with
  | 0, hj => cases hj; exact .v _ rfl
  | 1, hj => cases hj; exact (hps i).2.1
 ·show CallsIn _ _ _ _ #[.func (.yield l) #[] #[], .pointer (some ad)] _ _
  refine callsIn_of_wp Tryz.func157 rfl trivial ?_ rfl
  have hKW : ∀ c, S c -> W.heap[c]? = w.heap[c]? := fun c hc => hW.block c (hlt c hc)
  have i0 := ItS.CA (P := Tryz.prog) (S := S) (w := W) (x := .clo (.yield l) []) (y := .p (.v (.pointer (some ad)))) (vx := .func (.yield l) #[] #[]) (vy := .pointer (some ad)) (k := Tryz.f157.ntmps - 2) (nt := 19)
   (fun b hb => Nat.lt_of_lt_of_le (hlt b hb) hW.size) (hG.mono hKW fun _ h => h) (.clo _ _ _ rfl (by simp)) (.p _ _ (.v _ rfl)) rfl
  change Code.wpIn _ _ _ _ _ { tmps := #[.func (.yield l) #[] #[], .pointer (some ad)] ++ Array.replicate (Tryz.f157.ntmps - 2) undef, defers := [] } W
  generalize ({ tmps := #[.func (.yield l) #[] #[], .pointer (some ad)] ++ Array.replicate (Tryz.f157.ntmps - 2) undef, defers := [] } : Act) = a0 at i0 ⊢
  refine wpIn_seq (wpIn_region_lit (lF rfl (rb (v := vs) rfl (iK i0 (t := 1) rfl) (hld W hKW)) ?_))
  have i1 := i0.put (d := 4) (x := .p (.list nl (ls.map Sup.pv))) (v := vs) (by decide) (.p _ _ (hrs.mono hKW fun _ h => h))
  generalize a0.put (some 4) vs = a1 at i1 ⊢
  refine i1.list au 3 (fr' := bkF l ad ((ls.length : Int) - 1)) ?_ fun a1 i1 => wpListIn_nil ?_
  ·refine' yc048
   (all_goals refine' aj)
  refine wpIn_block (wpIn_loop (fun a W' => ∃ k : Nat, k <= ls.length /\ ItS Tryz.prog 19 S (bkF l ad ((k : Int) - 1)) a W' /\ J ((List.finRange ls.length).drop k).reverse W' /\ ∀ c, S c -> W'.heap[c]? = w.heap[c]?) CP
   ⟨ls.length, Nat.le_refl _, i1, by rw [List.drop_eq_nil_of_le (by simp)]; exact h0, hKW⟩ ?_)
  rintro a2 W2 ⟨k, hk, i2, hJ2, hK2⟩
  rw [wF i2]
  refine wpIn_seq (wpIn_seq (i2.region au (fr' := (8, .p (pB (decide ((k : Int) - 1 >= 0)))) :: bkF l ad ((k : Int) - 1)) ?_ fun a3 i3 => ?_))
  ·refine' yc048
   (all_goals refine' aj)
  rcases Nat.eq_zero_or_pos k with hz | hp
  ·subst hz
   refine wpIn_cond (t := false) ?_ (wpIn_exit ?_)
   ·exact i3.bool (t := 8) rfl
   ·exact ⟨i3.nd, _, results_none rfl _ _ _, ⟨_, rfl⟩, .inl ⟨_, rfl, hJ2⟩⟩
  ·obtain ⟨k, rfl⟩ : ∃ j, k = j + 1 := ⟨k - 1, by omega⟩
   have ek : ((k + 1 : Nat) : Int) - 1 = (k : Int) := by omega
   rw [ek] at i3 i2
   have hkl : k < ls.length := by omega
   have ed : decide ((k : Int) >= 0) = true := decide_eq_true (by omega)
   rw [ed] at i3
   obtain ⟨q1, q2, q3⟩ := hps ⟨k, hkl⟩
   refine wpIn_cond (t := true) (i3.bool (t := 8) rfl) (wpIn_skip ?_)
   refine wpIn_seq (wpIn_block (wpIn_seq (wpIn_region_lit (i3.list au 2 (fr' := (11, .clo (.yield l) []) :: (12, .p (pI k)) :: bkF l ad k) ?_ fun a4 i4 => ?_))))
   ·refine' yc048
    (all_goals refine' aj)
   refine lF rfl (rb (v := vs) rfl (iK i4 (t := 1) rfl) (hld W2 hK2)) ?_
   have i5 := i4.put (d := 13) (x := .p (.v vs)) (v := vs) (by decide) (.p _ _ (.v _ hone2))
   generalize a4.put (some 13) vs = a5 at i5 ⊢
   refine lF rfl (A8 (v := .int .i64 k) rfl (iK i5 (t := 3) rfl)) ?_
   have i6 := i5.put (d := 14) (x := .p (pI k)) (v := .int .i64 k) (by decide) (.p _ _ (.v _ rfl))
   generalize a5.put (some 14) (.int .i64 k) = a6 at i6 ⊢
   refine lF rfl (zQ (v := .pointer (some (ps ⟨k, hkl⟩).1)) rfl (iK i6 (t := 13) rfl) (iK i6 (t := 14) rfl) (q1 W2)) ?_
   have i7 := i6.put (d := 15) (x := .p (.v (.pointer (some (ps ⟨k, hkl⟩).1)))) (v := .pointer (some (ps ⟨k, hkl⟩).1)) (by decide) (.p _ _ (.v _ rfl))
   generalize a6.put (some 15) (.pointer (some (ps ⟨k, hkl⟩).1)) = a7 at i7 ⊢
   refine lF rfl (rb (v := (ps ⟨k, hkl⟩).2) rfl (iK i7 (t := 15) rfl) (q3 W2 hK2)) ?_
   have i8 := i7.put (d := 16) (x := .p (ls[k]'hkl).pv) (v := (ps ⟨k, hkl⟩).2) (by decide) (.p _ _ (q2.mono hK2 fun _ h => h))
   have hv16 := Ca (v := (ps ⟨k, hkl⟩).2) (d := 16) (a := a7) (by rw [i7.sz]; decide)
   generalize a7.put (some 16) (ps ⟨k, hkl⟩).2 = a8 at i8 hv16 ⊢
   have hy := hY _ ⟨k, hkl⟩ W2 hJ2 (by simp; omega)
   have e1 : (#[Operand.tmp 12, Operand.tmp 16].map a8.eval : Array Value) = #[.int .i64 (k : Int), (ps ⟨k, hkl⟩).2] := by
    simp only [List.map_toArray, List.map_cons, List.map_nil, Act.eval, i8.int (t := 12) (kd := .i64) (v := k) rfl, hv16]
   refine BW rfl rfl (i8.yield (t := 11) rfl) (by rw [e1]; exact hy) ?_
   rintro e W3 (⟨rfl, hJ3, hK3⟩ | ⟨rfl, hJ3⟩)
   ·refine ⟨_, rfl, ?_⟩
    have i9 := (i8.world hK3).put (d := 17) (x := .p (pB true)) (v := .bool true) (by decide) (.p _ _ (.v _ rfl))
    refine i9.list au 1 (fr' := (18, .p (pB false)) :: bkF l ad k) ?_ fun a6 i6 => wpListIn_nil ?_
    ·refine' yc048
     (all_goals refine' aj)
    refine wpIn_cond (t := false) (i6.bool (t := 18) rfl) (wpIn_skip ?_)
    refine i6.region au (fr' := bkF l ad ((k : Int) - 1)) ?_ fun a7 i7 => ?_
    ·refine' yc048
     (all_goals refine' aj)
    rw [ig hkl] at hJ3
    refine ⟨⟨k, by omega, i7, hJ3, fun c hc => (hK3 c hc).trans (hK2 c hc)⟩, ?_⟩
    rw [wF i7]
    omega
   ·refine ⟨_, rfl, ?_⟩
    have h17 := Ca (v := Value.bool false) (d := 17) (a := a8) (by rw [i8.sz]; decide)
    have hs9 := zy a8 17 (Value.bool false)
    have hd9 : (a8.put (some 17) (Value.bool false)).defers = [] := i8.nd
    rw [i8.sz] at hs9
    generalize a8.put (some 17) (Value.bool false) = a9 at h17 hs9 hd9 ⊢
    refine lF rfl (Ce (b := false) rfl h17) (wpListIn_nil ?_)
    have h18 := Ca (v := Value.bool (!false)) (d := 18) (a := a9) (by rw [hs9]; decide)
    have hd10 : (a9.put (some 18) (Value.bool (!false))).defers = [] := hd9
    generalize a9.put (some 18) (Value.bool (!false)) = a10 at h18 hd10 ⊢
    refine wpIn_cond (t := true) h18 (wpIn_ret ?_)
    exact ⟨hd10, _, results_none rfl _ _ _, ⟨_, rfl⟩, .inr ⟨_, ⟨((List.finRange ls.length).take k).reverse, by rw [ig hkl, <- List.reverse_append, List.take_append_drop]⟩, hJ3⟩⟩
theorem ba {P : Prop} (h : P := by
 (first | ((first | apply bx.snoc (f := Dr.pv) (a := _) rfl | apply bx.one (f := Dr.pv) (a := _) rfl | (apply bx.snoc (f := Dr.pv) (a := ⟨_, _, _, _⟩); dsimp only [Dr.pv]; exact rfl) | (apply bx.one (f := Dr.pv) (a := ⟨_, _, _, _⟩); dsimp only [Dr.pv]; exact rfl)); exact ar_) | apply IsL.set (f := Dr.pv) (a := _) rfl | apply IsL.rep (f := Dr.pv) (a := _) rfl | (apply IsL.set (f := Dr.pv) (a := ⟨_, _, _, _⟩); dsimp only [Dr.pv]; exact rfl) | (apply IsL.rep (f := Dr.pv) (a := ⟨_, _, _, _⟩); dsimp only [Dr.pv]; exact rfl) | apply IsL.lit (f := Dr.pv) [] rfl | apply IsL.lit (f := Dr.pv) [_] rfl | apply IsL.lit (f := Dr.pv) [_, _] rfl | apply IsL.lit (f := Dr.pv) [_, _, _] rfl | apply IsL.lit (f := Dr.pv) [] rfl | apply IsL.lit (f := Dr.pv) [⟨_, _, _, _⟩] rfl | apply IsL.lit (f := Dr.pv) [⟨_, _, _, _⟩, ⟨_, _, _, _⟩] rfl | apply IsL.lit (f := Dr.pv) [⟨_, _, _, _⟩, ⟨_, _, _, _⟩, ⟨_, _, _, _⟩] rfl) <;> (solve_by_elim (newGoals := .nonDependentOnly) (symm := false) (exfalso := false) (transparency := .reducible) only [rfl, aC])) : P := h
theorem y2c33 {P : Prop} (h : P := by
 ((conv => whnf); repeat' ((first | apply aB.plain | refine' gC | refine' gpI | refine' gpB | refine' aI | refine' ba | refine' gE | (apply ax.quiet (by kernel_rfl) (by kernel_rfl); (conv => whnf); fail_if_success (show False))) <;> (conv => whnf))) <;> (solve_by_elim (newGoals := .nonDependentOnly) (symm := false) (exfalso := false) (transparency := .reducible) only [rfl, aC])) : P := h
theorem fC (nl : Bool) (l : List Sup) : ao Tryz.prog 106 [.p (.list nl (l.map Sup.pv))] [] fun r H => r = .clo (.func 157) [.ptr 0 0] /\ H = [some (.cells [.p (.list nl (l.map Sup.pv))])] := by
 refine aa Tryz.func106 rfl rfl au rfl ?_
 refine' y2c33
 (refine' ay.auto (.clo (.func 157) [.ptr 0 0]) ([some (.cells [.p (.list nl (l.map Sup.pv))])]) rfl rfl rfl rfl _ _ _ <;> refine' aj)
def us0 (n : Nat) (d : List Dr) : List Bool := d.foldl (fun xs x => xs.set x.sup.toNat true) (List.replicate n false)
def usS (l : List Sup) (xs : List Bool) (i : Nat) : List Bool :=
 if (xs.getD i false || (l.getD i default).alw) && decide (0 <= (l.getD i default).par) then (xs.set i (xs.getD i false || (l.getD i default).alw)).set (l.getD i default).par.toNat true else xs.set i (xs.getD i false || (l.getD i default).alw)
def usP (l : List Sup) (d : List Dr) (pre : List (Fin l.length)) : List Bool := pre.foldl (fun xs i => usS l xs i.val) (us0 l.length d)
def aL (l : List Sup) (d : List Dr) : List Bool := usP l d (List.finRange l.length).reverse
theorem re (n : Nat) (d : List Dr) : (us0 n d).length = n := by
 suffices h : ∀ (d : List Dr) (xs : List Bool), (d.foldl (fun xs x => xs.set x.sup.toNat true) xs).length = xs.length by
  rw [us0, h]; simp
 intro d
 induction d with
 | nil => intro xs; rfl
 | cons x d ih => intro xs; rw [List.foldl_cons, ih, List.length_set]
theorem y9 {n c : Nat} {d : List Dr} (h : c < d.length) : us0 n (d.take (c + 1)) = (us0 n (d.take c)).set (d[c]).sup.toNat true := by
 rw [List.take_succ_eq_append_getElem h, us0, List.foldl_append]
 rfl
theorem vZ (l : List Sup) (xs : List Bool) (i : Nat) : (usS l xs i).length = xs.length := by
 unfold usS
 split <;> simp
theorem v8 (l : List Sup) (d : List Dr) : ∀ pre : List (Fin l.length), (usP l d pre).length = l.length := by
 suffices h : ∀ (pre : List (Fin l.length)) (xs : List Bool), (pre.foldl (fun xs i => usS l xs i.val) xs).length = xs.length by
  intro pre; rw [usP, h, re]
 intro pre
 induction pre with
 | nil => intro xs; rfl
 | cons x d ih => intro xs; rw [List.foldl_cons, ih, vZ]
theorem y8 (l : List Sup) (d : List Dr) (pre : List (Fin l.length)) (y : Fin l.length) : usP l d (pre ++ [y]) = usS l (usP l d pre) y.val := by
 unfold usP
 rw [List.foldl_append]
 rfl
def C6 : Sc := (.one 2 (.take 4 (.one 5 (.take 6 (.take 7 (.one 8 (.take 9 (.take 10 (.one 11 .done)))))))))
def C5 : Sc := (.one 5 (.take 6 (.take 7 (.one 8 (.take 9 (.take 10 (.one 11 .done)))))))
def C4 : Sc := (.one 8 (.take 9 (.take 10 (.one 11 .done))))
def C3 : Sc := (.take 9 (.one 0 (.take 10 (.one 11 .done))))
def C2 : Sc := (.take 6 (.take 7 (.two 0 8 C4 C3)))
def C1 : Sc := (.take 4 (.two 0 5 C5 C2))
def uA : Sc := (.take 1 (.take 3 (.two 0 2 C6 C1)))
theorem zd421 {P : Prop} (h : P := by
 ((first | apply aB.plain | refine' gC | refine' gpI | refine' gpB | refine' aI | refine' ba | refine' gE | fail) <;> (conv => whnf)) <;> (solve_by_elim (newGoals := .nonDependentOnly) (symm := false) (exfalso := false) (transparency := .reducible) only [rfl, aC])) : P := h
theorem z2c33 {P : Prop} (h : P := by
 ((first | apply aB.plain | refine' gC | refine' gpI | refine' gpB | refine' aI | refine' ba | refine' gE | (apply ax.quiet (by kernel_rfl) (by kernel_rfl); (conv => whnf); fail_if_success (show False))) <;> (conv => whnf)) <;> (solve_by_elim (newGoals := .nonDependentOnly) (symm := false) (exfalso := false) (transparency := .reducible) only [rfl, aC])) : P := h
set_option maxHeartbeats 1000000 in
theorem kZ (nl n2 : Bool) (l : List Sup) (d : List Dr) (hl : aT l) (hd : b9 l.length d) : ao Tryz.prog 43 [.p (.list nl (l.map Sup.pv)), .p (.list n2 (d.map Dr.pv))] [] fun r H => ∃ nb : Bool, r = .p (.list nb ((aL l d).map pB)) /\ H = [] := by
 refine aa Tryz.func43 rfl rfl au rfl ?_
 have h16 := hl.1
 (conv => whnf); repeat' ((first | refine' z2c33 | (apply IsL.rep (f := pB) (a := false) rfl)) <;> (conv => whnf))
 refine ai (fun (c : Nat) => ⟨[(0, .p (.list nl (l.map Sup.pv))), (5, .ptr 0 0), (13, .p (.list n2 (d.map Dr.pv))), (14, .p (pI d.length)), (15, .p (pI c))], [some (.cells [.buf 1]), some (AO.buf 4 false ((us0 l.length (d.take c)).map pB))]⟩) (fun c => c <= d.length) (fun c => d.length - c) 0 ?_ ?_ ?_; refine' sa_
 ·omega
 intro c hc
 replace hc : c <= d.length := hc
 have hul := re l.length (d.take c)
 have hs : ∀ h : c < d.length, 0 <= (d[c]).sup /\ (d[c]).sup < l.length := fun h => (hd.2 _ (List.getElem_mem h)).1
 have hsn := fun h => y9 (n := l.length) (c := c) (d := d) h
 refine' y2c33
 ·(refine' ⟨c + 1, _, _, _⟩; rotate_right; refine' sa_; rotate_right; exact aw)
  ·exact (hsn (by omega)).symm
  ·omega
 refine ab.loc [] [] rfl rfl ((fC nl l).mono ?_)
 rintro _ _ ⟨rfl, rfl⟩
 have hc' : c = d.length := by omega
 subst hc'
 refine' y2c33
 refine iw.plain 157 2 (.list nl (l.map Sup.pv)) _ _ _ (fun pre => [some (.cells [.buf 1]), some (AO.buf 4 false ((usP l d pre).map pB)), none]) rfl rfl (oT nl l) (fun _ => rfl) ?_ ?_ ?_
 ·refine' sa_
  rw [List.take_length]
  rfl
 ·intro pre y hlt
  have hup := v8 l d pre
  have hy := y.isLt
  have hv := (hl.2.2 y.val hy).1
  have hsn := y8 l d pre y
  unfold usS at hsn
  simp only [ak hy] at hsn
  generalize usP l d (pre ++ [y]) = ys at hsn ⊢
  generalize usP l d pre = xs at hup hsn ⊢
  simp only [ak (show y.val < xs.length by omega)] at hsn
  obtain ⟨k, hk⟩ := y
  simp only at hy hv hsn ⊢
  (conv => whnf); repeat' ((first | refine' zd421 | (apply ax.bA uA (by kernel_rfl) (by kernel_rfl) (by kernel_rfl)) | (refine And.intro (show bJ _ = true from rfl) ?_)) <;> (conv => whnf))
  all_goals
   refine ⟨?_, trivial⟩
   refine' sa_
   rw [hsn]
   have hpd : decide (0 <= (l[k]).par) = true \/ decide (0 <= (l[k]).par) = false := by cases decide (0 <= (l[k]).par) <;> simp
   rcases hpd with hpd | hpd
   all_goals
    rw [hpd]
    simp only [decide_eq_true_eq, decide_eq_false_iff_not] at hpd
    first
    | (exfalso; omega)
    | (simp_all; done)
 ·rw [show usP l d (List.finRange l.length).reverse = aL l d from rfl]
  refine' y2c33
  (refine ay.frz _ _ _ [1] ?_; refine' ay.auto (.p (.list false ((aL l d).map pB))) ([]) rfl rfl rfl rfl _ _ _ <;> refine' aj)
  exact ⟨_, rfl, rfl⟩
theorem yt {σ : Type} {n : Nat} (f : σ -> Fin n -> σ) (s0 : σ) (P : Nat -> σ -> Prop) (h0 : P n s0) (hs : ∀ (k : Nat) (h : k < n) (s : σ), P (k + 1) s -> P k (f s ⟨k, h⟩)) : P 0 ((List.finRange n).reverse.foldl f s0) := by
 have key : ∀ (m k : Nat), k + m = n -> P k (((List.finRange n).drop k).reverse.foldl f s0) := by
  intro m
  induction m with
  | zero =>
   intro k hk
   rw [List.drop_eq_nil_of_le (by simp; omega), show k = n by omega]
   exact h0
  | succ m ih =>
   intro k hk
   rw [<- ig (show k < n by omega), List.foldl_append]
   exact hs k (by omega) _ (ih (k + 1) (by omega))
 have := key n 0 (by omega)
 rwa [List.drop_zero] at this
theorem bC (xs : List Bool) (i j : Nat) (v : Bool) : (xs.set i v).getD j false = if i = j /\ j < xs.length then v else xs.getD j false := by
 simp only [List.getD_eq_getElem?_getD, List.getElem?_set]
 by_cases h : i = j
 ·subst h
  by_cases hl : i < xs.length <;> simp [hl]
 ·simp [h]
theorem AG (n : Nat) : ∀ (d : List Dr) (j : Nat), j < n -> (∀ x ∈ d, x.sup.toNat < n) -> ((us0 n d).getD j false = true ↔ ∃ x ∈ d, x.sup.toNat = j) := by
 intro d j hj hd
 suffices h : ∀ (d : List Dr) (xs : List Bool), xs.length = n -> ((d.foldl (fun xs x => xs.set x.sup.toNat true) xs).getD j false = true ↔ xs.getD j false = true \/ ∃ x ∈ d, x.sup.toNat = j) by
  rw [us0, h d _ (by simp)]
  simp [hj]
 intro d
 induction d with
 | nil => intro xs _; simp
 | cons x d ih =>
  intro xs hx
  rw [List.foldl_cons, ih _ (by simpa using hx), bC]
  simp only [List.mem_cons, exists_eq_or_imp]
  by_cases he : x.sup.toNat = j
  ·simp [he, hx, hj]
  ·simp [he]
def EF (l : List Sup) (d : List Dr) (k : Nat) (xs : List Bool) : Prop := xs.length = l.length /\ ∀ j, j < l.length -> (xs.getD j false = true ↔ (k <= j /\ Usd l d j) \/ (j < k /\ ((∃ x ∈ d, x.sup.toNat = j) \/ ∃ c, k <= c /\ c < l.length /\ Usd l d c /\ 0 <= (l.getD c default).par /\ (l.getD c default).par.toNat = j)))
theorem dC {l : List Sup} {d : List Dr} (hl : aT l) (hd : b9 l.length d) {i : Nat} (hi : i < l.length) : (aL l d).getD i false = true ↔ Usd l d i := by
 have hpar : ∀ c, c < l.length -> (l.getD c default).par < c := fun c hc => by rw [ak hc]; exact (hl.2.2 c hc).1.2
 have key := yt (fun xs (i : Fin l.length) => usS l xs i.val) (us0 l.length d) (EF l d) ⟨re _ _, fun j hj => ?_⟩ fun k hk xs hx => ?_
 ·have := key.2 i hi
  rw [show aL l d = List.foldl (fun xs (i : Fin l.length) => usS l xs i.val) (us0 l.length d) (List.finRange l.length).reverse from rfl, this]
  simp
 ·rw [AG _ _ _ hj fun x hx => by have := (hd.2 x hx).1; omega]
  constructor
  ·exact fun h => .inr ⟨hj, .inl h⟩
  ·rintro (⟨h, _⟩ | ⟨_, h | ⟨c, h1, h2, _⟩⟩)
   ·omega
   ·exact h
   ·omega
 ·obtain ⟨hlen, hx⟩ := hx
  refine ⟨by rw [vZ, hlen], fun j hj => ?_⟩
  -- the supply itself
  have hv : (xs.getD k false || (l.getD k default).alw) = true ↔ Usd l d k := by
   rw [Bool.or_eq_true, hx k hk]
   constructor
   ·rintro ((⟨_, h⟩ | ⟨_, ⟨x, h, rfl⟩ | ⟨c, h1, h2, h3, h4, h5⟩⟩) | h)
    ·exact h
    ·exact .draw x h
    ·rw [ak h2] at h4 h5
     rw [<- h5]
     exact .par c h2 h3 h4
    ·rw [ak hk] at h
     exact .alw k hk h
   ·intro h
    cases h with
    | draw x h => exact .inl (.inr ⟨by omega, .inl ⟨x, h, rfl⟩⟩)
    | alw _ _ h => exact .inr (by rw [ak hk]; exact h)
    | par c h2 h3 h4 =>
     have := hpar c h2
     rw [ak h2] at this
     exact .inl (.inr ⟨by omega, .inr ⟨c, by omega, h2, h3, by rw [ak h2]; exact h4, by rw [ak h2]⟩⟩)
  have hpk := hpar k hk
  have hxj := hx j hj
  unfold usS
  rcases Nat.lt_trichotomy j k with hjk | hjk | hjk
  ·
   have e1 : (xs.set k (xs.getD k false || (l.getD k default).alw)).getD j false = xs.getD j false := by rw [bC, if_neg (by omega)]
   by_cases hc : ((xs.getD k false || (l.getD k default).alw) && decide (0 <= (l.getD k default).par)) = true
   ·rw [if_pos hc, bC]
    rw [Bool.and_eq_true, hv, decide_eq_true_eq] at hc
    by_cases he : (l.getD k default).par.toNat = j
    ·rw [if_pos ⟨he, by simp; omega⟩]
     exact ⟨fun _ => .inr ⟨hjk, .inr ⟨k, Nat.le_refl _, hk, hc.1, hc.2, he⟩⟩, fun _ => rfl⟩
    ·rw [if_neg (fun h => he h.1), e1, hxj]
     constructor
     ·rintro (⟨h, _⟩ | ⟨_, h | ⟨c, h1, h2⟩⟩)
      ·omega
      ·exact .inr ⟨hjk, .inl h⟩
      ·exact .inr ⟨hjk, .inr ⟨c, by omega, h2⟩⟩
     ·rintro (⟨h, _⟩ | ⟨_, h | ⟨c, h1, h2, h3, h4, h5⟩⟩)
      ·omega
      ·exact .inr ⟨by omega, .inl h⟩
      ·refine .inr ⟨by omega, .inr ⟨c, ?_, h2, h3, h4, h5⟩⟩
       rcases Nat.lt_or_eq_of_le h1 with h | h
       ·exact h
       ·subst h; exact absurd h5 he
   ·rw [if_neg hc, e1, hxj]
    rw [Bool.and_eq_true, hv, decide_eq_true_eq, not_and] at hc
    constructor
    ·rintro (⟨h, _⟩ | ⟨_, h | ⟨c, h1, h2⟩⟩)
     ·omega
     ·exact .inr ⟨hjk, .inl h⟩
     ·exact .inr ⟨hjk, .inr ⟨c, by omega, h2⟩⟩
    ·rintro (⟨h, _⟩ | ⟨_, h | ⟨c, h1, h2, h3, h4, h5⟩⟩)
     ·omega
     ·exact .inr ⟨by omega, .inl h⟩
     ·refine .inr ⟨by omega, .inr ⟨c, ?_, h2, h3, h4, h5⟩⟩
      rcases Nat.lt_or_eq_of_le h1 with h | h
      ·exact h
      ·subst h; exact absurd h4 (hc h3)
  ·subst hjk
   have e1 : (xs.set j (xs.getD j false || (l.getD j default).alw)).getD j false = (xs.getD j false || (l.getD j default).alw) := by rw [bC, if_pos ⟨rfl, by omega⟩]
   have e2 : (if (xs.getD j false || (l.getD j default).alw) && decide (0 <= (l.getD j default).par) then (xs.set j (xs.getD j false || (l.getD j default).alw)).set (l.getD j default).par.toNat true else xs.set j (xs.getD j false || (l.getD j default).alw)).getD j false = (xs.getD j false || (l.getD j default).alw) := by
    split
    ·rename_i hc
     rw [Bool.and_eq_true, decide_eq_true_eq] at hc
     rw [bC, if_neg (by omega), e1]
    ·exact e1
   rw [e2, hv]
   exact ⟨fun h => .inl ⟨Nat.le_refl _, h⟩, fun h => by rcases h with ⟨_, h⟩ | ⟨h, _⟩; exact h; omega⟩
  ·have e1 : (xs.set k (xs.getD k false || (l.getD k default).alw)).getD j false = xs.getD j false := by rw [bC, if_neg (by omega)]
   have e2 : (if (xs.getD k false || (l.getD k default).alw) && decide (0 <= (l.getD k default).par) then (xs.set k (xs.getD k false || (l.getD k default).alw)).set (l.getD k default).par.toNat true else xs.set k (xs.getD k false || (l.getD k default).alw)).getD j false = xs.getD j false := by
    split
    ·rename_i hc
     rw [Bool.and_eq_true, decide_eq_true_eq] at hc
     rw [bC, if_neg (by omega), e1]
    ·exact e1
   rw [e2, hxj]
   exact ⟨fun h => by rcases h with ⟨_, h⟩ | ⟨h, _⟩; exact .inl ⟨by omega, h⟩; omega, fun h => by rcases h with ⟨_, h⟩ | ⟨h, _⟩; exact .inl ⟨by omega, h⟩; omega⟩
theorem ej (l : List Sup) (d : List Dr) : (aL l d).length = l.length := v8 _ _ _
def ldP (l : List Sup) (d : List Dr) (pre : List (Fin l.length)) : List Int := pre.foldl (fun xs i => ldS l xs i.val) (ld0 l.length d)
theorem nZ {n c : Nat} {d : List Dr} (h : c < d.length) : ld0 n (d.take (c + 1)) = dd (ld0 n (d.take c)) (d[c]).sup.toNat (d[c]).load := by
 rw [List.take_succ_eq_append_getElem h, ld0, List.foldl_append]
 rfl
theorem Ba (l : List Sup) (xs : List Int) (i : Nat) : (ldS l xs i).length = xs.length := by
 unfold ldS
 split
 ·rw [fJ]
 ·rfl
theorem ta (l : List Sup) (d : List Dr) (pre : List (Fin l.length)) (y : Fin l.length) : ldP l d (pre ++ [y]) = ldS l (ldP l d pre) y.val := by
 unfold ldP
 rw [List.foldl_append]
 rfl
theorem f_ (l : List Sup) (d : List Dr) (pre : List (Fin l.length)) : (ldP l d pre).length = l.length := by
 suffices h : ∀ (pre : List (Fin l.length)) (xs : List Int), (pre.foldl (fun xs i => ldS l xs i.val) xs).length = xs.length by
  rw [ldP, h, rf]
 intro pre
 induction pre with
 | nil => intro xs; rfl
 | cons x d ih => intro xs; rw [List.foldl_cons, ih, Ba]
def Bnd (b : Int) (xs : List Int) : Prop := ∀ j, 0 <= xs.getD j 0 /\ xs.getD j 0 <= b
theorem Bnd.dd {b c v : Int} {xs : List Int} (h : Bnd b xs) (hv : 0 <= v /\ v <= c) (i : Nat) : Bnd (b + c) (dd xs i v) := by
 intro j
 rw [bQ]
 have h1 := h i
 have h2 := h j
 split <;> omega
theorem mG {n : Nat} {d : List Dr} (hd : b9 n d) : ∀ c, c <= d.length -> Bnd (10000 * c) (ld0 n (d.take c)) := by
 intro c
 induction c with
 | zero =>
  intro _ j
  have : (ld0 n (d.take 0)).getD j 0 = 0 := by
   rw [List.take_zero, ld0, List.foldl_nil]
   simp only [List.getD_eq_getElem?_getD, List.getElem?_replicate]
   split <;> rfl
  rw [this]
  omega
 | succ c ih =>
  intro h
  rw [nZ (by omega)]
  have h1 := (ih (by omega)).dd (v := (d[c]).load) (c := 10000) (hd.2 _ (List.getElem_mem _)).2.2.2 (d[c]).sup.toNat
  intro j
  have := h1 j
  omega
theorem wa {l : List Sup} {d : List Dr} (hd : b9 l.length d) : ∀ pre : List (Fin l.length), Bnd (320000 * 2 ^ pre.length) (ldP l d pre) := by
 suffices h : ∀ (pre : List (Fin l.length)) (xs : List Int) (b : Int), Bnd b xs -> Bnd (b * 2 ^ pre.length) (pre.foldl (fun xs i => ldS l xs i.val) xs) by
  intro pre
  refine h pre _ 320000 ?_
  intro j
  have := mG hd d.length (Nat.le_refl _) j
  rw [List.take_length] at this
  have := hd.1
  omega
 intro pre
 induction pre with
 | nil => intro xs b h; rw [show b * 2 ^ ([] : List (Fin l.length)).length = b by simp]; exact h
 | cons y pre ih =>
  intro xs b h
  rw [List.foldl_cons, List.length_cons, Int.pow_succ, Int.mul_comm (2 ^ pre.length) 2, <- Int.mul_assoc]
  refine ih _ _ ?_
  have h0 := h 0
  rw [show b * 2 = b + b by omega]
  unfold ldS
  split
  ·exact h.dd (h y.val) _
  ·intro j
   have := h j
   omega
theorem Bnd.le {b c : Int} {xs : List Int} (h : Bnd b xs) (hc : b <= c) : Bnd c xs := fun j => by have := h j; omega
theorem Bnd.at_ {b : Int} {xs : List Int} (h : Bnd b xs) {i : Nat} (hi : i < xs.length) : 0 <= xs[i] /\ xs[i] <= b := by
 have := h i
 rwa [ak hi] at this
def DL : Sc := (.one 5 (.take 7 (.one 8 (.take 9 (.take 10 (.one 11 .done))))))
def BM : Sc := (.one 8 (.take 9 (.take 10 (.one 11 .done))))
def BL : Sc := (.one 4 (.take 9 (.take 10 (.one 11 .done))))
def DK : Sc := (.take 7 (.two 4 8 BM BL))
def DJ : Sc := (.take 3 (.two 4 5 DL DK))
def DH : Sc := (.take 3 (.two 4 8 BM BL))
def DG : Sc := (.one 0 (.take 3 (.one 4 (.take 9 (.take 10 (.one 11 .done))))))
def DE : Sc := (.take 7 (.two 0 8 DH DG))
def lB : Sc := (.take 1 (.load 2 (.take 6 (.two 0 5 DJ DE))))
def lA : Sc := (.take 1 (.load 2 (.take 5 (.load 6 (.one 0 (.take 3 (.one 4 (.take 7 (.take 8 (.one 9 .done))))))))))
set_option maxHeartbeats 1000000 in
theorem nX (nl n2 : Bool) (l : List Sup) (d : List Dr) (hl : aT l) (hd : b9 l.length d) : ao Tryz.prog 45 [.p (.list nl (l.map Sup.pv)), .p (.list n2 (d.map Dr.pv))] [] fun r H => ∃ nb : Bool, r = .p (.list nb ((aS l d).map pI)) /\ H = [] := by
 refine aa Tryz.func45 rfl rfl au rfl ?_
 have h16 := hl.1
 have h32 := hd.1
 (conv => whnf); repeat' ((first | refine' z2c33 | (apply IsL.rep (f := pI) (a := 0) rfl)) <;> (conv => whnf))
 refine ai (fun (c : Nat) => ⟨[(0, .p (.list nl (l.map Sup.pv))), (5, .ptr 0 0), (13, .p (.list n2 (d.map Dr.pv))), (14, .p (pI d.length)), (15, .p (pI c))], [some (.cells [.buf 1]), some (AO.buf 3 false ((ld0 l.length (d.take c)).map pI))]⟩) (fun c => c <= d.length) (fun c => d.length - c) 0 ?_ ?_ ?_; refine' sa_
 ·omega
 intro c hc
 replace hc : c <= d.length := hc
 have hul := rf l.length (d.take c)
 have hb := (mG hd c hc).le (c := 320000) (by omega)
 have hs : ∀ h : c < d.length, 0 <= (d[c]).sup /\ (d[c]).sup < l.length := fun h => (hd.2 _ (List.getElem_mem h)).1
 have hlo : ∀ h : c < d.length, 0 <= (d[c]).load /\ (d[c]).load <= 10000 := fun h => (hd.2 _ (List.getElem_mem h)).2.2.2
 have hsn := fun h => nZ (n := l.length) (c := c) (d := d) h
 by_cases hcd : c < d.length
 ·have hs := hs hcd
  have hlo := hlo hcd
  have hsn := hsn hcd
  generalize ld0 l.length (d.take c) = xs at hul hb hsn ⊢
  have hbs := hb.at_ (i := (d[c]).sup.toNat) (by omega)
  unfold dd at hsn
  rw [ak (by omega)] at hsn
  (conv => whnf); repeat' ((first | refine' zd421 | (apply ax.bA lA (by kernel_rfl) (by kernel_rfl) (by kernel_rfl))) <;> (conv => whnf))
  (refine' ⟨c + 1, _, _, _⟩; rotate_right; refine' sa_; rotate_right; exact aw)
  ·exact hsn.symm
  ·omega
 ·have hc' : c = d.length := by omega
  subst hc'
  clear hs hlo hsn
  refine' y2c33
  refine ab.loc [] [] rfl rfl ((fC nl l).mono ?_)
  rintro _ _ ⟨rfl, rfl⟩
  refine' y2c33
  refine iw.plain 157 2 (.list nl (l.map Sup.pv)) _ _ _ (fun pre => [some (.cells [.buf 1]), some (AO.buf 3 false ((ldP l d pre).map pI)), none]) rfl rfl (oT nl l) (fun _ => rfl) ?_ ?_ ?_
  ·refine' sa_
   rw [List.take_length]
   rfl
  ·intro pre y hlt
   have hup := f_ l d pre
   have hy := y.isLt
   have hv := (hl.2.2 y.val hy).1
   have hbp := (wa hd pre).le (c := 20971520000) (by
    have : (2 : Int) ^ pre.length <= 2 ^ 16 := by
     exact_mod_cast Nat.pow_le_pow_right (by decide) (by omega)
    omega)
   have hsn := ta l d pre y
   unfold ldS dd at hsn
   simp only [ak hy] at hsn
   generalize ldP l d (pre ++ [y]) = ys at hsn ⊢
   generalize ldP l d pre = xs at hup hsn hbp ⊢
   simp only [ak (show y.val < xs.length by omega)] at hsn
   obtain ⟨k, hk⟩ := y
   simp only at hy hv hsn ⊢
   have hbk := hbp.at_ (i := k) (by omega)
   by_cases hp : 0 <= (l[k]).par
   ·have hbq := hbp.at_ (i := (l[k]).par.toNat) (by omega)
    rw [if_pos hp, ak (by omega)] at hsn
    (conv => whnf); repeat' ((first | refine' zd421 | (apply ax.bA lB (by kernel_rfl) (by kernel_rfl) (by kernel_rfl)) | (refine And.intro (show bJ _ = true from rfl) ?_)) <;> (conv => whnf))
    all_goals
     refine ⟨?_, trivial⟩
     refine' sa_
     rw [hsn]
   ·rw [if_neg hp] at hsn
    (conv => whnf); repeat' ((first | refine' zd421 | (apply ax.bA lB (by kernel_rfl) (by kernel_rfl) (by kernel_rfl)) | (refine And.intro (show bJ _ = true from rfl) ?_)) <;> (conv => whnf))
    all_goals
     refine ⟨?_, trivial⟩
     refine' sa_
     rw [hsn]
  ·rw [show ldP l d (List.finRange l.length).reverse = aS l d from rfl]
   refine' y2c33
   (refine ay.frz _ _ _ [1] ?_; refine' ay.auto (.p (.list false ((aS l d).map pI))) ([]) rfl rfl rfl rfl _ _ _ <;> refine' aj)
   exact ⟨_, rfl, rfl⟩
theorem all_succ {α : Type} {xs : List α} {p : α -> Bool} {c : Nat} (h : ∀ (k : Nat) (h : k < xs.length), k < c -> p xs[k] = false) (hc : ∀ (h : c < xs.length), p xs[c] = false) : ∀ (k : Nat) (h : k < xs.length), k < c + 1 -> p xs[k] = false := fun k hk hlt => by
 rcases Nat.lt_or_ge k c with h1 | h1
 ·exact h k hk h1
 ·obtain rfl : k = c := by omega
  exact hc hk
theorem cU (n lo hi : Int) : ao Tryz.prog 111 [.p (pI n), .p (pI lo), .p (pI hi)] [] fun r H => r = .p (pB (decide (lo <= n /\ n <= hi))) /\ H = [] := by
 refine aa Tryz.func111 rfl rfl au rfl ?_
 refine' y2c33
 all_goals
  refine' rp_
 ·by_cases h : n <= hi <;> simp [h] <;> omega
 ·simp; omega
def qk (s : Sup) : Bool := decide ((16 : Int) < s.lv.length)
theorem yi (s : Sup) : ao Tryz.prog 96 [.p s.pv] [] fun r H => r = .p (pB (qk s)) /\ H = [] := by
 refine aa Tryz.func96 rfl rfl au rfl ?_
 refine' y2c33
 refine' rp_
theorem uO  (nl : Bool) (xs : List _) : ao Tryz.prog 144 [.p (.list nl (xs.map Sup.pv)), .clo (.func 96) []] [] fun r H => (∃ v : Int, r = .p (pI v) /\ (decide (0 <= v) = xs.any fun x => qk x)) /\ H = [] := by
 refine aa Tryz.func144 rfl rfl au rfl ?_
 refine' y2c33
 refine ai (fun (c : Nat) => ⟨[(0, .p (.list nl (xs.map Sup.pv))), (1, .clo (.func 96) []), (7, .p (pI xs.length)), (8, .p (pI c))], []⟩) (fun c => c <= xs.length /\ ∀ (k : Nat) (h : k < xs.length), k < c -> (fun x => qk x) xs[k] = false) (fun c => xs.length - c) 0 ?_ ?_ ?_; refine' sa_
 ·exact ⟨by omega, by omega⟩
 rintro c ⟨hc, hok⟩
 rcases Nat.lt_or_ge c xs.length with hlt | hge
 ·refine' y2c33
  refine ab.loc [] [] rfl rfl ((yi xs[c]).mono ?_)
  rintro r H ⟨rfl, rfl⟩
  refine' y2c33
  ·(refine' ay.auto (.p (pI c)) ([]) rfl rfl rfl rfl _ _ _ <;> refine' aj)
   refine ⟨c, rfl, ?_⟩
   rw [List.any_eq_true.2 ⟨xs[c], List.getElem_mem _, by first | exact h0 | exact decide_eq_true h0 | exact decide_eq_true (by omega)⟩]
   exact decide_eq_true (by omega)
  ·(refine' ⟨c + 1, _, _, _⟩; rotate_right; refine' sa_; rotate_right; exact aw)
   exact ⟨by omega, all_succ hok fun _ => by first | exact h0 | exact decide_eq_false h0 | exact decide_eq_false (by omega)⟩
 ·refine' y2c33
  (refine' ay.auto (.p (pI (-1))) ([]) rfl rfl rfl rfl _ _ _ <;> refine' aj)
  refine ⟨-1, rfl, ?_⟩
  rw [List.any_eq_false.2]
  ·rfl
  ·intro x hx
   obtain ⟨k, hk, rfl⟩ := List.getElem_of_mem hx
   exact Bool.eq_false_iff.1 (hok k hk (by omega))
theorem pA  (nl : Bool) (xs : List _) : ao Tryz.prog 95 [.p (.list nl (xs.map Sup.pv)), .clo (.func 96) []] [] fun r H => r = .p (pB (xs.any fun x => qk x)) /\ H = [] := by
 refine aa Tryz.func95 rfl rfl au rfl ?_
 refine' y2c33
 refine ab.all ((uO  nl xs).mono ?_)
 rintro r H ⟨⟨v, rfl, hv⟩, rfl⟩
 refine' y2c33
 (refine' ay.auto (.p (pB (xs.any fun x => qk x))) ([]) rfl rfl rfl rfl _ _ _ <;> refine' aj)
 rw [<- hv]; rfl
theorem mZ (s : Sup) (i : Nat) (hi : i <= 16) : ao Tryz.prog 97 [.p s.pv, .p (pI i)] [] fun r H => ∃ b : Bool, r = .p (pB b) /\ H = [] /\ (b = true ↔ oX s i) := by
 refine aa Tryz.func97 rfl rfl au rfl ?_
 (conv => whnf); repeat' ((first | refine' z2c33 | (refine ab.scalar (cU _ _ _) ?_)) <;> (conv => whnf))
 all_goals try
  refine' rp_
  refine ⟨_, rfl, rfl, ?_⟩
  simp only [Bool.false_eq_true, false_iff]
  rintro ⟨v1, v2, v3, v4, v5, v6, v7⟩
  simp only [decide_eq_false_iff_not, decide_eq_true_eq] at *
  omega
 all_goals
  have g1 : -1 <= s.par /\ s.par < i := by simp only [decide_eq_true_eq] at *; omega
  have g2 : 1 <= s.lv.length := by omega
  have g3 : 0 <= s.drop /\ s.drop <= 5000 := by simp only [decide_eq_true_eq] at *; omega
  have g4 : s.par < 0 -> s.drop = 0 := by omega
  have g5 : 0 <= s.cap /\ s.cap <= 10000 := by simp only [decide_eq_true_eq] at *; omega
  refine ai (fun (c : Nat) => ⟨[(2, .ptr 0 0), (42, .p (.list s.ln (s.lv.map pI))), (43, .p (pI s.lv.length)), (44, .p (pI c))], [some (.cells [.p (pI s.par), .p (.list s.ln (s.lv.map pI)), .p (pI s.drop), .p (pI s.cap), .p (pB s.alw)])]⟩) (fun c => c <= s.lv.length /\ ∀ (k : Nat) (h : k < s.lv.length), k < c -> (1 <= s.lv[k] /\ s.lv[k] <= 5000) /\ (0 < k -> s.lv[k - 1] < s.lv[k])) (fun c => s.lv.length - c) 0 ?_ ?_ ?_; refine' sa_
  ·exact ⟨by omega, fun k h h' => by omega⟩
  rintro c ⟨hc, hv⟩
  have hn : ∀ h : c < s.lv.length, (¬ (1 <= s.lv[c] /\ s.lv[c] <= 5000) -> ¬ oX s i) /\ (∀ h0 : 0 < c, s.lv[c] <= s.lv[c - 1] -> ¬ oX s i) := fun h => by
   refine ⟨fun h1 ⟨_, _, _, _, _, h6, _⟩ => h1 (h6 _ (List.getElem_mem h)), fun h0 h1 ⟨_, _, _, _, _, _, h7⟩ => ?_⟩
   have := h7 (c - 1) (by omega)
   simp only [show c - 1 + 1 = c by omega] at this
   omega
  have hs : ∀ h : c < s.lv.length, (1 <= s.lv[c] /\ s.lv[c] <= 5000) -> (0 < c -> s.lv[c - 1] < s.lv[c]) -> ∀ (k : Nat) (h : k < s.lv.length), k < c + 1 -> (1 <= s.lv[k] /\ s.lv[k] <= 5000) /\ (0 < k -> s.lv[k - 1] < s.lv[k]) := fun h h1 h2 k hk hlt => by
   rcases Nat.lt_or_ge k c with h3 | h3
   ·exact hv k hk h3
   ·obtain rfl : k = c := by omega
    exact ⟨h1, h2⟩
  have e1 : ((c : Int) - 1).toNat = c - 1 := by omega
  (conv => whnf); repeat' ((first | refine' z2c33 | (refine ab.scalar (cU _ _ _) ?_)) <;> (conv => whnf))
  all_goals try simp only [e1] at h0
  all_goals first
  | (refine' rp_
     refine ⟨_, rfl, rfl, ?_⟩
     simp only [Bool.false_eq_true, false_iff]
     simp only [decide_eq_false_iff_not, decide_eq_true_eq] at *
     first
     | exact (hn (by omega)).1 (by omega)
     | exact (hn (by omega)).2 (by omega) (by omega))
  | ((refine' ⟨c + 1, _, _, _⟩; rotate_right; refine' sa_; rotate_right; exact aw)
     exact ⟨by omega, hs (by omega) (by simp only [decide_eq_true_eq] at *; omega) (by omega)⟩)
  | (refine' rp_
     refine ⟨_, rfl, rfl, ?_⟩
     simp only [true_iff]
     refine ⟨g1, g2, g3, g4, g5, fun v hvm => ?_, fun k hk => ?_⟩
     ·obtain ⟨k, hk, rfl⟩ := List.getElem_of_mem hvm
      exact (hv k hk (by omega)).1
     ·have := (hv (k + 1) hk (by omega)).2 (by omega)
      simpa using this)
theorem dH (nl : Bool) (l : List Sup) : ao Tryz.prog 36 [.p (.list nl (l.map Sup.pv))] [] fun r H => ∃ e : Int, r = .p (pI e) /\ H = [] /\ (e = 0 ↔ aT l) := by
 refine aa Tryz.func36 rfl rfl au rfl ?_
 (conv => whnf); repeat' ((first | refine' zd421 | (refine ab.scalar (pA _ _) ?_)) <;> (conv => whnf))
 ·refine' rp_
  exact ⟨_, rfl, rfl, fun h => (by cases h), fun h => (by have := h.1; omega)⟩
 ·refine' rp_
  refine ⟨_, rfl, rfl, fun h => (by cases h), fun h => ?_⟩
  have h1 := h.2.1
  rw [List.any_eq_true] at h0
  obtain ⟨s, h2, h3⟩ := h0
  have := h1 s h2
  have := of_decide_eq_true (show decide _ = true from h3)
  omega
 have h16 : l.length <= 16 := by omega
 have hm : ∀ s ∈ l, s.lv.length <= 16 := fun s hs => by
  rw [List.any_eq_false] at h0
  have := h0 s hs
  unfold qk at this
  simp at this
  omega
 refine ai (fun (c : Nat) => ⟨[(12, .p (.list nl (l.map Sup.pv))), (13, .p (pI l.length)), (14, .p (pI c))], []⟩) (fun c => c <= l.length /\ ∀ (k : Nat) (h : k < l.length), k < c -> oX l[k] k) (fun c => l.length - c) 0 ?_ ?_ ?_; refine' sa_
 ·exact ⟨by omega, fun k h h' => by omega⟩
 rintro c ⟨hc, hv⟩
 rcases Nat.lt_or_ge c l.length with hlt | hge
 ·(conv => whnf); repeat' ((first | refine' z2c33 | ((refine b4 (mZ l[c] c (by omega)) ?_; intro b0 hb0))) <;> (conv => whnf))
  ·refine' rp_
   refine ⟨_, rfl, rfl, fun h => (by cases h), fun h => ?_⟩
   have := hb0.2 (h.2.2 c hlt)
   rw [h0] at this
   cases this
  ·(refine' ⟨c + 1, _, _, _⟩; rotate_right; refine' sa_; rotate_right; exact aw)
   refine ⟨by omega, fun k hk hlt' => ?_⟩
   rcases Nat.lt_or_ge k c with h3 | h3
   ·exact hv k hk h3
   ·obtain rfl : k = c := by omega
    exact hb0.1 (by assumption)
 ·(conv => whnf); repeat' ((first | refine' z2c33 | ((refine b4 (mZ l[c] c (by omega)) ?_; intro b0 hb0))) <;> (conv => whnf))
  refine' rp_
  exact ⟨_, rfl, rfl, fun _ => ⟨h16, hm, fun k hk => hv k hk (by omega)⟩, fun _ => rfl⟩
instance (n : Nat) (x : Dr) : Decidable (DrV n x) := by unfold DrV; infer_instance
def oS (n : Nat) (x : Dr) : Bool := !decide (DrV n x)
def wS (nl : Bool) (l : List Sup) : AH := [some (.cells [.p (.list nl (l.map Sup.pv))])]
theorem yH (nb : Bool) (l : List Sup) (x : Dr) : ao Tryz.prog 115 [.p x.pv, .ptr 0 0] (wS nb l) fun r H => r = .p (pB (oS l.length x)) /\ H = wS nb l := by
 refine aa Tryz.func115 rfl rfl au rfl ?_
 (conv => whnf); repeat' ((first | refine' z2c33 | (refine ab.scalar (cU _ _ _) ?_)) <;> (conv => whnf))
 all_goals
  (refine' ay.auto (.p (pB _)) (wS nb l) rfl rfl rfl rfl _ _ _ <;> try refine' aj)
  refine congrArg (fun b => AV.p (pB b)) ?_
  simp only [decide_eq_true_eq, decide_eq_false_iff_not] at *
  rcases Decidable.em (DrV l.length x) with hd | hd
  ·have hd' := hd
   unfold DrV at hd'
   simp only [oS, hd, decide_true, Bool.not_true, cond_false, Bool.not_eq_false', decide_eq_true_eq, Bool.true_eq_false]
   omega
  ·have hd' := hd
   unfold DrV at hd'
   simp only [oS, hd, decide_false, Bool.not_false, cond_false, Bool.not_eq_true', decide_eq_false_iff_not]
   try omega
theorem vu (nb : Bool) (l : List Sup) (nl : Bool) (xs : List _) : ao Tryz.prog 159 [.p (.list nl (xs.map Dr.pv)), .clo (.func 115) [.ptr 0 0]] [some (.cells [.p (.list nb (l.map Sup.pv))])] fun r H => (∃ v : Int, r = .p (pI v) /\ (decide (0 <= v) = xs.any fun x => oS l.length x)) /\ H = [some (.cells [.p (.list nb (l.map Sup.pv))])] := by
 refine aa Tryz.func159 rfl rfl au rfl ?_
 refine' y2c33
 refine ai (fun (c : Nat) => ⟨[(0, .p (.list nl (xs.map Dr.pv))), (1, .clo (.func 115) [.ptr 0 0]), (7, .p (pI xs.length)), (8, .p (pI c))], [some (.cells [.p (.list nb (l.map Sup.pv))])]⟩) (fun c => c <= xs.length /\ ∀ (k : Nat) (h : k < xs.length), k < c -> (fun x => oS l.length x) xs[k] = false) (fun c => xs.length - c) 0 ?_ ?_ ?_; refine' sa_
 ·exact ⟨by omega, by omega⟩
 rintro c ⟨hc, hok⟩
 rcases Nat.lt_or_ge c xs.length with hlt | hge
 ·refine' y2c33
  refine ab.loc [0] [] rfl rfl ((yH nb l xs[c]).mono ?_)
  rintro r H ⟨rfl, rfl⟩
  refine' y2c33
  ·(refine' ay.auto (.p (pI c)) ([some (.cells [.p (.list nb (l.map Sup.pv))])]) rfl rfl rfl rfl _ _ _ <;> refine' aj)
   refine ⟨c, rfl, ?_⟩
   rw [List.any_eq_true.2 ⟨xs[c], List.getElem_mem _, by first | exact h0 | exact decide_eq_true h0 | exact decide_eq_true (by omega) | (simp only [oS]; simp_all; done)⟩]
   exact decide_eq_true (by omega)
  ·(refine' ⟨c + 1, _, _, _⟩; rotate_right; refine' sa_; rotate_right; exact aw)
   exact ⟨by omega, all_succ hok fun _ => by first | exact h0 | exact decide_eq_false h0 | exact decide_eq_false (by omega) | (simp only [oS]; simp_all; done)⟩
 ·refine' y2c33
  (refine' ay.auto (.p (pI (-1))) ([some (.cells [.p (.list nb (l.map Sup.pv))])]) rfl rfl rfl rfl _ _ _ <;> refine' aj)
  refine ⟨-1, rfl, ?_⟩
  rw [List.any_eq_false.2]
  ·rfl
  ·intro x hx
   obtain ⟨k, hk, rfl⟩ := List.getElem_of_mem hx
   exact Bool.eq_false_iff.1 (hok k hk (by omega))
theorem pO (nb : Bool) (l : List Sup) (nl : Bool) (xs : List _) : ao Tryz.prog 109 [.p (.list nl (xs.map Dr.pv)), .clo (.func 115) [.ptr 0 0]] [some (.cells [.p (.list nb (l.map Sup.pv))])] fun r H => r = .p (pB (xs.any fun x => oS l.length x)) /\ H = [some (.cells [.p (.list nb (l.map Sup.pv))])] := by
 refine aa Tryz.func109 rfl rfl au rfl ?_
 refine' y2c33
 refine ab.all ((vu nb l nl xs).mono ?_)
 rintro r H ⟨⟨v, rfl, hv⟩, rfl⟩
 refine' y2c33
 (refine' ay.auto (.p (pB (xs.any fun x => oS l.length x))) ([some (.cells [.p (.list nb (l.map Sup.pv))])]) rfl rfl rfl rfl _ _ _ <;> refine' aj)
 rw [<- hv]; rfl
theorem e9 (nl n2 : Bool) (l : List Sup) (d : List Dr) : ao Tryz.prog 52 [.p (.list nl (l.map Sup.pv)), .p (.list n2 (d.map Dr.pv))] [] fun r H => ∃ b : Bool, r = .p (pB b) /\ H = [] /\ (b = true ↔ aT l /\ b9 l.length d) := by
 refine aa Tryz.func52 rfl rfl au rfl ?_
 (conv => whnf); repeat' ((first | refine' z2c33 | ((refine dL (dH nl l) ?_; intro e he))) <;> (conv => whnf))
 ·have hl : aT l := he.1 (by assumption)
  refine ab.loc [0] [] rfl rfl ((pO nl l n2 d).mono ?_)
  rintro r H ⟨rfl, rfl⟩
  refine' y2c33
  refine' rp_
  refine ⟨_, rfl, rfl, ?_⟩
  rw [cond_true, Bool.not_eq_true', List.any_eq_false]
  constructor
  ·exact fun h => ⟨hl, by omega, fun x hx => by have := h x hx; unfold oS at this; simpa using this⟩
  ·rintro ⟨_, h⟩ x hx
   have := h.2 x hx
   unfold oS
   simpa using this
 ·refine' rp_
  exact ⟨_, rfl, rfl, fun h => (by cases h), fun h => (by have := h.2.1; omega)⟩
 ·refine' rp_
  exact ⟨_, rfl, rfl, fun h => (by cases h), fun h => absurd (he.2 h.1) (by assumption)⟩
def Rl.pv (n1 n3 : Bool) (r : Rl) : PV := .agg [.list n1 (r.on.map pB), .list n3 (r.lev.map pI)]
theorem lT (nl n1 n3 : Bool) (l : List Sup) (r : Rl) : ao Tryz.prog 108 [.p (.list nl (l.map Sup.pv)), .p (Rl.pv n1 n3 r)] [] fun r' H => ∃ b : Bool, r' = .p (pB b) /\ H = [] /\ (b = true ↔ aT l /\ RlV l r) := by
 refine aa Tryz.func108 rfl rfl au rfl ?_
 (conv => whnf); repeat' ((first | refine' z2c33 | ((refine dL (dH nl l) ?_; intro e he))) <;> (conv => whnf))
 ·refine' rp_
  exact ⟨_, rfl, rfl, fun h => (by cases h), fun h => absurd (he.2 h.1) (by assumption)⟩
 ·refine' rp_
  exact ⟨_, rfl, rfl, fun h => (by cases h), fun h => (by have := h.2.1; omega)⟩
 ·refine' rp_
  exact ⟨_, rfl, rfl, fun h => (by cases h), fun h => (by have := h.2.2.1; omega)⟩
 have hl : aT l := he.1 (by assumption)
 have e1 : r.on.length = l.length := by omega
 have e2 : r.lev.length = l.length := by omega
 refine ai (fun (c : Nat) => ⟨[(0, .p (.list nl (l.map Sup.pv))), (27, .p (.list n3 (r.lev.map pI))), (28, .p (pI r.lev.length)), (29, .p (pI c))], []⟩) (fun c => c <= r.lev.length /\ ∀ (k : Nat) (h : k < l.length) (h' : k < r.lev.length), k < c -> 0 <= r.lev[k] /\ r.lev[k] < (l[k]).lv.length) (fun c => r.lev.length - c) 0 ?_ ?_ ?_; refine' sa_
 ·exact ⟨by omega, fun k h h' hk => by omega⟩
 rintro c ⟨hc, hv⟩
 clear he
 (conv => whnf); repeat' ((first | refine' z2c33 | (refine ab.scalar (cU _ _ _) ?_)) <;> (conv => whnf))
 ·have hcl : c < r.lev.length := by omega
  refine' rp_
  simp only [decide_eq_false_iff_not] at h0
  exact ⟨_, rfl, rfl, fun h => (by cases h), fun h => absurd (h.2.2.2 c (by omega) hcl) (by omega)⟩
 ·have hcl : c < r.lev.length := by omega
  simp only [decide_eq_true_eq] at h0
  (refine' ⟨c + 1, _, _, _⟩; rotate_right; refine' sa_; rotate_right; exact aw)
  refine ⟨by omega, fun k h h' hk => ?_⟩
  rcases Nat.lt_or_ge k c with h3 | h3
  ·exact hv k h h' h3
  ·obtain rfl : k = c := by omega
   omega
 ·refine' rp_
  exact ⟨_, rfl, rfl, fun _ => ⟨hl, e1, e2, fun k h h' => hv k h h' (by omega)⟩, fun _ => rfl⟩
instance (l : List Sup) (r : Rl) (x : Dr) : Decidable (x.lo <= vt l x.sup.toNat (lvA r x.sup.toNat) /\ vt l x.sup.toNat (lvA r x.sup.toNat) <= x.hi) := by infer_instance
def qZ (l : List Sup) (r : Rl) (x : Dr) : Bool := !decide (x.lo <= vt l x.sup.toNat (lvA r x.sup.toNat) /\ vt l x.sup.toNat (lvA r x.sup.toNat) <= x.hi)
theorem yf (nl n1 n3 : Bool) (l : List Sup) (q : Rl) (hr : RlV l q) (x : Dr) (hx : 0 <= x.sup /\ x.sup < l.length) : ao Tryz.prog 110 [.p x.pv, .ptr 0 0, .ptr 1 0] [some (.cells [.p (.list nl (l.map Sup.pv))]), some (.cells [.p (.list n1 (q.on.map pB)), .p (.list n3 (q.lev.map pI))])] fun r' H => r' = .p (pB (qZ l q x)) /\ H = [some (.cells [.p (.list nl (l.map Sup.pv))]), some (.cells [.p (.list n1 (q.on.map pB)), .p (.list n3 (q.lev.map pI))])] := by
 refine aa Tryz.func110 rfl rfl au rfl ?_
 have h1 := hr.2.1
 have h2 := hr.2.2 x.sup.toNat (by omega) (by omega)
 (conv => whnf); repeat' ((first | refine' z2c33 | (refine gD.mk' (cU _ _ _) ?_)) <;> (conv => whnf))
 (refine' ay.auto (.p (pB _)) ([some (.cells [.p (.list nl (l.map Sup.pv))]), some (.cells [.p (.list n1 (q.on.map pB)), .p (.list n3 (q.lev.map pI))])]) rfl rfl rfl rfl _ _ _ <;> try refine' aj)
 refine congrArg (fun b => AV.p (pB b)) ?_
 have e : vt l x.sup.toNat (lvA q x.sup.toNat) = (l[x.sup.toNat]'(by omega)).lv[(q.lev[x.sup.toNat]'(by omega)).toNat]'(by omega) := by
  unfold vt lvA
  rw [ak (show x.sup.toNat < l.length by omega), ak (show x.sup.toNat < q.lev.length by omega), ak (by omega)]
 simp only [qZ, e]
theorem uG (nl n1 n3 : Bool) (l : List Sup) (q : Rl) (hr : RlV l q) (n2 : Bool) (xs : List Dr) (hx : ∀ x ∈ xs, 0 <= x.sup /\ x.sup < (l.length : Int)) : ao Tryz.prog 159 [.p (.list n2 (xs.map Dr.pv)), .clo (.func 110) [.ptr 0 0, .ptr 1 0]] [some (.cells [.p (.list nl (l.map Sup.pv))]), some (.cells [.p (.list n1 (q.on.map pB)), .p (.list n3 (q.lev.map pI))])] fun r H => (∃ v : Int, r = .p (pI v) /\ (decide (0 <= v) = xs.any fun x => qZ l q x)) /\ H = [some (.cells [.p (.list nl (l.map Sup.pv))]), some (.cells [.p (.list n1 (q.on.map pB)), .p (.list n3 (q.lev.map pI))])] := by
 refine aa Tryz.func159 rfl rfl au rfl ?_
 refine' y2c33
 refine ai (fun (c : Nat) => ⟨[(0, .p (.list n2 (xs.map Dr.pv))), (1, .clo (.func 110) [.ptr 0 0, .ptr 1 0]), (7, .p (pI xs.length)), (8, .p (pI c))], [some (.cells [.p (.list nl (l.map Sup.pv))]), some (.cells [.p (.list n1 (q.on.map pB)), .p (.list n3 (q.lev.map pI))])]⟩) (fun c => c <= xs.length /\ ∀ (k : Nat) (h : k < xs.length), k < c -> (fun x => qZ l q x) xs[k] = false) (fun c => xs.length - c) 0 ?_ ?_ ?_; refine' sa_
 ·exact ⟨by omega, by omega⟩
 rintro c ⟨hc, hok⟩
 rcases Nat.lt_or_ge c xs.length with hlt | hge
 ·refine' y2c33
  refine ab.loc [0, 1] [] rfl rfl ((yf nl n1 n3 l q hr xs[c] (hx _ (List.getElem_mem _))).mono ?_)
  rintro r H ⟨rfl, rfl⟩
  refine' y2c33
  ·(refine' ay.auto (.p (pI c)) ([some (.cells [.p (.list nl (l.map Sup.pv))]), some (.cells [.p (.list n1 (q.on.map pB)), .p (.list n3 (q.lev.map pI))])]) rfl rfl rfl rfl _ _ _ <;> refine' aj)
   refine ⟨c, rfl, ?_⟩
   rw [List.any_eq_true.2 ⟨xs[c], List.getElem_mem _, by first | exact h0 | exact decide_eq_true h0 | exact congrArg (! ·) h0 | exact decide_eq_true (by omega)⟩]
   exact decide_eq_true (by omega)
  ·(refine' ⟨c + 1, _, _, _⟩; rotate_right; refine' sa_; rotate_right; exact aw)
   exact ⟨by omega, all_succ hok fun _ => by first | exact h0 | exact decide_eq_false h0 | exact congrArg (! ·) h0 | exact decide_eq_false (by omega)⟩
 ·refine' y2c33
  (refine' ay.auto (.p (pI (-1))) ([some (.cells [.p (.list nl (l.map Sup.pv))]), some (.cells [.p (.list n1 (q.on.map pB)), .p (.list n3 (q.lev.map pI))])]) rfl rfl rfl rfl _ _ _ <;> refine' aj)
  refine ⟨-1, rfl, ?_⟩
  rw [List.any_eq_false.2]
  ·rfl
  ·intro x hx
   obtain ⟨k, hk, rfl⟩ := List.getElem_of_mem hx
   exact Bool.eq_false_iff.1 (hok k hk (by omega))
theorem py (nl n1 n3 : Bool) (l : List Sup) (q : Rl) (hr : RlV l q) (n2 : Bool) (xs : List Dr) (hx : ∀ x ∈ xs, 0 <= x.sup /\ x.sup < (l.length : Int)) : ao Tryz.prog 109 [.p (.list n2 (xs.map Dr.pv)), .clo (.func 110) [.ptr 0 0, .ptr 1 0]] [some (.cells [.p (.list nl (l.map Sup.pv))]), some (.cells [.p (.list n1 (q.on.map pB)), .p (.list n3 (q.lev.map pI))])] fun r H => r = .p (pB (xs.any fun x => qZ l q x)) /\ H = [some (.cells [.p (.list nl (l.map Sup.pv))]), some (.cells [.p (.list n1 (q.on.map pB)), .p (.list n3 (q.lev.map pI))])] := by
 refine aa Tryz.func109 rfl rfl au rfl ?_
 refine' y2c33
 refine ab.all ((uG nl n1 n3 l q hr n2 xs hx).mono ?_)
 rintro r H ⟨⟨v, rfl, hv⟩, rfl⟩
 refine' y2c33
 (refine' ay.auto (.p (pB (xs.any fun x => qZ l q x))) ([some (.cells [.p (.list nl (l.map Sup.pv))]), some (.cells [.p (.list n1 (q.on.map pB)), .p (.list n3 (q.lev.map pI))])]) rfl rfl rfl rfl _ _ _ <;> refine' aj)
 rw [<- hv]; rfl
def Row (l : List Sup) (r : Rl) (us : List Bool) (ld : List Int) (c : Nat) : Prop := (onA r c = false -> us.getD c false = false) /\ (onA r c = true -> (0 <= bu l c -> onA r (bu l c).toNat = true /\ vt l c (lvA r c) + jc l c <= vt l (bu l c).toNat (lvA r (bu l c).toNat)) /\ ld.getD c 0 <= (l.getD c default).cap)
theorem qj {l : List Sup} {r : Rl} {d : List Dr} (hl : aT l) (hr : RlV l r) (hd : b9 l.length d) : bm l r d ↔ (∀ c, c < l.length -> Row l r (aL l d) (aS l d) c) /\ ∀ x ∈ d, qZ l r x = false := by
 have ho : ∀ x, qZ l r x = false ↔ (x.lo <= vt l x.sup.toNat (lvA r x.sup.toNat) /\ vt l x.sup.toNat (lvA r x.sup.toNat) <= x.hi) := fun x => by unfold qZ; simp
 constructor
 ·intro h
  refine ⟨fun c hc => ⟨fun hf => ?_, fun hf => ⟨h.par c hc hf, h.load c hc hf⟩⟩, fun x hx => (ho x).2 (h.draw x hx)⟩
  cases hu : (aL l d).getD c false
  ·rfl
  ·have := h.use c hc ((dC hl hd hc).1 hu)
   rw [hf] at this
   cases this
 ·rintro ⟨h1, h2⟩
  refine ⟨hr, hd, fun c hc hu => ?_, fun c hc hf => ((h1 c hc).2 hf).1, fun c hc hf => ((h1 c hc).2 hf).2, fun x hx => (ho x).1 (h2 x hx)⟩
  cases hf : onA r c
  ·have := (h1 c hc).1 hf
   rw [(dC hl hd hc).2 hu] at this
   cases this
  ·rfl
def DC : Sc := (.one 3 (.one 5 (.take 6 (.take 7 .done))))
def DB : Sc := (.one 2 (.one 5 (.take 6 (.take 7 .done))))
def DA : Sc := (.two 2 3 DC DB)
def Dz : Sc := (.one 0 (.one 2 (.one 5 (.take 6 (.take 7 .done)))))
def mA : Sc := (.take 1 (.take 4 (.two 0 3 DA Dz)))
set_option maxHeartbeats 2000000 in
theorem e8 (nl n1 n2 n3 : Bool) (l : List Sup) (r : Rl) (d : List Dr) : ao Tryz.prog 44 [.p (.list nl (l.map Sup.pv)), .p (Rl.pv n1 n3 r), .p (.list n2 (d.map Dr.pv))] [] fun r' H => ∃ b : Bool, r' = .p (pB b) /\ H = [] /\ (b = true ↔ aT l /\ bm l r d) := by
 refine aa Tryz.func44 rfl rfl au rfl ?_
 (conv => whnf); repeat' ((first | refine' zd421 | ((refine b4 (lT nl n1 n3 l r) ?_; intro b1 hb1)) | ((refine b4 (e9 nl n2 l d) ?_; intro b2 hb2))) <;> (conv => whnf))
 ·refine' rp_
  exact ⟨_, rfl, rfl, fun h => (by cases h), fun h => by rw [hb1.2 ⟨h.1, h.2.rv⟩] at h0; cases h0⟩
 ·refine' rp_
  exact ⟨_, rfl, rfl, fun h => (by cases h), fun h => by rw [hb2.2 ⟨h.1, h.2.dv⟩] at h0; cases h0⟩
 obtain ⟨hl, hr⟩ := hb1.1 (by assumption)
 obtain ⟨_, hd⟩ := hb2.1 (by assumption)
 have hul := ej l d
 have hll : (aS l d).length = l.length := f_ l d _
 have e1 := hr.1
 have e2 := hr.2.1
 refine ax.meet (fun (⟨m1, m2⟩ : Bool × Bool) => ⟨[(2, .p (.list n2 (d.map Dr.pv))), (3, .ptr 0 0), (4, .ptr 1 0), (7, .p (.list m1 ((aL l d).map pB))), (8, .p (.list m2 ((aS l d).map pI)))], [some (.cells [.p (.list nl (l.map Sup.pv))]), some (.cells [.p (.list n1 (r.on.map pB)), .p (.list n3 (r.lev.map pI))])]⟩) (fun (⟨m1, m2⟩ : Bool × Bool) => True) (dN.bA mA (by kernel_rfl) (by kernel_rfl) (by kernel_rfl) ?_) ?_
 ·(conv => whnf); repeat' ((first | refine' zd421 | ((refine ab.loc [] [] rfl rfl ((kZ nl n2 l d hl hd).mono ?_); rintro _ _ ⟨m1, rfl, rfl⟩)) | ((refine ab.loc [] [] rfl rfl ((nX nl n2 l d hl hd).mono ?_); rintro _ _ ⟨m2, rfl, rfl⟩))) <;> (conv => whnf))
  all_goals (refine' ⟨(m1, m2), _, _⟩; rotate_right; refine' sa_; rotate_right; exact aw)
 rintro ⟨m1, m2⟩ _
 refine' y2c33
 refine ai (fun (c : Nat) => ⟨[(2, .p (.list n2 (d.map Dr.pv))), (3, .ptr 0 0), (4, .ptr 1 0), (7, .p (.list m1 ((aL l d).map pB))), (8, .p (.list m2 ((aS l d).map pI))), (28, .p (.list nl (l.map Sup.pv))), (29, .p (pI l.length)), (30, .p (pI c))], [some (.cells [.p (.list nl (l.map Sup.pv))]), some (.cells [.p (.list n1 (r.on.map pB)), .p (.list n3 (r.lev.map pI))])]⟩) (fun c => c <= l.length /\ ∀ k, k < c -> Row l r (aL l d) (aS l d) k) (fun c => l.length - c) 0 ?_ ?_ ?_; refine' sa_
 ·exact ⟨by omega, fun k hk => by omega⟩
 rintro c ⟨hc, hrow⟩
 have hmr := qj (d := d) hl hr hd
 have h16 := hl.1
 have hsucc : Row l r (aL l d) (aS l d) c -> ∀ k, k < c + 1 -> Row l r (aL l d) (aS l d) k := fun h k hk => by
  rcases Nat.lt_or_ge k c with h3 | h3
  ·exact hrow k h3
  ·obtain rfl : k = c := by omega
   exact h
 have hfail : ¬ Row l r (aL l d) (aS l d) c -> c < l.length -> ¬ (aT l /\ bm l r d) := fun h hcl ⟨_, hm⟩ => h ((hmr.1 hm).1 c hcl)
 rcases Nat.lt_or_ge c l.length with hcl | hcl
 ·have hfail := fun h => hfail h hcl
  have hv := hl.2.2 c hcl
  have hlc := hr.2.2 c hcl (by omega)
  have hdc := hv.2.2.1
  have hvc := hv.2.2.2.2.2.1 _ (List.getElem_mem (show (r.lev[c]'(by omega)).toNat < (l[c]).lv.length by omega))
  by_cases hp : 0 <= (l[c]).par
  ·have hpn : (l[c]).par.toNat < l.length := by have := hv.1; omega
   have hlp := hr.2.2 _ hpn (by omega)
   have hrw : Row l r (aL l d) (aS l d) c ↔ ((r.on[c]'(by omega) = false -> (aL l d)[c]'(by omega) = false) /\ (r.on[c]'(by omega) = true -> (r.on[(l[c]).par.toNat]'(by omega) = true /\ (l[c]).lv[(r.lev[c]'(by omega)).toNat]'(by omega) + (l[c]).drop <= (l[(l[c]).par.toNat]'hpn).lv[(r.lev[(l[c]).par.toNat]'(by omega)).toNat]'(by omega)) /\ (aS l d)[c]'(by omega) <= (l[c]).cap)) := by
    unfold Row onA lvA vt bu jc
    simp only [ak hcl, ak hpn, ak (show c < r.on.length by omega), ak (show c < r.lev.length by omega), ak (show (l[c]).par.toNat < r.on.length by omega), ak (show (l[c]).par.toNat < r.lev.length by omega), ak (show c < (aL l d).length by omega), ak (show c < (aS l d).length by omega), ak (show (r.lev[c]'(by omega)).toNat < (l[c]).lv.length by omega), ak (show (r.lev[(l[c]).par.toNat]'(by omega)).toNat < (l[(l[c]).par.toNat]'hpn).lv.length by omega), hp, true_implies]
   rw [hrw] at hfail hsucc
   clear hrw hrow hmr
   refine' y2c33
   all_goals first
   | (refine' rp_
      refine ⟨_, rfl, rfl, fun h => (by cases h), fun h => absurd h (hfail ?_)⟩
      clear hfail hsucc
      grind)
   | ((refine' ⟨c + 1, _, _, _⟩; rotate_right; refine' sa_; rotate_right; exact aw)
      refine ⟨by omega, hsucc ?_⟩
      clear hfail hsucc
      grind)
  ·have hrw : Row l r (aL l d) (aS l d) c ↔ ((r.on[c]'(by omega) = false -> (aL l d)[c]'(by omega) = false) /\ (r.on[c]'(by omega) = true -> (aS l d)[c]'(by omega) <= (l[c]).cap)) := by
    unfold Row onA lvA vt bu jc
    simp only [ak hcl, ak (show c < r.on.length by omega), ak (show c < (aL l d).length by omega), ak (show c < (aS l d).length by omega), hp, false_implies, true_and]
   rw [hrw] at hfail hsucc
   clear hrw hrow hmr
   refine' y2c33
   all_goals first
   | (refine' rp_
      refine ⟨_, rfl, rfl, fun h => (by cases h), fun h => absurd h (hfail ?_)⟩
      clear hfail hsucc
      grind)
   | ((refine' ⟨c + 1, _, _, _⟩; rotate_right; refine' sa_; rotate_right; exact aw)
      refine ⟨by omega, hsucc ?_⟩
      clear hfail hsucc
      grind)
 ·refine' y2c33
  refine ab.loc [0, 1] [] rfl rfl ((py nl n1 n3 l r hr n2 d fun x hx => (hd.2 x hx).1).mono ?_)
  rintro r' H ⟨rfl, rfl⟩
  refine' y2c33
  refine' rp_
  refine ⟨_, rfl, rfl, ?_⟩
  rw [Bool.not_eq_true', List.any_eq_false]
  constructor
  ·exact fun h => ⟨hl, hmr.2 ⟨fun k hk => hrow k (by omega), fun x hx => by simpa using h x hx⟩⟩
  ·rintro ⟨_, h⟩ x hx
   simpa using (hmr.1 h).2 x hx
theorem qv (x : Int) : ao Tryz.prog 236 [.p (pI x)] [] fun r H => r = .p (pB false) /\ H = [] := by
 refine aa Tryz.func236 rfl rfl au rfl ?_
 refine' yc048
 all_goals first
  | (refine ay.p ⟨?_, rfl⟩; simp [pB])
  | (refine ay.p ⟨rfl, rfl⟩)
theorem p7 (x : Int) : ao Tryz.prog 201 [.p (pI x)] [] fun r H => r = .p (pB false) /\ H = [] := by
 refine aa Tryz.func201 rfl rfl au rfl ?_
 refine' yc048
 all_goals first
  | (refine ay.p ⟨?_, rfl⟩; simp [pB])
  | (refine ay.p ⟨rfl, rfl⟩)
theorem zc048 {P : Prop} (h : P := by
 ((first | apply aB.plain | refine' gC | refine' gpI | refine' gpB | refine' aI | refine' gE | (apply ax.quiet (by kernel_rfl) (by kernel_rfl); (conv => whnf); fail_if_success (show False))) <;> (conv => whnf)) <;> (solve_by_elim (newGoals := .nonDependentOnly) (symm := false) (exfalso := false) (transparency := .reducible) only [rfl, aC])) : P := h
theorem qy (x y : Int) : ao Tryz.prog 200 [.p (pI x), .p (pI y)] [] fun r H => r = .p (pB (decide (x < y))) /\ H = [] := by
 refine aa Tryz.func200 rfl rfl au rfl ?_
 (conv => whnf); repeat' ((first | refine' zc048 | (refine ab.scalar (qv x) ?_) | (refine ab.scalar (qv y) ?_)) <;> (conv => whnf))
 refine ay.p ⟨?_, rfl⟩
 first | rfl | simp [pB]
def Asc (xs : List Int) : Prop := ∀ (j k : Nat) (hk : k < xs.length) (hjk : j < k), xs[j] < xs[k]
def BLo (xs : List Int) (t : Int) (i : Nat) : Prop := ∀ k (h : k < xs.length), k < i -> xs[k] < t
def BHi (xs : List Int) (t : Int) (j : Nat) : Prop := ∀ k (h : k < xs.length), j <= k -> t <= xs[k]
theorem Asc.le {xs : List Int} (h : Asc xs) {i k : Nat} (hk : k < xs.length) (hik : i <= k) : xs[i] <= xs[k] := by
 rcases Nat.lt_or_ge i k with h1 | h1
 ·exact Int.le_of_lt (h i k hk h1)
 ·have : i = k := by omega
  subst this; omega
theorem BLo.step {xs : List Int} {t : Int} (hs : Asc xs) {m : Nat} (hm : m < xs.length) (h : xs[m] < t) : BLo xs t (m + 1) := fun k hk hkm => by
 have := hs.le (i := k) hm (by omega); omega
theorem BHi.step {xs : List Int} {t : Int} (hs : Asc xs) {m : Nat} (hm : m < xs.length) (h : ¬ xs[m] < t) : BHi xs t m := fun k hk hkm => by
 have := hs.le (i := m) hk hkm; omega
def lvK (xs : List Int) (v : Int) : Nat := xs.findIdx fun x => decide (v <= x)
theorem Co {xs : List Int} {v : Int} {i : Nat} (hi : i <= xs.length) (h1 : BLo xs v i) (h2 : BHi xs v i) : lvK xs v = i := by
 unfold lvK
 rcases Nat.lt_or_eq_of_le hi with h | h
 ·rw [List.findIdx_eq h]
  refine ⟨decide_eq_true (h2 i h (Nat.le_refl _)), fun j hj => decide_eq_false ?_⟩
  have := h1 j (by omega) hj
  omega
 ·subst h
  rw [List.findIdx_eq_length]
  intro x hx
  obtain ⟨k, hk, rfl⟩ := List.getElem_of_mem hx
  have := h1 k hk hk
  simp
  omega
theorem kT (nl : Bool) (xs : List Int) (t : Int) (hs : Asc xs) (hl : xs.length <= 100000) : ao Tryz.prog 158 [.p (.list nl (xs.map pI)), .p (pI t)] [] fun r H => ∃ b : Bool, r = .tup [.p (pI (lvK xs t : Nat)), .p (pB b)] /\ H = [] := by
 refine aa Tryz.func158 rfl rfl au rfl ?_
 refine' yc048
 refine ai (fun (⟨i, j⟩ : Nat × Nat) => ⟨[(0, .p (.list nl (xs.map pI))), (1, .p (pI t)), (6, .p (pI xs.length)), (7, .p (pI i)), (8, .p (pI j))], []⟩) (fun ⟨i, j⟩ => i <= j /\ j <= xs.length /\ BLo xs t i /\ BHi xs t j) (fun ⟨i, j⟩ => j - i) (0, xs.length) ?_ ?_ ?_; refine' sa_
 ·exact ⟨by omega, by omega, fun k h1 h2 => absurd h2 (by omega), fun k h1 h2 => absurd h1 (by omega)⟩
 rintro ⟨i, j⟩ ⟨hij, hj, hlo, hhi⟩
 rcases Nat.lt_or_ge i j with hlt | hge
 ·obtain ⟨m, hm⟩ : ∃ m : Nat, m = (i + j) / 2 := ⟨_, rfl⟩
  have hm1 : i <= m /\ m < j := by omega
  have e1 : ((i : Int) + j).fdiv (2 ^ (min (1 : Int).toNat 64)) = (m : Int) := by
   show ((i : Int) + j).fdiv 2 = m
   rw [Int.fdiv_eq_ediv_of_nonneg _ (by omega)]; omega
  (conv => whnf); repeat' ((first | refine' zc048 | (refine ab.scalar (qy xs[m] t) ?_)) <;> (conv => whnf))
  ·(refine' ⟨(m + 1, j), _, _, _⟩; rotate_right; refine' sa_; rotate_right; exact aw)
   exact ⟨by omega, by omega, BLo.step hs (by omega) (by omega), hhi⟩
  ·(refine' ⟨(i, m), _, _, _⟩; rotate_right; refine' sa_; rotate_right; exact aw)
   exact ⟨by omega, by omega, hlo, BHi.step hs (by omega) (by omega)⟩
 ·have : j = i := by omega
  subst this
  rw [<- Co hj hlo hhi] at *
  have hj' := hj
  generalize lvK xs t = j at *
  (conv => whnf); repeat' ((first | refine' zc048 | (refine ab.scalar (p7 xs[j]) ?_) | (refine ab.scalar (p7 t) ?_)) <;> (conv => whnf))
  all_goals
   (refine' ay.auto (.tup [.p (pI j), .p (pB _)]) ([]) rfl rfl rfl rfl _ _ _ <;> try refine' aj)
   exact ⟨_, rfl, rfl⟩
theorem oX.asc {s : Sup} {i : Nat} (h : oX s i) : Asc s.lv := fun _ _ hk hjk => h.lt hjk hk
theorem uR (s : Sup) (v : Int) (hs : Asc s.lv) (hl : s.lv.length <= 16) : ao Tryz.prog 107 [.p s.pv, .p (pI v)] [] fun r H => r = .tup [.p (pI (lvK s.lv v : Nat)), .p (pB (decide (lvK s.lv v < s.lv.length)))] /\ H = [] := by
 refine aa Tryz.func107 rfl rfl au rfl ?_
 refine' yc048
 refine ab.loc [] [] rfl rfl ((kT s.ln s.lv v hs (by omega)).mono ?_)
 rintro _ _ ⟨b, rfl, rfl⟩
 refine' yc048
 (refine' ay.auto (.tup [.p (pI (lvK s.lv v : Nat)), .p (pB _)]) ([]) rfl rfl rfl rfl _ _ _ <;> try refine' aj)
 refine congrArg (fun b => AV.tup [.p (pI (lvK s.lv v : Nat)), .p (pB b)]) ?_
 simp
def wB (e : TypeId) (xs : List PV) : EV -> Bool
 | some (.buf id, H) => match H[id]? with
  | some (some (.buf e' _ ys)) => Nat.beq e' e && lq ys xs
  | _ => false
 | _ => false
theorem zZ {P : Program} {ti : TypeId -> Option TI} {C : CF} {Q : CQ} (hT : aK P ti) (hm : P.follows .mixedOrders = true) (hC : C.ok P) (hQ : Q.ok P) {fuel : Nat} {f : FuncId} {args : List AV} {e : TypeId} {xs : List PV} (h : wB e xs (gu P ti C Q fuel f args []) = true) :
  ao P f args [] fun r H => ∃ nl, r = .buf 0 /\ H = [some (.buf e nl xs)] := by
 unfold wB at h
 split at h
 ·rename_i id H' hb
  split at h
  ·rename_i e' nl ys hl
   simp only [Bool.and_eq_true] at h
   obtain rfl := Nat.eq_of_beq_eq_true h.1
   obtain rfl := dy h.2
   exact gr hT hm hC hQ hb fun fr => .mk _ _ _ [id] (.buf 0) [some (.buf e' nl ys)] rfl rfl ⟨hl, trivial⟩ rfl rfl ⟨nl, rfl, rfl⟩
  ·cases h
 ·cases h
structure De where
 vol : Int
 draw : Int
 child : Int
def De.pv (x : De) : PV := .agg [pI x.vol, pI x.draw, pI x.child]
theorem wg {P : Prop} (h : P := by
 (first | ((first | apply bx.snoc (f := De.pv) (a := _) rfl | apply bx.one (f := De.pv) (a := _) rfl | (apply bx.snoc (f := De.pv) (a := ⟨_, _, _⟩); dsimp only [De.pv]; exact rfl) | (apply bx.one (f := De.pv) (a := ⟨_, _, _⟩); dsimp only [De.pv]; exact rfl)); exact ar_) | apply IsL.set (f := De.pv) (a := _) rfl | apply IsL.rep (f := De.pv) (a := _) rfl | (apply IsL.set (f := De.pv) (a := ⟨_, _, _⟩); dsimp only [De.pv]; exact rfl) | (apply IsL.rep (f := De.pv) (a := ⟨_, _, _⟩); dsimp only [De.pv]; exact rfl) | apply IsL.lit (f := De.pv) [] rfl | apply IsL.lit (f := De.pv) [_] rfl | apply IsL.lit (f := De.pv) [_, _] rfl | apply IsL.lit (f := De.pv) [_, _, _] rfl | apply IsL.lit (f := De.pv) [] rfl | apply IsL.lit (f := De.pv) [⟨_, _, _⟩] rfl | apply IsL.lit (f := De.pv) [⟨_, _, _⟩, ⟨_, _, _⟩] rfl | apply IsL.lit (f := De.pv) [⟨_, _, _⟩, ⟨_, _, _⟩, ⟨_, _, _⟩] rfl) <;> (solve_by_elim (newGoals := .nonDependentOnly) (symm := false) (exfalso := false) (transparency := .reducible) only [rfl, aC])) : P := h
def md0 (_ : FuncId) : Nat := 2
theorem AU : ((List.range 17).all fun k => wB 188 (List.replicate k (De.pv ⟨0, -1, -1⟩)) (gu Tryz.prog ti (bk Tryz.prog ti xf 1000 md0 [] 6).2 (tK (bk Tryz.prog ti xf 1000 md0 [] 6).1) 1000 105 [.p (.list false [De.pv ⟨0, -1, -1⟩]), .p (pI (k : Nat))] [])) = true := by kernel_rfl
theorem cg {P : Program} : vK P [] := fun _ h => by cases h
theorem sR (k : Nat) (hk : k <= 16) : ao Tryz.prog 105 [.p (.list false [De.pv ⟨0, -1, -1⟩]), .p (pI k)] [] fun r H => ∃ nb, r = .buf 0 /\ H = [some (AO.buf 188 nb ((List.replicate k (⟨0, -1, -1⟩ : De)).map De.pv))] := by
 have h := List.all_eq_true.1 AU k (by simp; omega)
 have hp := iL (P := Tryz.prog) (ti := ti) au mixed fD (fuel := 1000) (mode := md0) (tab := []) cg 6
 rw [List.map_replicate]
 exact zZ au mixed hp.2 (mM hp.1) h
instance : Inhabited Dr := ⟨⟨0, 0, 0, 0⟩⟩
instance : Inhabited De := ⟨⟨0, -1, -1⟩⟩
def dm0 (n : Nat) (d : List Dr) : Nat -> List De
 | 0 => List.replicate n ⟨0, -1, -1⟩
 | c + 1 => if ((dm0 n d c).getD (d.getD c default).sup.toNat default).vol < (d.getD c default).lo then (dm0 n d c).set (d.getD c default).sup.toNat ⟨(d.getD c default).lo, c, -1⟩ else dm0 n d c
def dmK (l : List Sup) (xs : List De) (i : Nat) : Nat := lvK (l.getD i default).lv (xs.getD i default).vol
def dmF (l : List Sup) (us : List Bool) (xs : List De) (i : Nat) : Bool := us.getD i false && !decide (dmK l xs i < (l.getD i default).lv.length)
def dmV (l : List Sup) (xs : List De) (i : Nat) : Int := (l.getD i default).lv.getD (dmK l xs i) 0 + (l.getD i default).drop
def dmS (l : List Sup) (us : List Bool) (st : List De × List Int) (i : Nat) : List De × List Int :=
 if us.getD i false = true /\ dmK l st.1 i < (l.getD i default).lv.length then
  (if 0 <= (l.getD i default).par /\ (st.1.getD (l.getD i default).par.toNat default).vol < dmV l st.1 i then st.1.set (l.getD i default).par.toNat ⟨dmV l st.1 i, -1, i⟩ else st.1, st.2.set i (dmK l st.1 i))
 else st
def dmP (l : List Sup) (d : List Dr) (pre : List (Fin l.length)) : List De × List Int := pre.foldl (fun st i => dmS l (aL l d) st i.val) (dm0 l.length d d.length, List.replicate l.length 0)
def yz (l : List Sup) (d : List Dr) (pre : List (Fin l.length)) : Prop := ∀ p y s, pre = p ++ y :: s -> dmF l (aL l d) (dmP l d p).1 y.val = false
theorem tI (l : List Sup) (d : List Dr) (pre : List (Fin l.length)) (y : Fin l.length) : dmP l d (pre ++ [y]) = dmS l (aL l d) (dmP l d pre) y.val := by
 unfold dmP
 rw [List.foldl_append]
 rfl
theorem yy {l : List Sup} {d : List Dr} {pre : List (Fin l.length)} {y : Fin l.length} (h : yz l d pre) (hy : dmF l (aL l d) (dmP l d pre).1 y.val = false) : yz l d (pre ++ [y]) := by
 intro p z s he
 rcases List.eq_nil_or_concat s with rfl | ⟨s', x, rfl⟩
 ·have := List.append_inj' he rfl
  obtain ⟨rfl, h2⟩ := this
  injection h2 with h2
  rw [<- h2]; exact hy
 ·have : pre ++ [y] = (p ++ z :: s') ++ [x] := by rw [he]; simp
  obtain ⟨h1, _⟩ := List.append_inj' this rfl
  exact h p z s' h1
theorem iJ (n : Nat) (d : List Dr) : ∀ c, (dm0 n d c).length = n
 | 0 => by simp [dm0]
 | c + 1 => by
  unfold dm0
  split
  ·rw [List.length_set, iJ n d c]
  ·exact iJ n d c
theorem Bc (l : List Sup) (us : List Bool) (st : List De × List Int) (i : Nat) : (dmS l us st i).1.length = st.1.length /\ (dmS l us st i).2.length = st.2.length := by
 unfold dmS
 split
 ·refine ⟨?_, by simp⟩
  dsimp only
  split <;> simp
 ·exact ⟨rfl, rfl⟩
theorem v_ (l : List Sup) (d : List Dr) (pre : List (Fin l.length)) : (dmP l d pre).1.length = l.length /\ (dmP l d pre).2.length = l.length := by
 suffices h : ∀ (pre : List (Fin l.length)) (st : List De × List Int), st.1.length = l.length /\ st.2.length = l.length -> (pre.foldl (fun st i => dmS l (aL l d) st i.val) st).1.length = l.length /\ (pre.foldl (fun st i => dmS l (aL l d) st i.val) st).2.length = l.length from
  h pre _ ⟨iJ _ _ _, by simp⟩
 intro pre
 induction pre with
 | nil => exact fun st h => h
 | cons y pre ih =>
  intro st h
  have := Bc l (aL l d) st y.val
  exact ih _ ⟨this.1.trans h.1, this.2.trans h.2⟩
def DmR (l : List Sup) (d : List Dr) (pre : List (Fin l.length)) (f : Int) : Prop :=
 yz l d pre /\ ((f = -1 /\ pre = (List.finRange l.length).reverse) \/ ∃ y s, f = (y : Fin l.length).val /\ pre ++ [y] ++ s = (List.finRange l.length).reverse /\ dmF l (aL l d) (dmP l d pre).1 y.val = true)
def D7 : Sc := (.one 8 (.one 9 .done))
def D6 : Sc := (.one 7 (.one 9 .done))
def D5 : Sc := (.two 7 8 D7 D6)
def D4 : Sc := (.one 4 (.one 8 (.one 9 .done)))
def D3 : Sc := (.two 4 7 D5 D4)
def D2 : Sc := (.one 1 (.one 4 (.one 8 (.one 9 .done))))
def eA : Sc := (.take 0 (.take 2 (.take 3 (.take 5 (.take 6 (.two 1 7 D3 D2))))))
def eB : Sc := (.take 0 (.load 1 (.take 3 (.load 4 (.one 2 (.take 5 (.take 6 (.load 7 (.take 8 .done)))))))))
def D1 : Sc := (.one 3 (.one 4 (.one 5 .done)))
def D0 : Sc := (.one 1 (.one 4 (.one 5 .done)))
def DZ : Sc := (.two 1 3 D1 D0)
def DY : Sc := (.one 0 (.one 3 (.one 4 (.one 5 .done))))
def eD : Sc := (.take 2 (.two 0 1 DZ DY))
def eC : Sc := (.frz 0 (.take 2 (.one 1 (.take 3 (.take 4 (.load 5 (.one 6 (.take 7 (.take 8 (.take 9 (.take 10 (.take 11 .done))))))))))))
def eE : Sc := (.take 0 (.frz 1 (.take 2 (.take 3 (.load 4 (.take 5 (.frz 6 (.take 7 (.take 8 .done)))))))))
def DX : Sc := (.one 2 (.one 3 (.one 4 .done)))
def DW : Sc := (.one 1 (.one 3 (.one 4 .done)))
def DV : Sc := (.two 1 2 DX DW)
def DU : Sc := (.one 0 (.one 2 (.one 3 (.one 4 .done))))
def eF : Sc := (.two 0 1 DV DU)
theorem yb568 {P : Prop} (h : P := by
 ((conv => whnf); repeat' ((first | apply aB.plain | refine' gC | refine' gpI | refine' gpB | refine' aI | refine' ba | refine' wg | refine' gE | (apply ax.quiet (by kernel_rfl) (by kernel_rfl); (conv => whnf); fail_if_success (show False))) <;> (conv => whnf))) <;> (solve_by_elim (newGoals := .nonDependentOnly) (symm := false) (exfalso := false) (transparency := .reducible) only [rfl, aC])) : P := h
theorem z196e {P : Prop} (h : P := by
 ((first | apply aB.plain | refine' gC | refine' gpI | refine' gpB | refine' aI | refine' ba | refine' wg | refine' gE | fail) <;> (conv => whnf)) <;> (solve_by_elim (newGoals := .nonDependentOnly) (symm := false) (exfalso := false) (transparency := .reducible) only [rfl, aC])) : P := h
theorem y196e {P : Prop} (h : P := by
 ((conv => whnf); repeat' ((first | apply aB.plain | refine' gC | refine' gpI | refine' gpB | refine' aI | refine' ba | refine' wg | refine' gE | fail) <;> (conv => whnf))) <;> (solve_by_elim (newGoals := .nonDependentOnly) (symm := false) (exfalso := false) (transparency := .reducible) only [rfl, aC])) : P := h
set_option maxHeartbeats 4000000 in
theorem kI (nl n2 : Bool) (l : List Sup) (d : List Dr) (hl : aT l) (hd : b9 l.length d) : ao Tryz.prog 42 [.p (.list nl (l.map Sup.pv)), .p (.list n2 (d.map Dr.pv))] [] fun r H => ∃ (pre : List (Fin l.length)) (f : Int) (b1 b2 : Bool), r = .tup [.p (.list b1 ((dmP l d pre).1.map De.pv)), .p (.list b2 ((dmP l d pre).2.map pI)), .p (pI f)] /\ H = [] /\ DmR l d pre f := by
 refine aa Tryz.func42 rfl rfl au rfl ?_
 have h16 := hl.1
 have h32 := hd.1
 refine' y196e
 refine ax.meet (fun (⟨b1, b2⟩ : Bool × Bool) => ⟨[(0, .p (.list nl (l.map Sup.pv))), (1, .p (.list n2 (d.map Dr.pv))), (4, .ptr 0 0), (5, .ptr 1 0), (6, .ptr 2 0)], [some (.cells [.buf 3]), some (.cells [.buf 4]), some (.cells [.p (pI 0)]), some (AO.buf 188 b1 ((dm0 l.length d 0).map De.pv)), some (AO.buf 3 b2 ((List.replicate l.length (0 : Int)).map pI))]⟩) (fun (⟨b1, b2⟩ : Bool × Bool) => True) (dN.bA eA (by kernel_rfl) (by kernel_rfl) (by kernel_rfl) ?_) ?_
 ·(conv => whnf); repeat' ((first | refine' z196e | ((apply IsL.lit (f := De.pv) [⟨0, -1, -1⟩] rfl)) | ((apply IsL.rep (f := pI) (a := 0) rfl)) | ((refine ab.loc [] [3] rfl rfl ((sR l.length h16).mono ?_); rintro _ _ ⟨b1, rfl, rfl⟩)) | ((refine ab.loc [] [4] rfl rfl ((sR l.length h16).mono ?_); rintro _ _ ⟨b1, rfl, rfl⟩))) <;> (conv => whnf))
  all_goals (refine' ⟨(_, _), _, _⟩; rotate_right; refine' sa_; rotate_right; exact aw)
 rintro ⟨b1, b2⟩ _
 refine' y196e
 refine ai (fun (c : Nat) => ⟨[(0, .p (.list nl (l.map Sup.pv))), (1, .p (.list n2 (d.map Dr.pv))), (4, .ptr 0 0), (5, .ptr 1 0), (6, .ptr 2 0), (23, .p (.list n2 (d.map Dr.pv))), (24, .p (pI d.length)), (25, .p (pI c))], [some (.cells [.buf 3]), some (.cells [.buf 4]), some (.cells [.p (pI 0)]), some (AO.buf 188 b1 ((dm0 l.length d c).map De.pv)), some (AO.buf 3 b2 ((List.replicate l.length (0 : Int)).map pI))]⟩) (fun c => c <= d.length) (fun c => d.length - c) 0 ?_ ?_ ?_; refine' sa_
 ·omega
 rintro c hc
 replace hc : c <= d.length := hc
 have hul := iJ l.length d c
 rcases Nat.lt_or_ge c d.length with hcd | hcd
 ·have hs := (hd.2 _ (List.getElem_mem hcd)).1
  have hsn : dm0 l.length d (c + 1) = if ((dm0 l.length d c).getD (d[c]).sup.toNat default).vol < (d[c]).lo then (dm0 l.length d c).set (d[c]).sup.toNat ⟨(d[c]).lo, c, -1⟩ else dm0 l.length d c := by
   rw [dm0]
   simp only [ak hcd]
  generalize dm0 l.length d c = xs at hul hsn ⊢
  rw [ak (show (d[c]).sup.toNat < xs.length by omega)] at hsn
  (conv => whnf); repeat' ((first | refine' z196e | (apply ax.bA eB (by kernel_rfl) (by kernel_rfl) (by kernel_rfl))) <;> (conv => whnf))
  ·rw [if_pos (by omega)] at hsn
   (refine' ⟨c + 1, _, _, _⟩; rotate_right; refine' sa_; rotate_right; exact aw)
   ·exact hsn.symm
   ·omega
  ·rw [if_neg (by omega)] at hsn
   (refine' ⟨c + 1, _, _, _⟩; rotate_right; refine' sa_; rotate_right; exact aw)
   ·exact hsn.symm
   ·omega
 ·have hc' : c = d.length := by omega
  subst hc'
  (conv => whnf); repeat' ((first | refine' z196e | ((refine ab.loc [] [] rfl rfl ((kZ nl n2 l d hl hd).mono ?_); rintro _ _ ⟨m1, rfl, rfl⟩)) | ((refine ab.loc [] [] rfl rfl ((fC nl l).mono ?_); rintro _ _ ⟨rfl, rfl⟩))) <;> (conv => whnf))
  refine iw.mk 157 6 (.list nl (l.map Sup.pv)) _ _ _ (fun pre => [some (.cells [.buf 3]), some (.cells [.buf 4]), some (.cells [.p (pI 0)]), some (AO.buf 188 b1 ((dmP l d pre).1.map De.pv)), some (AO.buf 3 b2 ((dmP l d pre).2.map pI)), some (.cells [.p (.list m1 ((aL l d).map pB))]), none]) (yz l d) rfl rfl (oT nl l) (fun _ => rfl) ?_ ?_ ?_ ?_
  ·refine' sa_
  ·exact fun p y s h => by simp at h
  ·intro pre y hok hlt
   have hup := ej l d
   obtain ⟨hx1, hx2⟩ := v_ l d pre
   have hy := y.isLt
   have hv := hl.2.2 y.val hy
   have hlv := hl.2.1 _ (List.getElem_mem hy)
   have hsn := tI l d pre y
   have hokn := yy (y := y) hok
   have hfail : dmF l (aL l d) (dmP l d pre).1 y.val = true -> (∃ s, pre ++ [y] ++ s = (List.finRange l.length).reverse) -> DmR l d pre y.val := fun h ⟨s, hs⟩ => ⟨hok, .inr ⟨y, s, rfl, hs, h⟩⟩
   clear hok
   unfold dmF at hokn hfail
   unfold dmS dmV dmK at hsn
   unfold dmK at hokn hfail
   simp only [ak hy] at hsn hokn hfail
   generalize dmP l d (pre ++ [y]) = st' at hsn hokn ⊢
   generalize hst : dmP l d pre = st at hx1 hx2 hsn hokn hfail ⊢
   obtain ⟨xs, ls⟩ := st
   obtain ⟨k, hk⟩ := y
   simp only at hx1 hx2 hy hv hlv hsn hokn hfail ⊢
   rw [ak (show k < xs.length by omega)] at hsn hokn hfail
   rw [ak (show k < (aL l d).length by omega)] at hsn hokn hfail
   have hlk : lvK (l[k]).lv (xs[k]).vol <= (l[k]).lv.length := List.findIdx_le_length
   generalize hkk : lvK (l[k]).lv (xs[k]).vol = kk at hsn hokn hfail hlk
   have hasc := hv.asc
   have hlc := uR (l[k]) (xs[k]).vol hasc hlv
   rw [hkk] at hlc
   clear hkk
   cases hus : (aL l d)[k]'(by omega)
   ·rw [hus] at hsn hokn
    rw [if_neg (by simp)] at hsn
    subst hsn
    (conv => whnf); repeat' ((first | refine' z196e | (refine And.intro (show bJ _ = true from rfl) ?_)) <;> (conv => whnf))
    refine ⟨?_, hokn rfl⟩
    refine' sa_
   rw [hus] at hsn hokn hfail
   simp only [Bool.true_and, true_and, Bool.not_eq_true', Bool.not_eq_false', decide_eq_true_eq, decide_eq_false_iff_not] at hsn hokn hfail
   rcases Nat.lt_or_ge kk (l[k]).lv.length with hkl | hkl
   ·have hkv := hv.2.2.2.2.2.1 _ (List.getElem_mem hkl)
    have hdv := hv.2.2.1
    have hpv := hv.1
    rw [if_pos hkl, ak hkl] at hsn
    have hok' := hokn hkl
    rw [decide_eq_true hkl] at hlc
    clear hokn hfail
    by_cases hp : 0 <= (l[k]).par
    ·rw [ak (show (l[k]).par.toNat < xs.length by omega)] at hsn
     (conv => whnf); repeat' ((first | refine' z196e | (refine And.intro (show bJ _ = true from rfl) ?_) | ((refine ax.dO 11 7 [pI (l[k]).par, .list (l[k]).ln ((l[k]).lv.map pI), pI (l[k]).drop, pI (l[k]).cap, pB (l[k]).alw] rfl rfl ?_)) | (apply ax.bA eC (by kernel_rfl) (by kernel_rfl) (by decide +kernel)) | (refine ab.qS (hlc) ?_) | (apply ax.bA eE (by kernel_rfl) (by kernel_rfl) (by decide +kernel))) <;> (conv => whnf))
     ·rw [if_pos ⟨hp, h0⟩] at hsn
      subst hsn
      refine ⟨?_, hok'⟩
      refine' sa_
     ·rw [if_neg (fun h => by omega)] at hsn
      subst hsn
      refine ⟨?_, hok'⟩
      refine' sa_
    ·rw [if_neg (by omega)] at hsn
     subst hsn
     (conv => whnf); repeat' ((first | refine' z196e | (refine And.intro (show bJ _ = true from rfl) ?_) | ((refine ax.dO 11 7 [pI (l[k]).par, .list (l[k]).ln ((l[k]).lv.map pI), pI (l[k]).drop, pI (l[k]).cap, pB (l[k]).alw] rfl rfl ?_)) | (apply ax.bA eC (by kernel_rfl) (by kernel_rfl) (by decide +kernel)) | (refine ab.qS (hlc) ?_) | (apply ax.bA eE (by kernel_rfl) (by kernel_rfl) (by decide +kernel))) <;> (conv => whnf))
     refine ⟨?_, hok'⟩
     refine' sa_
   ·have hfl := hfail (by omega)
    rw [decide_eq_false (by omega)] at hlc
    clear hokn hfail
    (conv => whnf); repeat' ((first | refine' z196e | (refine And.intro (show bJ _ = true from rfl) ?_) | ((refine ax.dO 11 7 [pI (l[k]).par, .list (l[k]).ln ((l[k]).lv.map pI), pI (l[k]).drop, pI (l[k]).cap, pB (l[k]).alw] rfl rfl ?_)) | (apply ax.bA eC (by kernel_rfl) (by kernel_rfl) (by decide +kernel)) | (refine ab.qS (hlc) ?_) | (apply ax.bA eD (by kernel_rfl) (by kernel_rfl) (by decide +kernel))) <;> (conv => whnf))
    all_goals
     refine ⟨[some (.cells [.buf 3]), some (.cells [.buf 4]), some (.cells [.p (pI k)]), some (AO.buf 188 b1 (xs.map De.pv)), some (AO.buf 3 b2 (ls.map pI)), some (.cells [.p (.list m1 ((aL l d).map pB))]), none], ?_, rfl, fun hpf => ?_⟩
     ·refine' sa_
     ·refine' yb568
      (refine ay.frz _ _ _ [3, 4] ?_; refine' ay.auto (.tup [.p (.list b1 (xs.map De.pv)), .p (.list b2 (ls.map pI)), .p (pI k)]) ([]) rfl rfl rfl rfl _ _ _ <;> refine' aj)
      exact ⟨pre, k, b1, b2, by rw [hst], rfl, hfl hpf⟩
  ·intro hok
   (conv => whnf); repeat' ((first | refine' z196e | (apply ax.bA eF (by kernel_rfl) (by kernel_rfl) (by kernel_rfl))) <;> (conv => whnf))
   all_goals
    (refine ay.frz _ _ _ [3, 4] ?_; refine' ay.auto (.tup [.p (.list b1 ((dmP l d (List.finRange l.length).reverse).1.map De.pv)), .p (.list b2 ((dmP l d (List.finRange l.length).reverse).2.map pI)), .p (pI (-1))]) ([]) rfl rfl rfl rfl _ _ _ <;> refine' aj)
    exact ⟨_, _, b1, b2, rfl, rfl, hok, .inl ⟨rfl, rfl⟩⟩
theorem lS (nl n2 : Bool) (l : List Sup) (d : List Dr) : ao Tryz.prog 41 [.p (.list nl (l.map Sup.pv)), .p (.list n2 (d.map Dr.pv))] [] fun r H => ∃ e : Int, r = .p (pI e) /\ H = [] /\ (e = 0 ↔ aT l /\ b9 l.length d) := by
 refine aa Tryz.func41 rfl rfl au rfl ?_
 (conv => whnf); repeat' ((first | refine' zd421 | ((refine dL (dH nl l) ?_; intro e he)) | ((refine b4 (e9 nl n2 l d) ?_; intro b hb))) <;> (conv => whnf))
 ·refine' rp_
  exact ⟨_, rfl, rfl, fun h => absurd h (by assumption), fun h => absurd (he.2 h.1) (by assumption)⟩
 ·refine' rp_
  exact ⟨_, rfl, rfl, fun h => (by cases h), fun h => by rw [hb.2 h] at h0; cases h0⟩
 ·refine' rp_
  exact ⟨_, rfl, rfl, fun _ => hb.1 h0, fun _ => rfl⟩
theorem jK (nl n2 : Bool) (l : List Sup) (d : List Dr) (hl : aT l) (hd : b9 l.length d) : ao Tryz.prog 14 [.p (.list nl (l.map Sup.pv)), .p (.list n2 (d.map Dr.pv))] [] fun r' H => ∃ (r : Rl) (n1 n3 : Bool) (e : Int) (pre : List (Fin l.length)) (f : Int), r' = .tup [.p (Rl.pv n1 n3 r), .p (pI e)] /\ H = [] /\ DmR l d pre f /\ (e = 0 -> f = -1 /\ r = ⟨aL l d, (dmP l d pre).2⟩ /\ bm l r d) /\ (e ≠ 0 -> e = 9 /\ (0 <= f \/ ¬ bm l ⟨aL l d, (dmP l d pre).2⟩ d)) := by
 refine aa Tryz.func14 rfl rfl au rfl ?_
 (conv => whnf); repeat' ((first | refine' zd421 | ((refine dL (lS nl n2 l d) ?_; intro e he))) <;> (conv => whnf))
 ·exact absurd (he.2 ⟨hl, hd⟩) (by assumption)
 refine ab.loc [] [] rfl rfl ((kI nl n2 l d hl hd).mono ?_)
 rintro _ _ ⟨pre, f, b1, b2, rfl, rfl, hdm⟩
 (conv => whnf); repeat' ((first | refine' zd421 | ((refine ab.loc [] [] rfl rfl ((kZ nl n2 l d hl hd).mono ?_); rintro _ _ ⟨m1, rfl, rfl⟩)) | ((refine b4 (e8 nl m1 n2 b2 l ⟨aL l d, (dmP l d pre).2⟩ d) ?_; intro b hb))) <;> (conv => whnf))
 ·(refine' ay.auto (.tup [.p (Rl.pv true true ⟨[], []⟩), .p (pI 9)]) ([]) rfl rfl rfl rfl _ _ _ <;> refine' aj)
  exact ⟨_, true, true, 9, pre, f, rfl, rfl, hdm, fun h => (by cases h), fun _ => ⟨rfl, .inl h0⟩⟩
 ·(refine' ay.auto (.tup [.p (Rl.pv true true ⟨[], []⟩), .p (pI 9)]) ([]) rfl rfl rfl rfl _ _ _ <;> refine' aj)
  exact ⟨_, true, true, 9, pre, f, rfl, rfl, hdm, fun h => (by cases h), fun _ => ⟨rfl, .inr fun h => by rw [hb.2 ⟨hl, h⟩] at h0; cases h0⟩⟩
 ·(refine' ay.auto (.tup [.p (Rl.pv m1 b2 ⟨aL l d, (dmP l d pre).2⟩), .p (pI 0)]) ([]) rfl rfl rfl rfl _ _ _ <;> refine' aj)
  refine ⟨_, m1, b2, 0, pre, f, rfl, rfl, hdm, fun _ => ⟨?_, rfl, (hb.1 h0).2⟩, fun h => absurd rfl h⟩
  rcases hdm.2 with ⟨h, _⟩ | ⟨y, s, h, _⟩
  ·exact h
  ·omega
def Way {σ ω : Type} (ap : σ -> ω -> σ) (V : ω -> Prop) (G : σ -> Prop) (s : σ) (ws : List ω) : Prop := (∀ w ∈ ws, V w) /\ ∀ k, k <= ws.length -> G ((ws.take k).foldl ap s)
section
variable {σ ω : Type} {ap : σ -> ω -> σ} {V V' : ω -> Prop} {G G' : σ -> Prop} {s : σ} {ws vs : List ω} {w : ω}
theorem Way.nil (h : G s) : Way ap V G s [] := ⟨by simp, fun k hk => by simpa using h⟩
theorem Way.start (h : Way ap V G s ws) : G s := by simpa using h.2 0 (by omega)
theorem Way.last (h : Way ap V G s ws) : G (ws.foldl ap s) := by simpa using h.2 ws.length (Nat.le_refl _)
theorem Way.app (h : Way ap V G s ws) (h' : Way ap V G (ws.foldl ap s) vs) : Way ap V G s (ws ++ vs) := by
 refine ⟨fun w hw => (List.mem_append.1 hw).elim (h.1 w) (h'.1 w), fun k hk => ?_⟩
 rcases Nat.lt_or_ge ws.length k with hlt | hge
 ·rw [List.take_append, List.take_of_length_le (by omega), List.foldl_append]
  exact h'.2 _ (by simp at hk; omega)
 ·rw [List.take_append_of_le_length hge]
  exact h.2 k hge
theorem Way.snoc (h : Way ap V G s ws) (hv : V w) (hg : G (ap (ws.foldl ap s) w)) : Way ap V G s (ws ++ [w]) := by
 refine h.app ⟨fun x hx => by simp at hx; rw [hx]; exact hv, fun k hk => ?_⟩
 match k, hk with
 | 0, _ => simpa using h.last
 | 1, _ => simpa using hg
end
open Go.Abs
set_option maxRecDepth 100000
theorem z01e7 {P : Prop} (h : P := by
 ((first | apply aB.plain | refine' gC | refine' gpI | refine' gpB | refine' ba | refine' gE | (apply ax.quiet (by kernel_rfl) (by kernel_rfl); (conv => whnf); fail_if_success (show False))) <;> (conv => whnf)) <;> (solve_by_elim (newGoals := .nonDependentOnly) (symm := false) (exfalso := false) (transparency := .reducible) only [rfl, aC])) : P := h
theorem ml (nl : Bool) (xs : List Int) (h : xs.length <= 100000) : ao Tryz.prog 104 [.p (.list nl (xs.map pI))] [] fun r H => ∃ nb, r = .buf 0 /\ H = [some (AO.buf 3 nb (xs.map pI))] := by
 refine aa Tryz.func104 rfl rfl au rfl ?_
 (conv => whnf); repeat' ((first | refine' z01e7 | (refine IsL.mk (([] : List Int).map pI) (by simp) ?_)) <;> (conv => whnf))
 ·rename_i hn
  obtain rfl := hn h0
  refine ay.nil (e := 3) rfl ?_
  (refine' ay.auto (.buf 0) ([some (AO.buf 3 true (([] : List Int).map pI))]) rfl rfl rfl rfl _ _ _ <;> refine' aj)
  exact ⟨true, rfl, rfl⟩
 ·(refine' ay.auto (.buf 0) ([some (AO.buf 3 _ (xs.map pI))]) rfl rfl rfl rfl _ _ _ <;> try refine' aj)
  exact ⟨_, rfl, rfl⟩
theorem uc (nl : Bool) (xs : List Bool) (h : xs.length <= 100000) : ao Tryz.prog 116 [.p (.list nl (xs.map pB))] [] fun r H => ∃ nb, r = .buf 0 /\ H = [some (AO.buf 4 nb (xs.map pB))] := by
 refine aa Tryz.func116 rfl rfl au rfl ?_
 (conv => whnf); repeat' ((first | refine' z01e7 | (refine IsL.mk (([] : List Bool).map pB) (by simp) ?_)) <;> (conv => whnf))
 ·rename_i hn
  obtain rfl := hn h0
  refine ay.nil (e := 4) rfl ?_
  (refine' ay.auto (.buf 0) ([some (AO.buf 4 true (([] : List Bool).map pB))]) rfl rfl rfl rfl _ _ _ <;> refine' aj)
  exact ⟨true, rfl, rfl⟩
 ·(refine' ay.auto (.buf 0) ([some (AO.buf 4 _ (xs.map pB))]) rfl rfl rfl rfl _ _ _ <;> try refine' aj)
  exact ⟨_, rfl, rfl⟩
def rlH (b1 b2 : Bool) (r : Rl) : AH := [some (AO.buf 4 b1 (r.on.map pB)), some (AO.buf 3 b2 (r.lev.map pI))]
def CJ : Sc := (.one 4 (.one 5 (.take 6 (.one 7 .done))))
def CI : Sc := (.one 2 (.one 5 (.take 6 (.one 7 .done))))
def CH : Sc := (.two 2 4 CJ CI)
def CG : Sc := (.one 1 (.one 2 (.one 5 (.take 6 (.one 7 .done)))))
def cpA : Sc := (.take 0 (.take 3 (.two 1 4 CH CG)))
theorem zd663 {P : Prop} (h : P := by
 ((first | apply aB.plain | refine' gC | refine' gpI | refine' gpB | refine' ba | refine' gE | fail) <;> (conv => whnf)) <;> (solve_by_elim (newGoals := .nonDependentOnly) (symm := false) (exfalso := false) (transparency := .reducible) only [rfl, aC])) : P := h
theorem fm (n1 n3 : Bool) (r : Rl) (h1 : r.on.length <= 16) (h2 : r.lev.length <= 16) : ao Tryz.prog 54 [.p (Rl.pv n1 n3 r)] [] fun r' H => ∃ b1 b2, r' = .agg [.buf 0, .buf 1] /\ H = rlH b1 b2 r := by
 refine aa Tryz.func54 rfl rfl au rfl ?_
 (conv => whnf); repeat' ((first | refine' zd663 | (apply ax.bA cpA (by kernel_rfl) (by kernel_rfl) (by kernel_rfl)) | ((refine ab.loc [] [] rfl rfl ((uc n1 r.on (by omega)).mono ?_); rintro _ _ ⟨b1, rfl, rfl⟩)) | ((refine ab.loc [] [] rfl rfl ((ml n3 r.lev (by omega)).mono ?_); rintro _ _ ⟨b2, rfl, rfl⟩))) <;> (conv => whnf))
 all_goals
  (refine' ay.auto (.agg [.buf 0, .buf 1]) (rlH b1 b2 r) rfl rfl rfl rfl _ _ _ <;> refine' aj)
  exact ⟨b1, b2, rfl, rfl⟩
structure Rq where
 n1 : Bool
 n3 : Bool
 r : Rl
def Rq.pv (q : Rq) : PV := .agg [.list q.n1 (q.r.on.map pB), .list q.n3 (q.r.lev.map pI)]
theorem gB {P : Prop} (h : P := by
 (first | ((first | apply bx.snoc (f := Rq.pv) (a := _) rfl | apply bx.one (f := Rq.pv) (a := _) rfl | (apply bx.snoc (f := Rq.pv) (a := ⟨_, _, _⟩); dsimp only [Rq.pv]; exact rfl) | (apply bx.one (f := Rq.pv) (a := ⟨_, _, _⟩); dsimp only [Rq.pv]; exact rfl)); exact ar_) | apply IsL.set (f := Rq.pv) (a := _) rfl | apply IsL.rep (f := Rq.pv) (a := _) rfl | (apply IsL.set (f := Rq.pv) (a := ⟨_, _, _⟩); dsimp only [Rq.pv]; exact rfl) | (apply IsL.rep (f := Rq.pv) (a := ⟨_, _, _⟩); dsimp only [Rq.pv]; exact rfl) | apply IsL.lit (f := Rq.pv) [] rfl | apply IsL.lit (f := Rq.pv) [_] rfl | apply IsL.lit (f := Rq.pv) [_, _] rfl | apply IsL.lit (f := Rq.pv) [_, _, _] rfl | apply IsL.lit (f := Rq.pv) [] rfl | apply IsL.lit (f := Rq.pv) [⟨_, _, _⟩] rfl | apply IsL.lit (f := Rq.pv) [⟨_, _, _⟩, ⟨_, _, _⟩] rfl | apply IsL.lit (f := Rq.pv) [⟨_, _, _⟩, ⟨_, _, _⟩, ⟨_, _, _⟩] rfl) <;> (solve_by_elim (newGoals := .nonDependentOnly) (symm := false) (exfalso := false) (transparency := .reducible) only [rfl, aC])) : P := h
theorem z0f2b {P : Prop} (h : P := by
 ((first | apply aB.plain | refine' gC | refine' gpI | refine' gpB | refine' aI | refine' gB | refine' gE | fail) <;> (conv => whnf)) <;> (solve_by_elim (newGoals := .nonDependentOnly) (symm := false) (exfalso := false) (transparency := .reducible) only [rfl, aC])) : P := h
theorem yG (nl : Bool) (l : List Sup) (hl : aT l) (q : Rq) : ao Tryz.prog 114 [.p q.pv, .ptr 0 0] (wS nl l) fun r' H => ∃ b, r' = .p (pB b) /\ H = wS nl l /\ (b = true ↔ ¬ RlV l q.r) := by
 refine aa Tryz.func114 rfl rfl au rfl ?_
 (conv => whnf); repeat' ((first | refine' z0f2b | ((refine b4 (lT nl q.n1 q.n3 l q.r) ?_; intro b hb))) <;> (conv => whnf))
 (refine' ay.auto (.p (pB _)) (wS nl l) rfl rfl rfl rfl _ _ _ <;> try refine' aj)
 refine ⟨_, rfl, rfl, ?_⟩
 rw [Bool.not_eq_true', <- Bool.not_eq_true, hb]
 exact ⟨fun h hr => h ⟨hl, hr⟩, fun h hr => h hr.2⟩
theorem y1dae {P : Prop} (h : P := by
 ((conv => whnf); repeat' ((first | apply aB.plain | refine' gC | refine' gpI | refine' gpB | refine' aI | refine' gB | refine' gE | (apply ax.quiet (by kernel_rfl) (by kernel_rfl); (conv => whnf); fail_if_success (show False))) <;> (conv => whnf))) <;> (solve_by_elim (newGoals := .nonDependentOnly) (symm := false) (exfalso := false) (transparency := .reducible) only [rfl, aC])) : P := h
theorem vq (nl : Bool) (l : List Sup) (hl : aT l) (n2 : Bool) (xs : List Rq)  : ao Tryz.prog 58 [.p (.list n2 (xs.map Rq.pv)), .clo (.func 114) [.ptr 0 0]] [some (.cells [.p (.list nl (l.map Sup.pv))])] fun r' H' => ∃ v : Int, r' = .p (pI v) /\ H' = [some (.cells [.p (.list nl (l.map Sup.pv))])] /\ (0 <= v ↔ ∃ x ∈ xs, ¬ RlV l x.r) := by
 refine aa Tryz.func58 rfl rfl au rfl ?_
 refine' y1dae
 refine ai (fun (c : Nat) => ⟨[(0, .p (.list n2 (xs.map Rq.pv))), (1, .clo (.func 114) [.ptr 0 0]), (7, .p (pI xs.length)), (8, .p (pI c))], [some (.cells [.p (.list nl (l.map Sup.pv))])]⟩) (fun c => c <= xs.length /\ ∀ (k : Nat) (h : k < xs.length), k < c -> ¬ (fun x => ¬ RlV l x.r) xs[k]) (fun c => xs.length - c) 0 ?_ ?_ ?_; refine' sa_
 ·exact ⟨by omega, by omega⟩
 rintro c ⟨hc, hok⟩
 rcases Nat.lt_or_ge c xs.length with hlt | hge
 ·refine' y1dae
  refine ab.loc [0] [] rfl rfl ((yG nl l hl xs[c]).mono ?_)
  rintro r' H' ⟨b, rfl, rfl, hb⟩
  refine' y1dae
  ·(refine' ay.auto (.p (pI c)) ([some (.cells [.p (.list nl (l.map Sup.pv))])]) rfl rfl rfl rfl _ _ _ <;> refine' aj)
   exact ⟨_, rfl, rfl, fun _ => ⟨_, List.getElem_mem hlt, hb.1 (by assumption)⟩, fun _ => by omega⟩
  ·(refine' ⟨c + 1, _, _, _⟩; rotate_right; refine' sa_; rotate_right; exact aw)
   refine ⟨by omega, fun k hk hkc => ?_⟩
   rcases Nat.lt_or_ge k c with h3 | h3
   ·exact hok k hk h3
   ·obtain rfl : k = c := by omega
    exact fun h => by have hbf : b = false := (by assumption); rw [hb.2 h] at hbf; cases hbf
 ·refine' y1dae
  (refine' ay.auto (.p (pI (-1))) ([some (.cells [.p (.list nl (l.map Sup.pv))])]) rfl rfl rfl rfl _ _ _ <;> refine' aj)
  refine ⟨_, rfl, rfl, fun h => (by omega), fun ⟨x, hx, h⟩ => ?_⟩
  obtain ⟨k, hk, rfl⟩ := List.getElem_of_mem hx
  exact absurd h (hok k hk (by omega))
theorem pM (nl : Bool) (l : List Sup) (hl : aT l) (n2 : Bool) (xs : List Rq)  : ao Tryz.prog 113 [.p (.list n2 (xs.map Rq.pv)), .clo (.func 114) [.ptr 0 0]] [some (.cells [.p (.list nl (l.map Sup.pv))])] fun r' H' => ∃ b : Bool, r' = .p (pB b) /\ H' = [some (.cells [.p (.list nl (l.map Sup.pv))])] /\ (b = true ↔ ∃ x ∈ xs, ¬ RlV l x.r) := by
 refine aa Tryz.func113 rfl rfl au rfl ?_
 refine' y1dae
 refine ab.all ((vq nl l hl n2 xs ).mono ?_)
 rintro r' H' ⟨v, rfl, rfl, hv⟩
 refine' y1dae
 (refine' ay.auto (.p (pB _)) ([some (.cells [.p (.list nl (l.map Sup.pv))])]) rfl rfl rfl rfl _ _ _ <;> try refine' aj)
 exact ⟨_, rfl, rfl, by rw [decide_eq_true_eq]; exact hv⟩
theorem gT (nl n2 : Bool) (l : List Sup) (qs : List Rq) : ao Tryz.prog 51 [.p (.list nl (l.map Sup.pv)), .p (.list n2 (qs.map Rq.pv))] [] fun r H => ∃ e : Int, r = .p (pI e) /\ H = [] /\ (e = 0 ↔ aT l /\ ∀ q ∈ qs, RlV l q.r) := by
 refine aa Tryz.func51 rfl rfl au rfl ?_
 (conv => whnf); repeat' ((first | refine' z0f2b | ((refine dL (dH nl l) ?_; intro e he))) <;> (conv => whnf))
 ·refine' rp_
  exact ⟨_, rfl, rfl, fun h => absurd h (by assumption), fun h => absurd (he.2 h.1) (by assumption)⟩
 have hl : aT l := he.1 (by assumption)
 refine ab.loc [0] [] rfl rfl ((pM nl l hl n2 qs).mono ?_)
 rintro _ _ ⟨b, rfl, rfl, hb⟩
 refine' y1dae
 ·refine' rp_
  exact ⟨_, rfl, rfl, fun h => (by cases h), fun h => by obtain ⟨x, h1, h2⟩ := hb.1 h0; exact absurd (h.2 x h1) h2⟩
 ·refine' rp_
  refine ⟨_, rfl, rfl, fun _ => ⟨hl, fun q hq => Classical.byContradiction fun h => ?_⟩, fun _ => rfl⟩
  rw [hb.2 ⟨q, hq, h⟩] at h0
  cases h0
def jnP (a b : Rl) (c : Nat) : Rl := ⟨(List.range b.on.length).map fun i => if i < c then onA a i || onA b i else onA b i, (List.range b.lev.length).map fun i => if i < c then (if onA a i then (if onA b i then max (lvA a i) (lvA b i) else lvA a i) else lvA b i) else lvA b i⟩
theorem tg (a b : Rl) : jnP a b 0 = b := by
 unfold jnP onA lvA
 have h1 : ((List.range b.on.length).map fun i => if i < 0 then a.on.getD i false || b.on.getD i false else b.on.getD i false) = b.on := List.ext_getElem (by simp) fun i h1 h2 => by simp [h2]
 have h2 : ((List.range b.lev.length).map fun i => if i < 0 then (if a.on.getD i false then (if b.on.getD i false then max (a.lev.getD i 0) (b.lev.getD i 0) else a.lev.getD i 0) else b.lev.getD i 0) else b.lev.getD i 0) = b.lev := List.ext_getElem (by simp) fun i h1 h2 => by simp [h2]
 rw [h1, h2]
theorem wc {a b : Rl} {n : Nat} (h1 : b.on.length = n) (h2 : b.lev.length = n) : jnP a b n = aD a b := by
 unfold jnP aD
 congr 1
 ·refine List.map_congr_left fun i hi => ?_
  rw [List.mem_range] at hi
  rw [if_pos (by omega)]
 ·refine List.map_congr_left fun i hi => ?_
  rw [List.mem_range] at hi
  rw [if_pos (by omega)]
theorem Bb (a b : Rl) (c : Nat) : (jnP a b c).on.length = b.on.length /\ (jnP a b c).lev.length = b.lev.length := by simp [jnP]
theorem Cr (a b : Rl) (c : Nat) : (jnP a b (c + 1)).on = (jnP a b c).on.set c (onA a c || onA b c) := by
 refine List.ext_getElem (by simp [jnP]) fun i h1 h2 => ?_
 rw [List.getElem_set]
 simp only [jnP, List.getElem_map, List.getElem_range]
 by_cases e : c = i
 ·subst e; rw [if_pos (by omega), if_pos rfl]
 ·rw [if_neg e]
  by_cases h : i < c
  ·rw [if_pos (by omega), if_pos h]
  ·rw [if_neg (by omega), if_neg h]
theorem Bf (a b : Rl) (c : Nat) : (jnP a b (c + 1)).lev = (jnP a b c).lev.set c (if onA a c then (if onA b c then max (lvA a c) (lvA b c) else lvA a c) else lvA b c) := by
 refine List.ext_getElem (by simp [jnP]) fun i h1 h2 => ?_
 rw [List.getElem_set]
 simp only [jnP, List.getElem_map, List.getElem_range]
 by_cases e : c = i
 ·subst e; rw [if_pos (by omega), if_pos rfl]
 ·rw [if_neg e]
  by_cases h : i < c
  ·rw [if_pos (by omega), if_pos h]
  ·rw [if_neg (by omega), if_neg h]
theorem Cs {a b : Rl} {c : Nat} (h1 : c < b.on.length) (h2 : c < b.lev.length) : ((jnP a b c).on.set c (onA b c) = (jnP a b c).on) /\ ((jnP a b c).lev.set c (lvA b c) = (jnP a b c).lev) := by
 constructor
 ·refine List.ext_getElem (by simp) fun i h1 h2 => ?_
  rw [List.getElem_set]
  split
  ·rename_i e; subst e; simp [jnP]
  ·rfl
 ·refine List.ext_getElem (by simp) fun i h1 h2 => ?_
  rw [List.getElem_set]
  split
  ·rename_i e; subst e; simp [jnP]
  ·rfl
def jA : Sc := (.take 0 (.take 2 (.take 3 (.frz 4 (.take 5 (.take 6 (.frz 7 (.take 8 (.frz 9 (.take 10 (.take 11 (.frz 12 (.take 13 (.one 1 (.take 14 (.one 15 .done))))))))))))))))
def DQ : Sc := (.one 12 (.take 13 (.one 14 .done)))
def DP : Sc := (.one 4 (.take 13 (.one 14 .done)))
def DO : Sc := (.take 11 (.two 4 12 DQ DP))
def DN : Sc := (.one 1 (.take 11 (.one 12 (.take 13 (.one 14 .done)))))
def jB : Sc := (.take 0 (.take 2 (.take 3 (.take 5 (.take 6 (.frz 7 (.take 8 (.take 9 (.frz 10 (.two 1 4 DO DN))))))))))
set_option maxHeartbeats 2000000 in
theorem yo (a b : Rq) (n : Nat) (hn : n <= 16) (ha1 : a.r.on.length = n) (ha2 : a.r.lev.length = n) (hb1 : b.r.on.length = n) (hb2 : b.r.lev.length = n) : ao Tryz.prog 53 [.p a.pv, .p b.pv] [] fun r' H => ∃ c1 c2, r' = .agg [.buf 0, .buf 1] /\ H = rlH c1 c2 (aD a.r b.r) := by
 refine aa Tryz.func53 rfl rfl au rfl ?_
 refine' y1dae
 refine ab.loc [] [] rfl rfl ((fm b.n1 b.n3 b.r (by omega) (by omega)).mono ?_)
 rintro _ _ ⟨c1, c2, rfl, rfl⟩
 refine' y1dae
 refine ai (fun (c : Nat) => ⟨[(2, .aN [.list a.n1 (a.r.on.map pB), .list a.n3 (a.r.lev.map pI)]), (3, .aN [.list b.n1 (b.r.on.map pB), .list b.n3 (b.r.lev.map pI)]), (4, .ptr 2 0), (5, .ptr 3 0), (11, .p (pI n)), (12, .p (pI c))], [none, none, some (.cells [.p (.list true []), .p (.list true [])]), some (.cells [.buf 4, .buf 5]), some (AO.buf 4 c1 ((jnP a.r b.r c).on.map pB)), some (AO.buf 3 c2 ((jnP a.r b.r c).lev.map pI))]⟩) (fun c => c <= n) (fun c => n - c) 0 ?_ ?_ ?_; (refine aq.ret _ 2 0 [.list a.n1 (a.r.on.map pB), .list a.n3 (a.r.lev.map pI)] rfl rfl ?_; refine aq.ret _ 3 1 [.list b.n1 (b.r.on.map pB), .list b.n3 (b.r.lev.map pI)] rfl rfl ?_; refine aq.auto rfl rfl rfl rfl ?_ ?_ <;> refine' aj)
 ·rw [tg]
 ·rw [tg]
 ·omega
 intro c hc
 replace hc : c <= n := hc
 rcases Nat.lt_or_ge c n with hlt | hge
 ·have e1 := Cr a.r b.r c
  have e2 := Bf a.r b.r c
  obtain ⟨e3, e4⟩ := Cs (a := a.r) (b := b.r) (c := c) (by omega) (by omega)
  unfold onA at e1 e2 e3
  unfold lvA at e2 e4
  rw [ak (show c < a.r.on.length by omega), ak (show c < b.r.on.length by omega)] at e1 e2
  rw [ak (show c < a.r.lev.length by omega), ak (show c < b.r.lev.length by omega)] at e2
  rw [ak (show c < b.r.on.length by omega)] at e3
  rw [ak (show c < b.r.lev.length by omega)] at e4
  obtain ⟨l1, l2⟩ := Bb a.r b.r c
  generalize jnP a.r b.r c = J at l1 l2 e1 e2 e3 e4 ⊢
  cases hA : a.r.on[c]'(by omega) <;> cases hB : b.r.on[c]'(by omega)
  all_goals
   rw [hA, hB] at e1 e2
   rw [hB] at e3
   simp only [Bool.or_true, Bool.or_false, if_true, if_false, Bool.false_eq_true, e3, e4] at e1 e2
  all_goals
   (conv => whnf); repeat' ((first | refine' z0f2b | (apply ax.bA jA (by kernel_rfl) (by kernel_rfl) (by decide +kernel)) | (apply ax.bA jB (by kernel_rfl) (by kernel_rfl) (by decide +kernel))) <;> (conv => whnf))
  all_goals
   (refine' ⟨c + 1, _, _, _⟩; rotate_right; refine' sa_; rotate_right; exact aw)
  all_goals first
  | omega
  | exact e1.symm
  | exact e2.symm
  | (rw [e2]; congr 1; split <;> omega)
 ·have hc' : c = n := by omega
  subst hc'
  refine' y1dae
  (refine' ay.auto (.agg [.buf 0, .buf 1]) (rlH c1 c2 (aD a.r b.r)) rfl rfl rfl rfl _ _ _ <;> refine' aj)
  ·rw [wc hb1 hb2]
  ·rw [wc hb1 hb2]
  ·exact ⟨c1, c2, rfl, rfl⟩
structure Wr where
 kind : Int
 unit : Int
 value : Int
def Wr.pv (w : Wr) : PV := .agg [pI w.kind, pI w.unit, pI w.value]
def bc (r : Rl) (w : Wr) : Rl := if w.kind = 2 then ⟨r.on, r.lev.set w.unit.toNat w.value⟩ else ⟨r.on.set w.unit.toNat (decide (w.value = 1)), r.lev⟩
def WrV (l : List Sup) (w : Wr) : Prop := (0 <= w.unit /\ w.unit < l.length) /\ ((w.kind = 2 /\ 0 <= w.value /\ w.value < (l.getD w.unit.toNat default).lv.length) \/ (w.kind = 3 /\ (w.value = 0 \/ w.value = 1)))
def kR (l : List Sup) (d : List Dr) (a b r : Rl) : Prop := bm l r d /\ sk l a b r
abbrev jJ (l : List Sup) (d : List Dr) (a b : Rl) (ws : List Wr) : Prop := Way bc (WrV l) (kR l d a b) a ws
def dh (r : Rl) (i : Nat) (v : Int) : List Wr := if lvA r i = v then [] else [⟨2, i, v⟩]
def dS (r : Rl) (i : Nat) (v : Bool) : List Wr := if onA r i = v then [] else [⟨3, i, if v then 1 else 0⟩]
theorem dF {α : Type} {xs : List α} {i : Nat} {v d : α} (h : xs.getD i d = v) : xs.set i v = xs := by
 refine List.ext_getElem (by simp) fun j h1 h2 => ?_
 rw [List.getElem_set]
 split
 ·rename_i e; subst e; rw [<- h, ak h2]
 ·rfl
theorem kY {l : List Sup} {d : List Dr} {a b r : Rl} {ws : List Wr} (h : jJ l d a b ws) (hr : ws.foldl bc a = r) {i : Nat} (hi : i < l.length) {v : Int} (hv : 0 <= v /\ v < (l[i]).lv.length) (hg : kR l d a b ⟨r.on, r.lev.set i v⟩) :
  jJ l d a b (ws ++ dh r i v) /\ (ws ++ dh r i v).foldl bc a = ⟨r.on, r.lev.set i v⟩ := by
 unfold dh
 split
 ·rename_i e
  rw [List.append_nil, dF e]
  exact ⟨h, hr⟩
 ·have he : bc r ⟨2, i, v⟩ = ⟨r.on, r.lev.set i v⟩ := by simp [bc]
  refine ⟨h.snoc ⟨⟨by simp, by simpa using hi⟩, .inl ⟨rfl, hv.1, ?_⟩⟩ ?_, ?_⟩
  ·simp only [Int.toNat_natCast, ak hi]; exact hv.2
  ·rw [hr, he]; exact hg
  ·rw [List.foldl_append, hr]; exact he
theorem mX {l : List Sup} {d : List Dr} {a b r : Rl} {ws : List Wr} (h : jJ l d a b ws) (hr : ws.foldl bc a = r) {i : Nat} (hi : i < l.length) {v : Bool} (hg : kR l d a b ⟨r.on.set i v, r.lev⟩) :
  jJ l d a b (ws ++ dS r i v) /\ (ws ++ dS r i v).foldl bc a = ⟨r.on.set i v, r.lev⟩ := by
 unfold dS
 split
 ·rename_i e
  rw [List.append_nil, dF e]
  exact ⟨h, hr⟩
 ·have he : bc r ⟨3, i, if v then 1 else 0⟩ = ⟨r.on.set i v, r.lev⟩ := by cases v <;> simp [bc]
  refine ⟨h.snoc ⟨⟨by simp, by simpa using hi⟩, .inr ⟨rfl, ?_⟩⟩ ?_, ?_⟩
  ·cases v <;> simp
  ·rw [hr, he]; exact hg
  ·rw [List.foldl_append, hr]; exact he
def upR (a b : Rl) (c : Nat) : Rl := ⟨(List.range b.on.length).map fun i => if i < c then onA (aD a b) i else onA a i, (List.range b.lev.length).map fun i => if i < c /\ onA (aD a b) i = true then lvA (aD a b) i else lvA a i⟩
def dnR (a b : Rl) (c : Nat) : Rl := ⟨(List.range b.on.length).map fun i => if i < c then onA (aD a b) i else onA b i, (List.range b.lev.length).map fun i => if i < c then (if onA (aD a b) i = true then lvA (aD a b) i else lvA a i) else lvA b i⟩
theorem fU {a b : Rl} {c i : Nat} (h : i < b.on.length) : onA (upR a b c) i = if i < c then onA (aD a b) i else onA a i := by
 rw [onA, upR]; simp only; rw [ak (by simpa using h)]; simp
theorem fV {a b : Rl} {c i : Nat} (h : i < b.lev.length) : lvA (upR a b c) i = if i < c /\ onA (aD a b) i = true then lvA (aD a b) i else lvA a i := by
 rw [lvA, upR]; simp only; rw [ak (by simpa using h)]; simp
theorem gy {a b : Rl} {c i : Nat} (h : i < b.on.length) : onA (dnR a b c) i = if i < c then onA (aD a b) i else onA b i := by
 rw [onA, dnR]; simp only; rw [ak (by simpa using h)]; simp
theorem jE {a b : Rl} {c i : Nat} (h : i < b.lev.length) : lvA (dnR a b c) i = if i < c then (if onA (aD a b) i = true then lvA (aD a b) i else lvA a i) else lvA b i := by
 rw [lvA, dnR]; simp only; rw [ak (by simpa using h)]; simp
theorem Rl.u0 {a b : Rl} (h1 : a.on.length = b.on.length) (h2 : a.lev.length = b.lev.length) (h3 : ∀ i, i < b.on.length -> onA a i = onA b i) (h4 : ∀ i, i < b.lev.length -> lvA a i = lvA b i) : a = b := by
 obtain ⟨a1, a2⟩ := a
 obtain ⟨b1, b2⟩ := b
 congr 1
 ·refine List.ext_getElem h1 fun i k1 k2 => ?_
  have := h3 i k2
  unfold onA at this
  rwa [ak k1, ak k2] at this
 ·refine List.ext_getElem h2 fun i k1 k2 => ?_
  have := h4 i k2
  unfold lvA at this
  rwa [ak k1, ak k2] at this
theorem uF {r : Rl} {i j : Nat} {v : Bool} : onA ⟨r.on.set i v, r.lev⟩ j = if i = j /\ j < r.on.length then v else onA r j := bC _ _ _ _
theorem nU {r : Rl} {i j : Nat} {v : Int} : lvA ⟨r.on, r.lev.set i v⟩ j = if i = j /\ j < r.lev.length then v else lvA r j := bK _ _ _ _
section
variable {l : List Sup} {d : List Dr} {a b : Rl}
theorem DM (hb : bm l b d) {i : Nat} (hi : i < l.length) : onA (aD a b) i = (onA a i || onA b i) := kg (by rw [hb.rv.1]; exact hi)
theorem rh (hl : aT l) (ha : bm l a d) (hb : bm l b d) {i : Nat} (hi : i < l.length) : 0 <= lvA (aD a b) i /\ lvA (aD a b) i < (l[i]).lv.length := (qT ha.rv hb.rv).at_ hi
theorem fZ (hb : bm l b d) (c : Nat) : (upR a b c).on.length = l.length /\ (upR a b c).lev.length = l.length := by simp [upR, hb.rv.1, hb.rv.2.1]
theorem ko (hb : bm l b d) (c : Nat) : (dnR a b c).on.length = l.length /\ (dnR a b c).lev.length = l.length := by simp [dnR, hb.rv.1, hb.rv.2.1]
theorem gM (ha : bm l a d) (hb : bm l b d) : upR a b 0 = a := by
 have e1 := fZ (a := a) hb 0
 refine Rl.u0 (by rw [e1.1, ha.rv.1]) (by rw [e1.2, ha.rv.2.1]) (fun i hi => ?_) fun i hi => ?_
 ·rw [fU (by rw [hb.rv.1]; rw [ha.rv.1] at hi; exact hi), if_neg (by omega)]
 ·rw [fV (by rw [hb.rv.2.1]; rw [ha.rv.2.1] at hi; exact hi), if_neg (by omega)]
theorem qL (ha : bm l a d) (hb : bm l b d) : upR a b l.length = dnR a b l.length := by
 have e1 := fZ (a := a) hb l.length
 have e2 := ko (a := a) hb l.length
 refine Rl.u0 (by rw [e1.1, e2.1]) (by rw [e1.2, e2.2]) (fun i hi => ?_) fun i hi => ?_
 ·rw [e2.1] at hi
  rw [fU (by rw [hb.rv.1]; exact hi), gy (by rw [hb.rv.1]; exact hi), if_pos hi, if_pos hi]
 ·rw [e2.2] at hi
  rw [fV (by rw [hb.rv.2.1]; exact hi), jE (by rw [hb.rv.2.1]; exact hi), if_pos hi]
  simp [hi]
theorem Aj (hb : bm l b d) : dnR a b 0 = b := by
 have e1 := ko (a := a) hb 0
 refine Rl.u0 (by rw [e1.1, hb.rv.1]) (by rw [e1.2, hb.rv.2.1]) (fun i hi => ?_) fun i hi => ?_
 ·rw [gy hi, if_neg (by omega)]
 ·rw [jE hi, if_neg (by omega)]
theorem qK (hl : aT l) (ha : bm l a d) (hb : bm l b d) {r : Rl} (c : Nat) (e1 : r.on.length = l.length) (e2 : r.lev.length = l.length)
  (hon : ∀ i, i < l.length -> onA r i = onA (upR a b c) i) (hlv : ∀ i, i < l.length -> lvA r i = lvA (upR a b c) i \/ (i = c /\ onA (aD a b) c = true /\ lvA r c = lvA (aD a b) c)) : kR l d a b r := by
 have b1 := hb.rv.1
 have b2 := hb.rv.2.1
 have hlv' : ∀ i, i < l.length -> i ≠ c -> lvA r i = if i < c /\ onA (aD a b) i = true then lvA (aD a b) i else lvA a i := fun i hi hne => by
  rcases hlv i hi with h | ⟨h, _⟩
  ·rw [h, fV (by omega)]
  ·exact absurd h hne
 refine AK hl ha hb (.of e1 e2 fun i hi => ?_) c (fun i hi hc ho => ?_) (fun i hi hc ho => ?_) (fun i hi hc => ?_) (fun i hi hc => ?_) fun hc => ?_
 ·have h1 := ha.rv.at_ hi
  have h2 := rh hl ha hb hi
  rcases hlv i hi with h | ⟨rfl, _, h⟩
  ·rw [h, fV (by omega)]
   split
   ·exact h2
   ·exact h1
  ·rw [h]; exact h2
 ·rw [hon i hi, fU (by omega), if_pos hc, hlv' i hi (by omega), if_pos ⟨hc, ho⟩]
  exact ⟨ho, rfl⟩
 ·rw [hon i hi, fU (by omega), if_pos hc]; exact ho
 ·rw [hon i hi, fU (by omega), if_neg (by omega)]
 ·rw [hlv' i hi (by omega), if_neg (by omega)]
 ·rcases hlv c hc with h | ⟨_, h1, h2⟩
  ·left
   rw [h, fV (by omega), if_neg (by omega)]
  ·exact .inr ⟨h1, h2⟩
theorem qu (hl : aT l) (ha : bm l a d) (hb : bm l b d) {r : Rl} (c : Nat) (e1 : r.on.length = l.length) (e2 : r.lev.length = l.length)
  (hon : ∀ i, i < l.length -> onA r i = onA (dnR a b c) i \/ (i + 1 = c /\ onA b i = false /\ onA r i = false)) (hlv : ∀ i, i < l.length -> lvA r i = lvA (dnR a b c) i) : kR l d a b r := by
 have b1 := hb.rv.1
 have b2 := hb.rv.2.1
 have key : ∀ i, i < l.length -> i < c -> onA r i = onA (aD a b) i -> onA r i = onA (aD a b) i /\ (onA r i = true -> lvA r i = lvA (aD a b) i) := fun i hi hc h => by
  refine ⟨h, fun ho => ?_⟩
  rw [hlv i hi, jE (by omega), if_pos hc, if_pos (by rw [<- h]; exact ho)]
 refine yx hl ha hb (.of e1 e2 fun i hi => ?_) c (fun i hi hc => ?_) (fun i hi hc => ?_) fun i hi hc => ?_
 ·have h1 := ha.rv.at_ hi
  have h2 := rh hl ha hb hi
  have h3 := hb.rv.at_ hi
  rw [hlv i hi, jE (by omega)]
  split
  ·split
   ·exact h2
   ·exact h1
  ·exact h3
 ·rcases hon i hi with h | ⟨h, _⟩
  ·rw [h, hlv i hi, gy (by omega), jE (by omega), if_neg (by omega), if_neg (by omega)]
   exact ⟨rfl, rfl⟩
  ·omega
 ·rcases hon i hi with h | ⟨h, _⟩
  ·rw [gy (by omega), if_pos (by omega)] at h
   exact key i hi (by omega) h
  ·omega
 ·rcases hon i hi with h | ⟨_, h1, h2⟩
  ·rw [gy (by omega), if_pos (by omega)] at h
   exact .inl (key i hi (by omega) h)
  ·exact .inr ⟨by rw [h1, h2], fun h => by rw [h1] at h; cases h⟩
theorem AI (hl : aT l) (ha : bm l a d) (hb : bm l b d) {c : Nat} (hc : c < l.length) (ho : onA (aD a b) c = true) {ws : List Wr} (h : jJ l d a b ws) (hr : ws.foldl bc a = upR a b c) :
  jJ l d a b (ws ++ dh (upR a b c) c (lvA (aD a b) c) ++ dS ⟨(upR a b c).on, (upR a b c).lev.set c (lvA (aD a b) c)⟩ c true) /\ (ws ++ dh (upR a b c) c (lvA (aD a b) c) ++ dS ⟨(upR a b c).on, (upR a b c).lev.set c (lvA (aD a b) c)⟩ c true).foldl bc a = upR a b (c + 1) /\
  (⟨(upR a b c).on.set c true, (upR a b c).lev.set c (lvA (aD a b) c)⟩ : Rl) = upR a b (c + 1) := by
 have e1 := fZ (a := a) hb c
 have e3 := fZ (a := a) hb (c + 1)
 have b1 := hb.rv.1
 have b2 := hb.rv.2.1
 have heq : (⟨(upR a b c).on.set c true, (upR a b c).lev.set c (lvA (aD a b) c)⟩ : Rl) = upR a b (c + 1) := by
  refine Rl.u0 (by simp [e1.1, e3.1]) (by simp [e1.2, e3.2]) (fun i hi => ?_) fun i hi => ?_
  ·rw [e3.1] at hi
   have := uF (r := ⟨(upR a b c).on, (upR a b c).lev.set c (lvA (aD a b) c)⟩) (i := c) (j := i) (v := true)
   rw [this, fU (by omega)]
   show (if c = i /\ i < (upR a b c).on.length then true else onA (upR a b c) i) = _
   rw [fU (by omega)]
   by_cases hci : c = i
   ·subst hci; rw [if_pos ⟨rfl, by omega⟩, if_pos (by omega), ho]
   ·rw [if_neg (fun h => hci h.1)]
    by_cases hlt : i < c
    ·rw [if_pos hlt, if_pos (by omega)]
    ·rw [if_neg hlt, if_neg (by omega)]
  ·rw [e3.2] at hi
   have := nU (r := upR a b c) (i := c) (j := i) (v := lvA (aD a b) c)
   show lvA ⟨(upR a b c).on, (upR a b c).lev.set c (lvA (aD a b) c)⟩ i = _
   rw [this, fV (by omega), fV (by omega)]
   by_cases hci : c = i
   ·subst hci; rw [if_pos ⟨rfl, by omega⟩, if_pos ⟨by omega, ho⟩]
   ·rw [if_neg (fun h => hci h.1)]
    by_cases hlt : i < c
    ·simp [hlt, show i < c + 1 by omega]
    ·simp [hlt, show ¬ i < c + 1 by omega]
 have g1 : kR l d a b ⟨(upR a b c).on, (upR a b c).lev.set c (lvA (aD a b) c)⟩ := by
  refine qK hl ha hb c e1.1 (by simp [e1.2]) (fun i hi => rfl) fun i hi => ?_
  rw [nU]
  by_cases hci : c = i
  ·subst hci; exact .inr ⟨rfl, ho, by rw [nU, if_pos ⟨rfl, by omega⟩]⟩
  ·left; rw [if_neg (fun h => hci h.1)]
 have g2 : kR l d a b (upR a b (c + 1)) := qK hl ha hb (c + 1) e3.1 e3.2 (fun i hi => rfl) fun i hi => .inl rfl
 obtain ⟨w1, w2⟩ := kY h hr hc (rh hl ha hb hc) g1
 obtain ⟨w3, w4⟩ := mX (v := true) w1 w2 hc (by rw [<- heq] at g2; exact g2)
 exact ⟨w3, w4.trans heq, heq⟩
theorem AJ (hb : bm l b d) {c : Nat} (hc : c < l.length) (ho : onA (aD a b) c = false) : upR a b (c + 1) = upR a b c := by
 have e1 := fZ (a := a) hb c
 have e3 := fZ (a := a) hb (c + 1)
 have b1 := hb.rv.1
 have b2 := hb.rv.2.1
 have hao : onA a c = false := by
  have := DM (a := a) hb hc
  rw [ho] at this
  cases h : onA a c
  ·rfl
  ·rw [h] at this; cases this
 refine Rl.u0 (by rw [e1.1, e3.1]) (by rw [e1.2, e3.2]) (fun i hi => ?_) fun i hi => ?_
 ·rw [e1.1] at hi
  rw [fU (by omega), fU (by omega)]
  by_cases hci : i = c
  ·subst hci; rw [if_pos (by omega), if_neg (by omega), ho, hao]
  ·by_cases hlt : i < c
   ·rw [if_pos hlt, if_pos (by omega)]
   ·rw [if_neg hlt, if_neg (by omega)]
 ·rw [e1.2] at hi
  rw [fV (by omega), fV (by omega)]
  by_cases hci : i = c
  ·subst hci; simp [ho]
  ·by_cases hlt : i < c
   ·simp [hlt, show i < c + 1 by omega]
   ·simp [hlt, show ¬ i < c + 1 by omega]
theorem qt (hl : aT l) (ha : bm l a d) (hb : bm l b d) {c : Nat} (hc : c < l.length) {ws : List Wr} (h : jJ l d a b ws) (hr : ws.foldl bc a = dnR a b (c + 1)) :
  (onA b c = false -> jJ l d a b (ws ++ dS (dnR a b (c + 1)) c false ++ dh ⟨(dnR a b (c + 1)).on.set c false, (dnR a b (c + 1)).lev⟩ c (lvA b c)) /\ (ws ++ dS (dnR a b (c + 1)) c false ++ dh ⟨(dnR a b (c + 1)).on.set c false, (dnR a b (c + 1)).lev⟩ c (lvA b c)).foldl bc a = dnR a b c /\ (⟨(dnR a b (c + 1)).on.set c false, (dnR a b (c + 1)).lev.set c (lvA b c)⟩ : Rl) = dnR a b c) /\
  (onA b c = true -> jJ l d a b (ws ++ dh (dnR a b (c + 1)) c (lvA b c)) /\ (ws ++ dh (dnR a b (c + 1)) c (lvA b c)).foldl bc a = dnR a b c /\ (⟨(dnR a b (c + 1)).on, (dnR a b (c + 1)).lev.set c (lvA b c)⟩ : Rl) = dnR a b c) := by
 have e1 := ko (a := a) hb c
 have e3 := ko (a := a) hb (c + 1)
 have b1 := hb.rv.1
 have b2 := hb.rv.2.1
 have hlvs : ∀ i, i < l.length -> (if c = i /\ i < (dnR a b (c + 1)).lev.length then lvA b c else lvA (dnR a b (c + 1)) i) = lvA (dnR a b c) i := fun i hi => by
  rw [jE (by omega), jE (by omega)]
  by_cases hci : c = i
  ·subst hci; rw [if_pos ⟨rfl, by omega⟩, if_neg (by omega)]
  ·rw [if_neg (fun h => hci h.1)]
   by_cases hlt : i < c
   ·rw [if_pos (by omega), if_pos hlt]
   ·rw [if_neg (by omega), if_neg hlt]
 have g2 : kR l d a b (dnR a b c) := qu hl ha hb c e1.1 e1.2 (fun i hi => .inl rfl) fun i hi => rfl
 constructor
 ·intro ho
  have heq : (⟨(dnR a b (c + 1)).on.set c false, (dnR a b (c + 1)).lev.set c (lvA b c)⟩ : Rl) = dnR a b c := by
   refine Rl.u0 (by simp [e1.1, e3.1]) (by simp [e1.2, e3.2]) (fun i hi => ?_) fun i hi => ?_
   ·rw [e1.1] at hi
    have := uF (r := ⟨(dnR a b (c + 1)).on, (dnR a b (c + 1)).lev.set c (lvA b c)⟩) (i := c) (j := i) (v := false)
    rw [this]
    show (if c = i /\ i < (dnR a b (c + 1)).on.length then false else onA (dnR a b (c + 1)) i) = _
    rw [gy (by omega), gy (by omega)]
    by_cases hci : c = i
    ·subst hci; rw [if_pos ⟨rfl, by omega⟩, if_neg (by omega), ho]
    ·rw [if_neg (fun h => hci h.1)]
     by_cases hlt : i < c
     ·rw [if_pos (by omega), if_pos hlt]
     ·rw [if_neg (by omega), if_neg hlt]
   ·rw [e1.2] at hi
    have := nU (r := ⟨(dnR a b (c + 1)).on.set c false, (dnR a b (c + 1)).lev⟩) (i := c) (j := i) (v := lvA b c)
    rw [this]
    exact hlvs i hi
  have g1 : kR l d a b ⟨(dnR a b (c + 1)).on.set c false, (dnR a b (c + 1)).lev⟩ := by
   refine qu hl ha hb (c + 1) (by simp [e3.1]) e3.2 (fun i hi => ?_) fun i hi => rfl
   rw [uF]
   by_cases hci : c = i
   ·subst hci; exact .inr ⟨rfl, ho, by rw [if_pos ⟨rfl, by omega⟩]⟩
   ·left; rw [if_neg (fun h => hci h.1)]
  obtain ⟨w1, w2⟩ := mX (v := false) h hr hc g1
  obtain ⟨w3, w4⟩ := kY w1 w2 hc (hb.rv.at_ hc) (by rw [<- heq] at g2; exact g2)
  exact ⟨w3, w4.trans heq, heq⟩
 ·intro ho
  have heq : (⟨(dnR a b (c + 1)).on, (dnR a b (c + 1)).lev.set c (lvA b c)⟩ : Rl) = dnR a b c := by
   refine Rl.u0 (by rw [e1.1]; exact e3.1) (by simp [e1.2, e3.2]) (fun i hi => ?_) fun i hi => ?_
   ·rw [e1.1] at hi
    show onA (dnR a b (c + 1)) i = _
    rw [gy (by omega), gy (by omega)]
    by_cases hci : i = c
    ·subst hci
     rw [if_pos (by omega), if_neg (by omega), DM hb hc, ho, Bool.or_true]
    ·by_cases hlt : i < c
     ·rw [if_pos (by omega), if_pos hlt]
     ·rw [if_neg (by omega), if_neg hlt]
   ·rw [e1.2] at hi
    rw [nU]
    exact hlvs i hi
  obtain ⟨w3, w4⟩ := kY h hr hc (hb.rv.at_ hc) (by rw [<- heq] at g2; exact g2)
  exact ⟨w3, w4.trans heq, heq⟩
theorem wM (hl : aT l) (ha : bm l a d) (hb : bm l b d) : jJ l d a b [] := by
 refine Way.nil ?_
 have := qK hl ha hb 0 (r := a) ha.rv.1 ha.rv.2.1 (fun i hi => by rw [gM ha hb]) fun i hi => .inl (by rw [gM ha hb])
 exact this
end
end Go.Proofs.YtaocnijlcgohnaaGreatDoor
