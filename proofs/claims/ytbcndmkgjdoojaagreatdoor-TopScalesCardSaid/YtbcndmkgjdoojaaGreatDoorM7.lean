/- Whatever the list of numbers, TopScales returns true, and its argument reads as it did; its package variables are tied to the program's text. Part 7 of 8. -/
import Derived.Test.YtbcndmkgjdoojaaGreatDoorM6
set_option linter.unusedSimpArgs false
set_option linter.unusedVariables false
set_option linter.unnecessarySimpa false
namespace Go.Proofs.YtbcndmkgjdoojaaGreatDoor
open Go.Abs
set_option maxRecDepth 1000000
def bS (s : Array UInt8) : PV := .v (.string ⟨s⟩)
def mdA (f : FuncId) : Nat := match [120, 65, 67, 69, 27, 28, 29, 111, 152, 112].any (Nat.beq f) with
  | true => 0
  | false => 2
def trC : PV := .agg [.list false [.agg [pI (-1), bS #[], .list true []], .agg [pI 0, bS #[111, 115, 99], .list false [.agg [bS #[99, 108, 111, 99, 107, 45, 102, 114, 101, 113, 117, 101, 110, 99, 121], bS #[0, 0, 0, 24]], .agg [bS #[99, 111, 109, 112, 97, 116, 105, 98, 108, 101], bS #[102, 105, 120, 101, 100, 45, 99, 108, 111, 99, 107, 0]]]]]]
def trS : PV := .agg [.list false [.agg [pI (-1), bS #[], .list true []], .agg [pI 0, bS #[118, 100, 100], .list false [.agg [bS #[99, 111, 109, 112, 97, 116, 105, 98, 108, 101], bS #[115, 117, 112, 112, 108, 121, 0]], .agg [bS #[108, 101, 118, 101, 108, 115], bS #[0, 0, 4, 0]]]]]]
def ckA : List Ck := [⟨1, true, [], false, [24], 0, 0⟩]
def suA : List Sup := [⟨-1, false, [1024], 0, 10000, false⟩]
def drA : List Dr := [⟨0, 1000, 1100, 5⟩]
theorem clock_tree : (evPair Tryz.prog ti xf 10000 mdA [] 30).1 30 [.p trC] = some (.tup [.p (.list false (ckA.map Ck.pv)), .p (.list false [pI (-1), pI 0]), .p (pI 0)]) := by kernel_rfl
theorem supply_tree : (evPair Tryz.prog ti xf 10000 mdA [] 30).1 31 [.p trS] = some (.tup [.p (.list false (suA.map Sup.pv)), .p (.list false [pI (-1), pI 0]), .p (pI 0)]) := by kernel_rfl
theorem solve_one : (evPair Tryz.prog ti xf 10000 mdA [] 30).1 11 [.p (.list false (ckA.map Ck.pv)), .p (.list false (([⟨0, 24, 24⟩] : List Lm).map Lm.pv))] = some (.tup [.p (.list false [pI 0]), .p (pI 0)]) := by kernel_rfl
theorem clock_tree_call : ACall Tryz.prog 30 [.p trC] [] fun r H => r = .tup [.p (.list false (ckA.map Ck.pv)), .p (.list false [pI (-1), pI 0]), .p (pI 0)] ∧ H = [] := ev_acall tabOK mixed xf_ok tab_nil 30 clock_tree
theorem supply_tree_call : ACall Tryz.prog 31 [.p trS] [] fun r H => r = .tup [.p (.list false (suA.map Sup.pv)), .p (.list false [pI (-1), pI 0]), .p (pI 0)] ∧ H = [] := ev_acall tabOK mixed xf_ok tab_nil 30 supply_tree
theorem solve_one_call : ACall Tryz.prog 11 [.p (.list false (ckA.map Ck.pv)), .p (.list false (([⟨0, 24, 24⟩] : List Lm).map Lm.pv))] [] fun r H => r = .tup [.p (.list false [pI 0]), .p (pI 0)] ∧ H = [] := ev_acall tabOK mixed xf_ok tab_nil 30 solve_one
open Go.Abs
set_option maxRecDepth 1000000
def z0 : Fin suA.length := ⟨0, by decide⟩
theorem suA_ok : AllS suA := by
  refine ⟨by decide, by decide, fun i h => ?_⟩
  match i, h with
  | 0, _ =>
    show SupV (⟨-1, false, [1024], 0, 10000, false⟩ : Sup) 0
    exact ⟨by decide, by decide, by decide, by decide, by decide, by decide, fun k h => by simp at h⟩
theorem drA_ok : AllD suA.length drA := ⟨by decide, fun x hx => by
  simp only [drA, List.mem_singleton] at hx
  subst hx
  exact ⟨by decide, by decide, by decide, by decide⟩⟩
/-- The least rails of the one draw. -/
theorem least_meet {pre : List (Fin suA.length)} {f : Int} (h : DmR suA drA pre f) : f = -1 ∧ pre = [z0] := by
  rcases h.2 with ⟨h1, h2⟩ | ⟨y, s, h1, h2, h3⟩
  · exact ⟨h1, h2.trans (by decide +kernel)⟩
  · exfalso
    have hr : (List.finRange suA.length).reverse = [z0] := by decide +kernel
    rw [hr] at h2
    match pre, h2 with
    | [], h2 =>
      have hy : y = z0 := by simpa using (List.cons.inj h2).1
      subst hy
      have : dmF suA (usedF suA drA) (dmP suA drA []).1 0 = false := by decide +kernel
      rw [show z0.val = 0 from rfl] at h3
      rw [this] at h3
      cases h3
    | [_], h2 => simp at h2
    | _ :: _ :: _, h2 => simp at h2
theorem used_one : usedF suA drA = [true] := by decide +kernel
theorem meet_one : Meet suA ⟨usedF suA drA, (dmP suA drA [z0]).2⟩ drA := by
  refine (meet_rows suA_ok ?_ drA_ok).2 ⟨fun c hc => ?_, fun x hx => ?_⟩
  · refine RlV.of (by decide +kernel) (by decide +kernel) fun i h => ?_
    match i, h with
    | 0, _ =>
      show 0 ≤ lvA ⟨usedF suA drA, (dmP suA drA [z0]).2⟩ 0 ∧ lvA ⟨usedF suA drA, (dmP suA drA [z0]).2⟩ 0 < (1 : Int)
      decide +kernel
  · match c, hc with
    | 0, _ => exact ⟨fun h => absurd h (by decide +kernel), fun _ => ⟨fun h => absurd h (by decide), by decide +kernel⟩⟩
  · simp only [drA, List.mem_singleton] at hx
    subst hx
    decide +kernel
set_option maxHeartbeats 2000000 in
theorem awake_call : ACall Tryz.prog 12 [] [] fun r H => r = .p (pB true) ∧ H = [] := by
  refine acall_enter Tryz.func12 rfl rfl tabOK rfl ?_
  (conv => whnf); repeat' ((first | apply CondA.plain | refine' gC | refine' gpI | refine' gpB | refine' gDrpv | refine' gLmpv | refine' gE | ((refine IsL.mk _ rfl ?_))) <;> (conv => whnf))
  refine CallA.loc [] [1] rfl rfl (clock_tree_call.mono ?_)
  rintro _ _ ⟨rfl, rfl⟩
  (conv => whnf); repeat' ((first | apply CondA.plain | refine' gC | refine' gpI | refine' gpB | refine' gDrpv | refine' gLmpv | refine' gE | ((refine IsL.mk _ rfl ?_))) <;> (conv => whnf))
  refine CallA.loc [] [3] rfl rfl (supply_tree_call.mono ?_)
  rintro _ _ ⟨rfl, rfl⟩
  (conv => whnf); repeat' ((first | (refine IsL.lit (f := Lm.pv) [⟨0, 24, 24⟩] rfl ?_) | apply CondA.plain | refine' gC | refine' gpI | refine' gpB | refine' gDrpv | refine' gLmpv | refine' gE | fail) <;> (conv => whnf))
  refine CallA.loc [] [4] rfl rfl (solve_one_call.mono ?_)
  rintro _ _ ⟨rfl, rfl⟩
  (conv => whnf); repeat' ((first | (refine IsL.lit (f := Dr.pv) drA rfl ?_) | apply CondA.plain | refine' gC | refine' gpI | refine' gpB | refine' gDrpv | refine' gLmpv | refine' gE | fail) <;> (conv => whnf))
  refine CallA.loc [] [5] rfl rfl ((Least_call false false suA drA suA_ok drA_ok).mono ?_)
  rintro _ _ ⟨rl, m1, m3, e, pre, f, rfl, rfl, hdm, he0, hen⟩
  obtain ⟨rfl, rfl⟩ := least_meet hdm
  obtain rfl : e = 0 := by
    by_cases he : e = 0
    · exact he
    · rcases (hen he).2 with h | h
      · omega
      · exact absurd meet_one h
  obtain ⟨_, rfl, _⟩ := he0 rfl
  rw [used_one]
  (conv => whnf); repeat' ((first | apply CondA.plain | refine' gC | refine' gpI | refine' gpB | refine' gDrpv | refine' gLmpv | refine' gE | ((refine LenA.mk 1 rfl ?_; intro _))) <;> (conv => whnf))
  (refine RetK.p ?_ <;> repeat' (first | exact trivial | refine And.intro ?_ ?_ | with_reducible rfl | (refine pIEq ?_; exact ar_) | (refine bufMap ?_) | (refine bufNil ?_) | (refine bufEq ?_) | rfl); all_goals try first | refine pBEq ?_ | refine pIEq ?_)
end Go.Proofs.YtbcndmkgjdoojaaGreatDoor
