/- For TopRefusals: part 12 of 15. -/
import Derived.Test.YtnhifaofkndclaaGreatDoorM11
set_option linter.unusedSimpArgs false
set_option linter.unusedVariables false
set_option linter.unnecessarySimpa false
set_option maxHeartbeats 8000000
namespace Go.Proofs.YtnhifaofkndclaaGreatDoor
open Go.Abs
set_option maxRecDepth 1000000
def mdB (f : FuncId) : Nat := match [67, 68, 69, 114, 70, 121].any (Nat.beq f) with
 | true => 0
 | false => 2
def capeS : ByteArray := ⟨#[99, 97, 112, 101]⟩
def ovA : Ov := ⟨capeS, false, [⟨1, ⟨#[47, 120]⟩, ⟨#[]⟩, ⟨#[]⟩⟩, ⟨2, ⟨#[47, 120]⟩, ⟨#[112]⟩, ⟨#[0, 0, 0, 1]⟩⟩]⟩
def nsA : List Nd := [rootN]
def nsB : List Nd := [rootN, ⟨0, ⟨#[120]⟩, false, [(⟨#[112]⟩, ⟨#[0, 0, 0, 1]⟩)]⟩]
def trP (ns : List Nd) : AV := .tup [.p (.agg [.list false (ns.map Nd.pv)]), .p (.agg [pI 0, pI 0, pS ⟨#[]⟩, pS ⟨#[]⟩]), .p (pI 0)]
theorem tree_nil : (evPair Tryz.prog ti xf 10000 mdB [] 30).1 8 [.p (.agg [.list false (nsA.map Nd.pv)]), .p (.list true (([] : List Ov).map Ov.pv))] = some (trP nsA) := by kernel_rfl
theorem tree_emp : (evPair Tryz.prog ti xf 10000 mdB [] 30).1 8 [.p (.agg [.list false (nsA.map Nd.pv)]), .p (.list false (([] : List Ov).map Ov.pv))] = some (trP nsA) := by kernel_rfl
theorem tree_one : (evPair Tryz.prog ti xf 10000 mdB [] 30).1 8 [.p (.agg [.list false (nsA.map Nd.pv)]), .p (.list false ([ovA].map Ov.pv))] = some (trP nsB) := by kernel_rfl
theorem tree_nil_call : ACall Tryz.prog 8 [.p (.agg [.list false (nsA.map Nd.pv)]), .p (.list true (([] : List Ov).map Ov.pv))] [] fun r H => r = trP nsA /\ H = [] := ev_acall tabOK mixed xf_ok tab_nil 30 tree_nil
theorem tree_emp_call : ACall Tryz.prog 8 [.p (.agg [.list false (nsA.map Nd.pv)]), .p (.list false (([] : List Ov).map Ov.pv))] [] fun r H => r = trP nsA /\ H = [] := ev_acall tabOK mixed xf_ok tab_nil 30 tree_emp
theorem tree_one_call : ACall Tryz.prog 8 [.p (.agg [.list false (nsA.map Nd.pv)]), .p (.list false ([ovA].map Ov.pv))] [] fun r H => r = trP nsB /\ H = [] := ev_acall tabOK mixed xf_ok tab_nil 30 tree_one
end Go.Proofs.YtnhifaofkndclaaGreatDoor
