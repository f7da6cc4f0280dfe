/- For TopSupplies: part 8 of 9. -/
import Derived.Test.YtaocnijlcgohnaaGreatDoorM7
import Derived.Test.YtaocnijlcgohnaaGreatDoorM6
set_option linter.unusedSimpArgs false
set_option linter.unusedVariables false
set_option linter.unnecessarySimpa false
set_option maxHeartbeats 8000000
namespace Go.Proofs.YtaocnijlcgohnaaGreatDoor
open Go.Abs
set_option maxRecDepth 1000000
def bS (s : Array UInt8) : PV := .v (.string ⟨s⟩)
def mdA (f : FuncId) : Nat := match [145, 33, 99, 35, 102, 103, 104, 195, 231, 196].any (Nat.beq f) with
 | true => 0
 | false => 2
def trC : PV := .agg [.list false [.agg [pI (-1), bS #[], .list true []], .agg [pI 0, bS #[111, 115, 99], .list false [.agg [bS #[99, 108, 111, 99, 107, 45, 102, 114, 101, 113, 117, 101, 110, 99, 121], bS #[0, 0, 0, 24]], .agg [bS #[99, 111, 109, 112, 97, 116, 105, 98, 108, 101], bS #[102, 105, 120, 101, 100, 45, 99, 108, 111, 99, 107, 0]]]]]]
def trS : PV := .agg [.list false [.agg [pI (-1), bS #[], .list true []], .agg [pI 0, bS #[118, 100, 100], .list false [.agg [bS #[99, 111, 109, 112, 97, 116, 105, 98, 108, 101], bS #[115, 117, 112, 112, 108, 121, 0]], .agg [bS #[108, 101, 118, 101, 108, 115], bS #[0, 0, 4, 0]]]]]]
def ckA : List Ck := [⟨1, true, [], false, [24], 0, 0⟩]
def suA : List Sup := [⟨-1, false, [1024], 0, 10000, false⟩]
def drA : List Dr := [⟨0, 1000, 1100, 5⟩]
theorem ve : (bk Tryz.prog ti xf 10000 mdA [] 30).1 38 [.p trC] = some (.tup [.p (.list false (ckA.map Ck.pv)), .p (.list false [pI (-1), pI 0]), .p (pI 0)]) := by kernel_rfl
theorem sF : (bk Tryz.prog ti xf 10000 mdA [] 30).1 9 [.p trS] = some (.tup [.p (.list false (suA.map Sup.pv)), .p (.list false [pI (-1), pI 0]), .p (pI 0)]) := by kernel_rfl
theorem wW : (bk Tryz.prog ti xf 10000 mdA [] 30).1 39 [.p (.list false (ckA.map Ck.pv)), .p (.list false (([⟨0, 24, 24⟩] : List Lm).map Lm.pv))] = some (.tup [.p (.list false [pI 0]), .p (pI 0)]) := by kernel_rfl
theorem mB : ao Tryz.prog 38 [.p trC] [] fun r H => r = .tup [.p (.list false (ckA.map Ck.pv)), .p (.list false [pI (-1), pI 0]), .p (pI 0)] /\ H = [] := cd au mixed fD cg 30 ve
theorem k7 : ao Tryz.prog 9 [.p trS] [] fun r H => r = .tup [.p (.list false (suA.map Sup.pv)), .p (.list false [pI (-1), pI 0]), .p (pI 0)] /\ H = [] := cd au mixed fD cg 30 sF
theorem ni : ao Tryz.prog 39 [.p (.list false (ckA.map Ck.pv)), .p (.list false (([⟨0, 24, 24⟩] : List Lm).map Lm.pv))] [] fun r H => r = .tup [.p (.list false [pI 0]), .p (pI 0)] /\ H = [] := cd au mixed fD cg 30 wW
end Go.Proofs.YtaocnijlcgohnaaGreatDoor
