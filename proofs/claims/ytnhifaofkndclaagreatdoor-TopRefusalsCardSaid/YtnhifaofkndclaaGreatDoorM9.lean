/- For TopRefusals: part 9 of 15. -/
import Derived.Test.YtnhifaofkndclaaGreatDoorM8
import Derived.Shelf.Slices.In.SortAlone
import Derived.Shelf.Slices.In.CompactS
import Derived.Shelf.SlSortCmp.NoneTotal
import Derived.Sort.OwnSorted
import Derived.Lib.OwnBridge
import Derived.Sort.EveryDepth
import Derived.Shelf.Slices.In.SortNone
set_option linter.unusedSimpArgs false
set_option linter.unusedVariables false
set_option linter.unnecessarySimpa false
set_option maxHeartbeats 8000000
namespace Go.Proofs.YtnhifaofkndclaaGreatDoor
open Go.Shelf
def laysSort_ren : Go.Shelf.Ren := ⟨fun | 190 => 64 | 125 => 109 | 258 => 108 | 128 => 156 | 129 => 157 | 302 => 147 | 303 => 148 | 304 => 149 | 305 => 150 | 306 => 151 | 307 => 152 | 308 => 153 | 309 => 154 | 310 => 155 | 333 => 194 | 329 => 195 | 330 => 196 | 334 => 197 | 335 => 198 | 336 => 97 | 344 => 227 | n => n, fun | 31 => 71 | 9 => 9 | 3 => 3 | 46 => 95 | 0 => 0 | 51 => 198 | 53 => 200 | 4 => 4 | 183 => 192 | 182 => 191 | 131 => 44 | 5 => 5 | 218 => 232 | 222 => 236 | 228 => 255 | 229 => 256 | n => n, fun | n => n⟩
theorem laysSort : Go.Proofs.Lays.n190 Tryz.prog laysSort_ren := {
 mixed := by kernel_rfl
 f125 := Tryz.func109.trans (congrArg some (by kernel_rfl))
 f128 := Tryz.func156.trans (congrArg some (by kernel_rfl))
 f129 := Tryz.func157.trans (congrArg some (by kernel_rfl))
 f190 := Tryz.func64.trans (congrArg some (by kernel_rfl))
 f258 := Tryz.func108.trans (congrArg some (by kernel_rfl))
 f302 := Tryz.func147.trans (congrArg some (by kernel_rfl))
 f303 := Tryz.func148.trans (congrArg some (by kernel_rfl))
 f304 := Tryz.func149.trans (congrArg some (by kernel_rfl))
 f305 := Tryz.func150.trans (congrArg some (by kernel_rfl))
 f306 := Tryz.func151.trans (congrArg some (by kernel_rfl))
 f307 := Tryz.func152.trans (congrArg some (by kernel_rfl))
 f308 := Tryz.func153.trans (congrArg some (by kernel_rfl))
 f309 := Tryz.func154.trans (congrArg some (by kernel_rfl))
 f310 := Tryz.func155.trans (congrArg some (by kernel_rfl))
 f329 := Tryz.func195.trans (congrArg some (by kernel_rfl))
 f330 := Tryz.func196.trans (congrArg some (by kernel_rfl))
 f333 := Tryz.func194.trans (congrArg some (by kernel_rfl))
 f334 := Tryz.func197.trans (congrArg some (by kernel_rfl))
 f335 := Tryz.func198.trans (congrArg some (by kernel_rfl))
 f336 := Tryz.func97.trans (congrArg some (by kernel_rfl))
 f344 := Tryz.func227.trans (congrArg some (by kernel_rfl))
 t0 := Tryz.underlying0
 a0 := Tryz.isAgg0
 z0 := Tryz.sizeOf0
 v0 := Tryz.zeroValue0
 t3 := Tryz.underlying3
 a3 := Tryz.isAgg3
 z3 := Tryz.sizeOf3
 v3 := Tryz.zeroValue3
 t4 := Tryz.underlying4
 a4 := Tryz.isAgg4
 z4 := Tryz.sizeOf4
 v4 := Tryz.zeroValue4
 t5 := Tryz.underlying5
 a5 := Tryz.isAgg5
 z5 := Tryz.sizeOf5
 v5 := Tryz.zeroValue5
 t9 := Tryz.underlying9
 a9 := Tryz.isAgg9
 z9 := Tryz.sizeOf9
 v9 := Tryz.zeroValue9
 t31 := Tryz.underlying71
 a31 := Tryz.isAgg71
 z31 := Tryz.sizeOf71
 v31 := Tryz.zeroValue71
 t46 := Tryz.underlying95
 a46 := Tryz.isAgg95
 z46 := Tryz.sizeOf95
 v46 := Tryz.zeroValue95
 t51 := Tryz.underlying198
 a51 := Tryz.isAgg198
 z51 := Tryz.sizeOf198
 v51 := Tryz.zeroValue198
 t53 := Tryz.underlying200
 a53 := Tryz.isAgg200
 z53 := Tryz.sizeOf200
 v53 := Tryz.zeroValue200
 t131 := Tryz.underlying44
 a131 := Tryz.isAgg44
 z131 := Tryz.sizeOf44
 v131 := Tryz.zeroValue44
 t182 := Tryz.underlying191
 a182 := Tryz.isAgg191
 z182 := Tryz.sizeOf191
 v182 := Tryz.zeroValue191
 t183 := Tryz.underlying192
 a183 := Tryz.isAgg192
 z183 := Tryz.sizeOf192
 v183 := Tryz.zeroValue192
 t218 := Tryz.underlying232
 a218 := Tryz.isAgg232
 z218 := Tryz.sizeOf232
 v218 := Tryz.zeroValue232
 t222 := Tryz.underlying236
 a222 := Tryz.isAgg236
 z222 := Tryz.sizeOf236
 v222 := Tryz.zeroValue236
 t228 := Tryz.underlying255
 a228 := Tryz.isAgg255
 z228 := Tryz.sizeOf255
 v228 := Tryz.zeroValue255
 t229 := Tryz.underlying256
 a229 := Tryz.isAgg256
 z229 := Tryz.sizeOf256
 v229 := Tryz.zeroValue256 }
def laysCompact_ren : Go.Shelf.Ren := ⟨fun | 194 => 65 | n => n, fun | 31 => 71 | 9 => 9 | 3 => 3 | 4 => 4 | 0 => 0 | n => n, fun | n => n⟩
theorem laysCompact : Go.Proofs.Lays.n194 Tryz.prog laysCompact_ren := {
 mixed := by kernel_rfl
 f194 := Tryz.func65.trans (congrArg some (by kernel_rfl))
 t0 := Tryz.underlying0
 a0 := Tryz.isAgg0
 z0 := Tryz.sizeOf0
 v0 := Tryz.zeroValue0
 t3 := Tryz.underlying3
 a3 := Tryz.isAgg3
 z3 := Tryz.sizeOf3
 v3 := Tryz.zeroValue3
 t4 := Tryz.underlying4
 a4 := Tryz.isAgg4
 z4 := Tryz.sizeOf4
 v4 := Tryz.zeroValue4
 t9 := Tryz.underlying9
 a9 := Tryz.isAgg9
 z9 := Tryz.sizeOf9
 v9 := Tryz.zeroValue9
 t31 := Tryz.underlying71
 a31 := Tryz.isAgg71
 z31 := Tryz.sizeOf71
 v31 := Tryz.zeroValue71 }
def laysSortF_ren : Go.Shelf.Ren := ⟨fun | 6 => 116 | 15 => 109 | 14 => 158 | 28 => 156 | 29 => 157 | 20 => 199 | 21 => 200 | 22 => 201 | 23 => 202 | 24 => 203 | 25 => 204 | 26 => 205 | 27 => 206 | 46 => 228 | 47 => 195 | 48 => 196 | 49 => 229 | 50 => 230 | 57 => 244 | n => n, fun | 22 => 22 | 24 => 3 | 25 => 140 | 3 => 3 | 39 => 95 | 0 => 0 | 53 => 198 | 55 => 200 | 4 => 4 | 46 => 192 | 45 => 191 | 50 => 44 | 5 => 5 | 9 => 9 | 66 => 232 | 70 => 236 | 76 => 255 | 77 => 256 | n => n, fun | n => n⟩
theorem laysSortF : Go.Proofs.SlLaysF.n6 Tryz.prog laysSortF_ren := {
 mixed := by kernel_rfl
 f6 := ⟨Tryz.f116.name, by decide, Tryz.func116.trans (congrArg some (by kernel_rfl))⟩
 f14 := ⟨Tryz.f158.name, by decide, Tryz.func158.trans (congrArg some (by kernel_rfl))⟩
 f15 := Tryz.func109.trans (congrArg some (by kernel_rfl))
 f20 := ⟨Tryz.f199.name, by decide, Tryz.func199.trans (congrArg some (by kernel_rfl))⟩
 f21 := ⟨Tryz.f200.name, by decide, Tryz.func200.trans (congrArg some (by kernel_rfl))⟩
 f22 := ⟨Tryz.f201.name, by decide, Tryz.func201.trans (congrArg some (by kernel_rfl))⟩
 f23 := ⟨Tryz.f202.name, by decide, Tryz.func202.trans (congrArg some (by kernel_rfl))⟩
 f24 := ⟨Tryz.f203.name, by decide, Tryz.func203.trans (congrArg some (by kernel_rfl))⟩
 f25 := ⟨Tryz.f204.name, by decide, Tryz.func204.trans (congrArg some (by kernel_rfl))⟩
 f26 := ⟨Tryz.f205.name, by decide, Tryz.func205.trans (congrArg some (by kernel_rfl))⟩
 f27 := ⟨Tryz.f206.name, by decide, Tryz.func206.trans (congrArg some (by kernel_rfl))⟩
 f28 := Tryz.func156.trans (congrArg some (by kernel_rfl))
 f29 := Tryz.func157.trans (congrArg some (by kernel_rfl))
 f46 := ⟨Tryz.f228.name, by decide, Tryz.func228.trans (congrArg some (by kernel_rfl))⟩
 f47 := Tryz.func195.trans (congrArg some (by kernel_rfl))
 f48 := Tryz.func196.trans (congrArg some (by kernel_rfl))
 f49 := ⟨Tryz.f229.name, by decide, Tryz.func229.trans (congrArg some (by kernel_rfl))⟩
 f50 := ⟨Tryz.f230.name, by decide, Tryz.func230.trans (congrArg some (by kernel_rfl))⟩
 f57 := ⟨Tryz.f244.name, by decide, Tryz.func244.trans (congrArg some (by kernel_rfl))⟩
 t0 := Tryz.underlying0
 a0 := Tryz.isAgg0
 z0 := Tryz.sizeOf0
 v0 := Tryz.zeroValue0
 t3 := Tryz.underlying3
 a3 := Tryz.isAgg3
 z3 := Tryz.sizeOf3
 v3 := Tryz.zeroValue3
 t4 := Tryz.underlying4
 a4 := Tryz.isAgg4
 z4 := Tryz.sizeOf4
 v4 := Tryz.zeroValue4
 t5 := Tryz.underlying5
 a5 := Tryz.isAgg5
 z5 := Tryz.sizeOf5
 v5 := Tryz.zeroValue5
 t9 := Tryz.underlying9
 a9 := Tryz.isAgg9
 z9 := Tryz.sizeOf9
 v9 := Tryz.zeroValue9
 t22 := Tryz.underlying22
 a22 := Tryz.isAgg22
 z22 := Tryz.sizeOf22
 v22 := Tryz.zeroValue22
 a24 := Tryz.isAgg3
 z24 := Tryz.sizeOf3
 t25 := Tryz.underlying140
 a25 := Tryz.isAgg140
 z25 := Tryz.sizeOf140
 v25 := Tryz.zeroValue140
 t39 := Tryz.underlying95
 a39 := Tryz.isAgg95
 z39 := Tryz.sizeOf95
 v39 := Tryz.zeroValue95
 t45 := Tryz.underlying191
 a45 := Tryz.isAgg191
 z45 := Tryz.sizeOf191
 v45 := Tryz.zeroValue191
 t46 := Tryz.underlying192
 a46 := Tryz.isAgg192
 z46 := Tryz.sizeOf192
 v46 := Tryz.zeroValue192
 t50 := Tryz.underlying44
 a50 := Tryz.isAgg44
 z50 := Tryz.sizeOf44
 v50 := Tryz.zeroValue44
 t53 := Tryz.underlying198
 a53 := Tryz.isAgg198
 z53 := Tryz.sizeOf198
 v53 := Tryz.zeroValue198
 t55 := Tryz.underlying200
 a55 := Tryz.isAgg200
 z55 := Tryz.sizeOf200
 v55 := Tryz.zeroValue200
 t66 := Tryz.underlying232
 a66 := Tryz.isAgg232
 z66 := Tryz.sizeOf232
 v66 := Tryz.zeroValue232
 t70 := Tryz.underlying236
 a70 := Tryz.isAgg236
 z70 := Tryz.sizeOf236
 v70 := Tryz.zeroValue236
 t76 := Tryz.underlying255
 a76 := Tryz.isAgg255
 z76 := Tryz.sizeOf255
 v76 := Tryz.zeroValue255
 t77 := Tryz.underlying256
 a77 := Tryz.isAgg256
 z77 := Tryz.sizeOf256
 v77 := Tryz.zeroValue256 }
open Go.Abs Go.RowKit
set_option maxRecDepth 100000
def leB (x y : List UInt8) : Bool := decide (x <= y)
def sortB (xs : List ByteArray) : List (List UInt8) := (xs.map (·.data.toList)).mergeSort leB
def sortS (xs : List ByteArray) : List ByteArray := (sortB xs).map baL
theorem sortB_len (xs : List ByteArray) : (sortB xs).length = xs.length := by unfold sortB; simp
theorem map_enc (xs : List ByteArray) : (xs.map (·.data.toList)).map encStr = xs.map Value.string := Lib.map_encStr xs
theorem map_baL (l : List (List UInt8)) : l.map encStr = (l.map baL).map Value.string := by rw [List.map_map]; rfl
theorem info_str : ∃ i, Tryz.prog.info? 9 = some i /\ i.size = 1 := ⟨_, rfl, rfl⟩
theorem grown_putRow {w : World} {g q : Nat} (d : Array (List UInt8)) : w.grownBy (Sort.putRow encStr (Sort.ahead w q) g 0 d) (some g) := by
 have := grownBy_sorted (w := w) (g := g) (n := q) (os := #[]) d
 rw [Sort.grow_empty] at this
 exact this
theorem SortS_call (nl : Bool) (xs : List ByteArray) (hl : xs.length <= 100000) : ACall Tryz.prog 64 [.buf 0] [some (AO.buf 9 nl (xs.map pS))] fun r H => r = .tup [] /\ H = [some (AO.buf 9 nl ((sortS xs).map pS))] := by
 refine ⟨⟨_, Tryz.func64, rfl, rfl⟩, fun m S w vals hp hs hr => ?_⟩
 have hl0 : live [some (AO.buf 9 nl (xs.map pS))] 0 (.buf 9 nl (xs.map pS)) := rfl
 have h0 := rd_buf (hr 0 _ rfl) hl0
 rw [one_val hs, h0]
 obtain ⟨i, hi, h1⟩ := info_str
 have hok := hp.obj 0 _ hl0
 obtain ⟨ho, hn⟩ := okb_vals (f := Value.string) hi h1 hok
 rcases ho.2 with ⟨hv, hx0⟩ | ⟨g, cap, cur, hv, hb0, hg, hnc, hcm, hcs, htk⟩
 ·have hx : xs = [] := List.eq_nil_of_length_eq_zero hx0
  subst hx
  rw [hv]
  refine (Any.slices_Sort_string_none laysSort none 0 w).mono ?_
  rintro e w' ⟨rfl, rfl⟩
  exact ⟨_, .tup [], _, m, S, rfl, ⟨rfl, by rw [show sortS [] = [] by simp [sortS, sortB]]⟩, Stp.refl hp, .tup [] #[] rfl (by simp)⟩
 ·rw [hv]
  have hH : Sort.Holds encStr w g 0 (xs.map (·.data.toList)).toArray := holds_of_block hg (by rw [map_enc, List.length_map]; simpa using htk)
  have hlt : g < w.heap.size := (Array.getElem?_eq_some_iff.1 hg).1
  have hC := calls_of_every_depth fun D => AnyS.slices_Sort_string_alone laysSort D g 0 cap (xs.map (·.data.toList)) w hH hlt (by simp; omega)
  rw [List.length_map] at hC
  refine hC.mono ?_
  rintro e w' ⟨rfl, n, os, rfl⟩
  have hlen : (sortB xs).length = (xs.map (·.data.toList)).length := by rw [sortB_len]; simp
  have ho' := ownsRow_sorted (n := n) (os := os) (base := 0) (e := 9) (ss := xs.map (·.data.toList)) (ts := sortB xs) hlen (Nat.zero_le _) hg (by simpa using hnc) hcm hcs
  rw [List.length_map] at ho'
  refine ⟨_, .tup [], _, m, S, rfl, ⟨rfl, rfl⟩, stp_reown (nl' := nl) (zs := (sortS xs).map pS) hp hl0 (by simp [sortS, sortB_len]) (fun _ => ?_) (by rw [hv]; exact grownBy_sorted _), .tup [] #[] rfl (by simp)⟩
  refine okb_of (f := Value.string) hi h1 ?_ (fun _ => rfl) hn
  have e1 : (sortB xs).map encStr = (sortS xs).map Value.string := map_baL _
  rw [<- e1, show (sortS xs).length = xs.length by simp [sortS, sortB_len], hv]
  exact ho'
def cmpS (xs : List ByteArray) : List ByteArray := (Lib.compact (xs.map (·.data.toList))).map baL
theorem CompactS_call (nl : Bool) (xs : List ByteArray) (hl : xs.length <= 100000) (h0 : 0 < xs.length) : ACall Tryz.prog 65 [.buf 0] [some (AO.buf 9 nl (xs.map pS))] fun r H => r = .buf 1 /\ H = [none, some (AO.buf 9 false ((cmpS xs).map pS))] := by
 refine ⟨⟨_, Tryz.func65, rfl, rfl⟩, fun m S w vals hp hs hr => ?_⟩
 have hl0 : live [some (AO.buf 9 nl (xs.map pS))] 0 (.buf 9 nl (xs.map pS)) := rfl
 have h0' := rd_buf (hr 0 _ rfl) hl0
 rw [one_val hs, h0']
 obtain ⟨i, hi, h1⟩ := info_str
 obtain ⟨ho, hn⟩ := okb_vals (f := Value.string) hi h1 (hp.obj 0 _ hl0)
 rcases ho.2 with ⟨hv, hx0⟩ | ⟨g, cap, cur, hv, hb0, hg, hnc, hcm, hcs, htk⟩
 ·omega
 ·have ho2 := ho
  rw [hv] at ho2 ⊢
  have hH : Sort.Holds encStr w g 0 (xs.map (·.data.toList)).toArray := holds_of_block hg (by rw [map_enc, List.length_map]; simpa using htk)
  have k1 : (xs.map (·.data.toList)).length <= 9223372036854775807 := by rw [List.length_map]; omega
  have k2 : (xs.map (·.data.toList)).length <= cap := by rw [List.length_map]; exact hnc
  have hc0 := fun D => AnyS.slices_Compact_string_in laysCompact D g 0 cap (xs.map (·.data.toList)) w hH k1 k2
  have hC := calls_of_every_depth hc0
  clear hc0
  rw [List.length_map] at hC
  refine hC.mono ?_
  clear hC
  rintro e w' ⟨rfl, q, rfl⟩
  have hcl := Lib.compact_length_le (xs.map (·.data.toList))
  rw [List.length_map] at hcl
  generalize hZ : Lib.compact (xs.map (·.data.toList)) = zs at hcl
  have ho' := Lib.ownsRow_putRow (q := q) (enc := encStr) (zs := xs.map (·.data.toList)) (ys := zs ++ List.replicate (xs.length - zs.length) []) (k := zs.length) (by rw [map_enc]; exact ho2) (by simp; omega) hcl
  rw [List.take_left' rfl] at ho'
  generalize (zs ++ List.replicate (xs.length - zs.length) []).toArray = D at ho'
  have hg' := grown_putRow (w := w) (g := g) (q := q) D
  obtain ⟨hS, hR⟩ := stp_renew (v' := .slice (some ⟨g, 0, none⟩) zs.length cap) (nl' := false) (zs := (cmpS xs).map pS) hp (.inr ⟨0, rfl, hl0, rfl⟩) (fun _ => okb_of (f := Value.string) hi h1 (by
   have e1 : zs.map encStr = (cmpS xs).map Value.string := by unfold cmpS; rw [hZ]; exact map_baL _
   rw [<- e1, show (cmpS xs).length = zs.length by simp [cmpS, hZ]]
   exact ho') (fun _ => rfl) (by simp)) (by rw [hv]; exact hg') (fun b hb => .inl (by rw [hv]; exact hb))
  exact ⟨_, .buf 1, _, _, S, rfl, ⟨rfl, rfl⟩, hS, hR⟩
theorem CompactS_nil (nl : Bool) : ACall Tryz.prog 65 [.buf 0] [some (AO.buf 9 nl (([] : List ByteArray).map pS))] fun r H => r = .buf 0 /\ H = [some (AO.buf 9 nl (([] : List ByteArray).map pS))] := by
 refine acall_enter Tryz.func65 rfl rfl tabOK rfl ?_
 refine' y99f8
 (refine' RetK.auto (.buf 0) ([some (AO.buf 9 nl (([] : List ByteArray).map pS))]) rfl rfl rfl rfl _ _ _ <;> refine' fin_)
theorem sortS_mem {xs : List ByteArray} {s : ByteArray} : s ∈ sortS xs ↔ s ∈ xs := by
 unfold sortS sortB
 constructor
 ·intro h
  obtain ⟨l, hl, rfl⟩ := List.mem_map.1 h
  obtain ⟨t, ht, rfl⟩ := List.mem_map.1 ((List.mergeSort_perm _ _).mem_iff.1 hl)
  rw [baL_self]; exact ht
 ·intro h
  exact List.mem_map.2 ⟨s.data.toList, (List.mergeSort_perm _ _).mem_iff.2 (List.mem_map_of_mem h), baL_self s⟩
theorem sortB_pair (xs : List ByteArray) : (sortB xs).Pairwise (· <= ·) := by
 refine (List.pairwise_mergeSort (le := leB) (fun a b c h k => ?_) (fun a b => ?_) _).imp fun h => of_decide_eq_true h
 ·exact decide_eq_true (List.le_trans (of_decide_eq_true h) (of_decide_eq_true k))
 ·rcases List.le_total a b with h | h
  ·rw [show leB a b = true from decide_eq_true h]; rfl
  ·rw [show leB b a = true from decide_eq_true h, Bool.or_true]
theorem lt_of_ne {a b : List UInt8} (h : a <= b) (hne : a ≠ b) : a < b := by
 rcases List.le_total b a with k | k
 ·exact absurd (List.le_antisymm h k) hne
 ·refine Classical.byContradiction fun hlt => hne (List.le_antisymm h (List.not_lt.1 hlt))
theorem compact_sorted {zs : List (List UInt8)} (hp : zs.Pairwise (· <= ·)) : ∀ m, m <= zs.length -> (Lib.compactUpTo zs.toArray m).Pairwise (· < ·) /\ ∀ x, x ∈ Lib.compactUpTo zs.toArray m ↔ ∃ j, j < m /\ zs.toArray[j]! = x
 | 0, _ => ⟨by simp [Lib.compactUpTo], fun x => by simp [Lib.compactUpTo]⟩
 | m + 1, hm => by
  obtain ⟨h1, h2⟩ := compact_sorted hp m (by omega)
  have hle : ∀ j, j < m -> zs.toArray[j]! <= zs.toArray[m]! := fun j hj => by
   rw [getElem!_pos zs.toArray j (by simp; omega), getElem!_pos zs.toArray m (by simp; omega)]
   exact List.pairwise_iff_getElem.1 hp j m (by omega) (by omega) hj
  rw [Lib.compactUpTo_succ]
  cases hk : Lib.keeps zs.toArray m with
  | true =>
   rw [if_pos rfl]
   have hlt : ∀ x ∈ Lib.compactUpTo zs.toArray m, x < zs.toArray[m]! := fun x hx => by
    obtain ⟨j, hj, rfl⟩ := (h2 x).1 hx
    have hk2 := of_decide_eq_true hk
    have hne : zs.toArray[m]! ≠ zs.toArray[m - 1]! := hk2.resolve_left (by omega)
    have h3 : zs.toArray[j]! <= zs.toArray[m - 1]! := by
     rcases Nat.lt_or_ge j (m - 1) with h4 | h4
     ·rw [getElem!_pos zs.toArray j (by simp; omega), getElem!_pos zs.toArray (m - 1) (by simp; omega)]
      exact List.pairwise_iff_getElem.1 hp j (m - 1) (by omega) (by omega) h4
     ·rw [show j = m - 1 by omega]; exact List.le_refl _
    exact List.lt_of_le_of_lt h3 (lt_of_ne (hle (m - 1) (by omega)) hne.symm)
   refine ⟨List.pairwise_append.2 ⟨h1, List.pairwise_singleton .., fun x hx y hy => by rw [List.mem_singleton.1 hy]; exact hlt x hx⟩, fun x => ?_⟩
   rw [List.mem_append, h2, List.mem_singleton]
   constructor
   ·rintro (⟨j, hj, e⟩ | rfl)
    ·exact ⟨j, by omega, e⟩
    ·exact ⟨m, by omega, rfl⟩
   ·rintro ⟨j, hj, e⟩
    rcases Nat.lt_or_ge j m with h4 | h4
    ·exact .inl ⟨j, h4, e⟩
    ·obtain rfl : j = m := by omega
     exact .inr e.symm
  | false =>
   rw [if_neg Bool.false_ne_true, List.append_nil]
   have hk2 := of_decide_eq_false hk
   have hm0 : 0 < m := Nat.pos_of_ne_zero fun h => hk2 (.inl h)
   have heq : zs.toArray[m]! = zs.toArray[m - 1]! := Classical.byContradiction fun h => hk2 (.inr h)
   refine ⟨h1, fun x => ?_⟩
   rw [h2]
   constructor
   ·rintro ⟨j, hj, e⟩; exact ⟨j, by omega, e⟩
   ·rintro ⟨j, hj, e⟩
    rcases Nat.lt_or_ge j m with h4 | h4
    ·exact ⟨j, h4, e⟩
    ·obtain rfl : j = m := by omega
     exact ⟨j - 1, by omega, heq.symm.trans e⟩
def addR (os : List Ov) : List ByteArray := cmpS (sortS (addPs os))
theorem sortS_back (xs : List ByteArray) : (sortS xs).map (·.data.toList) = sortB xs := by
 unfold sortS
 rw [List.map_map, show ((fun x : ByteArray => x.data.toList) ∘ baL) = id from rfl, List.map_id]
theorem addR_is (os : List Ov) : IsAdd os (addR os) := by
 have hp := sortB_pair (addPs os)
 obtain ⟨h1, h2⟩ := compact_sorted hp _ (Nat.le_refl _)
 have e : addR os = (Lib.compactUpTo (sortB (addPs os)).toArray (sortB (addPs os)).length).map baL := by
  unfold addR cmpS
  rw [sortS_back]; rfl
 rw [e]
 refine ⟨fun i j hi hj => ?_, fun s => ?_⟩
 ·rw [List.length_map] at hj
  rw [List.getElem_map, List.getElem_map, bless_iff, ByteArray.toList_eq, ByteArray.toList_eq]
  exact List.pairwise_iff_getElem.1 h1 i j (by omega) hj hi
 ·rw [<- sortS_mem (xs := addPs os)]
  unfold sortS
  rw [List.mem_map, List.mem_map]
  constructor
  ·rintro ⟨l, hl, rfl⟩
   obtain ⟨j, hj, rfl⟩ := (h2 l).1 hl
   refine ⟨_, ?_, rfl⟩
   rw [getElem!_pos _ j (by simpa using hj)]
   simp
  ·rintro ⟨l, hl, rfl⟩
   obtain ⟨j, hj, rfl⟩ := List.getElem_of_mem hl
   exact ⟨_, (h2 _).2 ⟨j, hj, by rw [getElem!_pos _ j (by simpa using hj)]; simp⟩, rfl⟩
end Go.Proofs.YtnhifaofkndclaaGreatDoor
