/- For TopRefusals: part 10 of 15. -/
import Derived.Test.YtnhifaofkndclaaGreatDoorM9
import Derived.Shelf.RegionOpenPlain
import Derived.Shelf.Spec.SlicesInsertGrow
import Derived.Lib.Overlaps
import Derived.Lib.AppendZerosOnto
set_option linter.unusedSimpArgs false
set_option linter.unusedVariables false
set_option linter.unnecessarySimpa false
set_option maxHeartbeats 8000000
namespace Go.Proofs.YtnhifaofkndclaaGreatDoor
open Go.Abs Go.RowKit Go.Lib
set_option maxRecDepth 100000
def insA (cur : List Value) (n i : Nat) : List Value := Abs.splice cur ((i + 1) * 2) ((cur.take (n * 2)).drop (i * 2))
theorem ins_take {cur vs : List Value} {n i c : Nat} (hi : i <= n) (hc : n + 1 <= c) (hl : cur.length = c * 2) (hv : vs.length = 2) :
  (Abs.splice (insA cur n i) (i * 2) vs).take ((n + 1) * 2) = (cur.take (n * 2)).take (i * 2) ++ vs ++ (cur.take (n * 2)).drop (i * 2) := by
 have hd : ((cur.take (n * 2)).drop (i * 2)).length = n * 2 - i * 2 := by rw [List.length_drop, List.length_take]; omega
 have h1 : (i + 1) * 2 + ((cur.take (n * 2)).drop (i * 2)).length <= cur.length := by omega
 have h2 : i * 2 + vs.length <= (insA cur n i).length := by rw [insA, Abs.splice_length h1]; omega
 have hr : ((cur.take (n * 2)).take (i * 2) ++ vs).length = i * 2 + 2 := by rw [List.length_append, List.length_take, List.length_take]; omega
 refine List.ext_getElem? fun k => ?_
 by_cases hk : k < (n + 1) * 2
 ·rw [List.getElem?_take_of_lt hk]
  by_cases ha : k < i * 2
  ·rw [Abs.splice_out h2 (.inl ha), insA, Abs.splice_out h1 (.inl (by omega)), List.append_assoc, List.getElem?_append_left (by rw [List.length_take, List.length_take]; omega), List.getElem?_take_of_lt ha, List.getElem?_take_of_lt (by omega)]
  ·by_cases hb : k < i * 2 + 2
   ·obtain ⟨j, rfl⟩ : ∃ j, k = i * 2 + j := ⟨k - i * 2, by omega⟩
    have e1 : ((cur.take (n * 2)).take (i * 2)).length = i * 2 := by rw [List.length_take, List.length_take]; omega
    rw [Abs.splice_in h2 (by omega), List.append_assoc, List.getElem?_append_right (by omega), e1, List.getElem?_append_left (by omega)]
    congr 1; omega
   ·obtain ⟨j, rfl⟩ : ∃ j, k = (i + 1) * 2 + j := ⟨k - (i + 1) * 2, by omega⟩
    rw [Abs.splice_out h2 (.inr (by omega)), insA, Abs.splice_in h1 (by rw [hd]; omega), List.getElem?_append_right (by rw [hr]; omega), hr]
    congr 1; omega
 ·have e1 : (Abs.splice (insA cur n i) (i * 2) vs).length = cur.length := by rw [Abs.splice_length h2, insA, Abs.splice_length h1]
  rw [List.getElem?_eq_none (by rw [List.length_take]; omega), List.getElem?_eq_none (by rw [List.length_append, hr, hd]; omega)]
def insZ (cs vs : List Value) (z : List Value) (i : Nat) : List Value := Abs.splice (Abs.splice (cs.take (i * 2) ++ z) (i * 2) vs) ((i + 1) * 2) (cs.drop (i * 2))
theorem insZ_take {cs vs z : List Value} {n i : Nat} (hi : i <= n) (hl : cs.length = n * 2) (hv : vs.length = 2) (hz : (n + 1) * 2 - i * 2 <= z.length) :
  (insZ cs vs z i).take ((n + 1) * 2) = cs.take (i * 2) ++ vs ++ cs.drop (i * 2) := by
 have ht : (cs.take (i * 2)).length = i * 2 := by rw [List.length_take]; omega
 have h0 : (cs.take (i * 2) ++ z).length = i * 2 + z.length := by rw [List.length_append, ht]
 have h1 : i * 2 + vs.length <= (cs.take (i * 2) ++ z).length := by omega
 have hd : (cs.drop (i * 2)).length = n * 2 - i * 2 := by rw [List.length_drop]; omega
 have h2 : (i + 1) * 2 + (cs.drop (i * 2)).length <= (Abs.splice (cs.take (i * 2) ++ z) (i * 2) vs).length := by rw [Abs.splice_length h1]; omega
 have hr : (cs.take (i * 2) ++ vs).length = i * 2 + 2 := by rw [List.length_append, ht]; omega
 unfold insZ
 refine List.ext_getElem? fun k => ?_
 by_cases hk : k < (n + 1) * 2
 ·rw [List.getElem?_take_of_lt hk]
  by_cases ha : k < i * 2
  ·rw [Abs.splice_out h2 (.inl (by omega)), Abs.splice_out h1 (.inl ha), List.getElem?_append_left (by omega), List.append_assoc, List.getElem?_append_left (by omega)]
  ·by_cases hb : k < i * 2 + 2
   ·obtain ⟨j, rfl⟩ : ∃ j, k = i * 2 + j := ⟨k - i * 2, by omega⟩
    rw [Abs.splice_out h2 (.inl (by omega)), Abs.splice_in h1 (by omega), List.append_assoc, List.getElem?_append_right (by omega), ht, List.getElem?_append_left (by omega)]
    congr 1; omega
   ·obtain ⟨j, rfl⟩ : ∃ j, k = (i + 1) * 2 + j := ⟨k - (i + 1) * 2, by omega⟩
    rw [Abs.splice_in h2 (by rw [hd]; omega), List.getElem?_append_right (by rw [hr]; omega), hr]
    congr 1; omega
 ·rw [List.getElem?_eq_none (by rw [List.length_take, Abs.splice_length h2, Abs.splice_length h1]; omega), List.getElem?_eq_none (by rw [List.length_append, hr, hd]; omega)]
theorem cell_heap {w : World} {g k : Nat} {cur : Array Value} {e : TypeId} (hg : w.heap[g]? = some (.cells cur e (0, 0))) : w.cell? ⟨g, k, none⟩ = cur[k]? := cell_of_row w g k cur e (0, 0) hg
theorem setRow_old {w : World} {g b : Nat} {new : Array Value} (h : b ≠ g) : (w.setRow g new).heap[b]? = w.heap[b]? := setRow_other w g b new h
def delA (cur : List Value) (n i : Nat) : List Value := Abs.splice cur (i * 2) ((cur.take (n * 2)).drop ((i + 1) * 2))
theorem del_take {cur zs : List Value} {n i c : Nat} (hi : i < n) (hc : n <= c) (hl : cur.length = c * 2) (hz : zs.length = 2) :
  (Abs.splice (delA cur n i) ((n - 1) * 2) zs).take ((n - 1) * 2) = (cur.take (n * 2)).take (i * 2) ++ (cur.take (n * 2)).drop ((i + 1) * 2) := by
 have hd : ((cur.take (n * 2)).drop ((i + 1) * 2)).length = n * 2 - (i + 1) * 2 := by rw [List.length_drop, List.length_take]; omega
 have h1 : i * 2 + ((cur.take (n * 2)).drop ((i + 1) * 2)).length <= cur.length := by omega
 have h2 : (n - 1) * 2 + zs.length <= (delA cur n i).length := by rw [delA, Abs.splice_length h1]; omega
 have e1 : ((cur.take (n * 2)).take (i * 2)).length = i * 2 := by rw [List.length_take, List.length_take]; omega
 refine List.ext_getElem? fun k => ?_
 by_cases hk : k < (n - 1) * 2
 ·rw [List.getElem?_take_of_lt hk, Abs.splice_out h2 (.inl hk)]
  by_cases ha : k < i * 2
  ·rw [delA, Abs.splice_out h1 (.inl ha), List.getElem?_append_left (by omega), List.getElem?_take_of_lt ha, List.getElem?_take_of_lt (by omega)]
  ·obtain ⟨j, rfl⟩ : ∃ j, k = i * 2 + j := ⟨k - i * 2, by omega⟩
   rw [delA, Abs.splice_in h1 (by omega), List.getElem?_append_right (by omega), e1]
   congr 1; omega
 ·rw [List.getElem?_eq_none (by rw [List.length_take]; omega), List.getElem?_eq_none (by rw [List.length_append, e1, hd]; omega)]
theorem step_append_runI {P : Program} {ops : Array Oper} {o : Oper} {a : Act} {w : World} {K : Act -> World -> Prop} {Q : Exit -> Act -> World -> Prop} {E : Prop}
  (hg : o.guard = none) (d x : Operand) (dT sT : TypeId) (hop : o.op = Op.call { callee := Callee.builtin Builtin.append, args := #[d, x], argTypes := #[dT, sT] })
  (v u : Value) (hd : a.eval d = v) (hx : a.eval x = u) {v' : Value} {w' : World} (hr : (Builtin.append_ #[dT, sT] o.type #[v, u]).run P w = .ok v' w') (hK : K (a.put o.dst v') w') :
  if Region.wanted o (yielded ops a.tmps) = true then Oper.wp P o a w K Q else E := by
 have hw : Region.wanted o (yielded ops a.tmps) = true := by simp [Region.wanted, hg]
 rw [if_pos hw]
 unfold Oper.wp
 simp [execOp, hop, resolve, invoke, builtin, hd, hx, hr, Result.andThen]
 exact hK
section
variable {P : Program} {S : Nat -> Prop} {w w' : World}
def PtR (S : Nat -> Prop) (w : World) (us : List Value) (cs : List PV) : Prop := us.length = cs.length /\ ∀ (k : Nat) (c : PV), cs[k]? = some c -> ∃ u : Value, us[k]? = some u /\ RdP S w c u /\ u.oneCell' = true
theorem PtR.app {a b : List Value} {x y : List PV} (h : PtR S w a x) (k : PtR S w b y) : PtR S w (a ++ b) (x ++ y) := by
 refine ⟨by rw [List.length_append, List.length_append, h.1, k.1], fun j c hj => ?_⟩
 rcases Nat.lt_or_ge j x.length with h1 | h1
 ·rw [List.getElem?_append_left h1] at hj
  rw [List.getElem?_append_left (by rw [h.1]; exact h1)]
  exact h.2 j c hj
 ·rw [List.getElem?_append_right h1] at hj
  rw [List.getElem?_append_right (by rw [h.1]; exact h1), h.1]
  exact k.2 _ c hj
theorem PtR.take {a : List Value} {x : List PV} (h : PtR S w a x) (m : Nat) : PtR S w (a.take m) (x.take m) := by
 refine ⟨by rw [List.length_take, List.length_take, h.1], fun j c hj => ?_⟩
 rw [List.getElem?_take] at hj ⊢
 split at hj
 ·rename_i h1; rw [if_pos h1]; exact h.2 j c hj
 ·cases hj
theorem PtR.drop {a : List Value} {x : List PV} (h : PtR S w a x) (m : Nat) : PtR S w (a.drop m) (x.drop m) := by
 refine ⟨by rw [List.length_drop, List.length_drop, h.1], fun j c hj => ?_⟩
 rw [List.getElem?_drop] at hj ⊢
 exact h.2 _ c hj
theorem PtR.mono {a : List Value} {x : List PV} (h : PtR S w a x) (hk : Keeps S w w') : PtR S w' a x := ⟨h.1, fun j c hj => by
 obtain ⟨u, h1, h2, h3⟩ := h.2 j c hj
 exact ⟨u, h1, h2.mono hk (fun _ h => h), h3⟩⟩
theorem PtR.one {a : List Value} {x : List PV} (h : PtR S w a x) : ∀ v ∈ a, v.oneCell' = true := fun v hv => by
 obtain ⟨k, hk, rfl⟩ := List.getElem_of_mem hv
 obtain ⟨u, h1, _, h3⟩ := h.2 k _ (List.getElem?_eq_getElem (by rw [<- h.1]; exact hk))
 rw [List.getElem?_eq_getElem hk] at h1
 injection h1 with h1
 rw [h1]; exact h3
theorem okb_pt {mv : Value} {e : TypeId} {nl : Bool} {i : TypeInfo} {xs : List PV} (hi : P.info? e = some i) (h2 : i.size = 2) (h : OKb P S w mv e nl xs) : ∃ us, w.ownsRow 0 e 2 mv xs.length us /\ PtR S w us (flat xs) /\ ∀ x ∈ xs, x.cells.length = 2 := by
 obtain ⟨i', us, hi', _, ho, hz, hr, _⟩ := h
 rw [hi] at hi'
 injection hi' with hi'
 subst hi'
 rw [h2] at ho hz
 exact ⟨us, ho, ⟨by rw [ho.1, flat_length hz], hr⟩, hz⟩
theorem okb_of_pt {mv : Value} {e : TypeId} {nl : Bool} {i : TypeInfo} {xs : List PV} {us : List Value} (hi : P.info? e = some i) (h2 : i.size = 2) (ho : w.ownsRow 0 e 2 mv xs.length us) (hp : PtR S w us (flat xs)) (hz : ∀ x ∈ xs, x.cells.length = 2) (hn : nl = true ↔ mv = .slice none 0 0) : OKb P S w mv e nl xs :=
 ⟨i, us, hi, by omega, by rw [h2]; exact ho, fun x hx => by rw [h2]; exact hz x hx, hp.2, hn⟩
theorem flat_take {xs : List PV} (hz : ∀ x ∈ xs, x.cells.length = 2) (i : Nat) (hi : i <= xs.length) : flat (xs.take i) = (flat xs).take (i * 2) /\ flat (xs.drop i) = (flat xs).drop (i * 2) := by
 have e : flat xs = flat (xs.take i) ++ flat (xs.drop i) := by rw [<- flat_append, List.take_append_drop]
 have hl : (flat (xs.take i)).length = i * 2 := by rw [flat_length fun x hx => hz x (List.mem_of_mem_take hx), List.length_take]; rw [Nat.min_eq_left hi]
 constructor
 ·rw [e, List.take_left' hl]
 ·rw [e, List.drop_left' hl]
theorem three_val {vals : Array Value} (h : vals.size = 3) : vals = #[vals.getD 0 undef, vals.getD 1 undef, vals.getD 2 undef] := by
 apply Array.ext (by simp [h])
 intro i h1 h2
 match i, h1 with
 | 0, _ => simp [Array.getD, h]
 | 1, _ => simp [Array.getD, h]
 | 2, _ => simp [Array.getD, h]
 | n + 3, h1 => omega
theorem grown_rows {q : World} {g : Nat} {A B : Array Value} (hh : q.heap = w.heap) (h1 : q.os = w.os) (h2 : q.tape = w.tape) (h3 : q.output = w.output) : w.grownBy ((q.setRow g A).setRow g B) (some g) := by
 refine ⟨h1, h2, h3, by simp [hh], fun k hk hne => ?_⟩
 have hne : k ≠ g := fun e => hne (by rw [e])
 rw [setRow_old hne, setRow_old hne, hh]
theorem heap_rows {q : World} {g : Nat} {cur A B : Array Value} {e : TypeId} (hh : q.heap = w.heap) (hg : w.heap[g]? = some (.cells cur e (0, 0))) : ((q.setRow g A).setRow g B).heap[g]? = some (.cells B e (0, 0)) :=
 setRow_heap _ g A B e (0, 0) (setRow_heap q g cur A e (0, 0) (by rw [hh]; exact hg))
end
theorem infoP : ∃ i z, Tryz.prog.info? 79 = some i /\ i.size = 2 /\ i.zero = some z /\ z.cells.size = 2 /\ i.bytes <= 40 := ⟨_, _, rfl, rfl, rfl, rfl, by decide⟩
theorem oneP {i : TypeInfo} {z : Value} (hi : Tryz.prog.info? 79 = some i) (hz : i.zero = some z) : ∀ v ∈ z.cells, v.oneCell' = true := by
 have e : i = Tryz.t79 := by have h : Tryz.prog.info? 79 = some Tryz.t79 := rfl; rw [h] at hi; injection hi with hi; exact hi.symm
 subst e
 have e2 : some z = Tryz.t79.zero := hz.symm
 injection e2 with e2
 subst e2
 decide
theorem cpP {W : World} {g o dLen dCap b o2 sLen sCap n : Nat} {cur src : Array Value} {cs : List Value} (ty : TypeId) (hg : W.heap[g]? = some (.cells cur 79 (0, 0))) (hs : W.heap[b]? = some (.cells src 79 (0, 0))) (hn : n = Nat.min sLen dLen) (hcs : (src.toList.drop o2).take (n * 2) = cs) (hl : cs.length = n * 2) (hf : o + n * 2 <= cur.size) (h1 : ∀ v ∈ cs, v.oneCell' = true) :
  (Builtin.copy_ #[48, 48] ty #[.slice (some ⟨g, o, none⟩) dLen dCap, .slice (some ⟨b, o2, none⟩) sLen sCap]).run Tryz.prog W = .ok (.int .i64 n) (W.setRow g (Abs.splice cur.toList o cs).toArray) := by
 obtain ⟨i, z, hi, h2, _⟩ := infoP
 refine Abs.run_copyN (P := Tryz.prog) 48 48 ty 79 i g o dLen dCap ⟨b, o2, none⟩ sLen sCap n cur 79 cs Tryz.underlying48 hi hg hn (by rw [h2]; exact hl) (fun j v hj => ?_) (by omega) h1
 rw [Abs.add_lit, cell_heap hs]
 rw [<- hcs, List.getElem?_take] at hj
 split at hj
 ·rw [List.getElem?_drop, Array.getElem?_toList] at hj; exact hj
 ·cases hj
set_option maxHeartbeats 4000000 in
theorem insP_shift (g n c i vb vc : Nat) (cur vcur : Array Value) (w : World) (hi : i < n) (hroom : n + 1 <= c) (hc63 : c <= 9223372036854775807) (hvb : vb ≠ g) (hg : w.heap[g]? = some (.cells cur 79 (0, 0))) (hcs : cur.size = c * 2) (hv : w.heap[vb]? = some (.cells vcur 79 (0, 0))) (hvs : 2 <= vcur.size)
  (h1c : ∀ v ∈ cur.toList.take (n * 2), v.oneCell' = true) (h1v : ∀ v ∈ vcur.toList.take 2, v.oneCell' = true) :
  Calls Tryz.prog 121 #[.slice (some ⟨g, 0, none⟩) n c, .int .i64 i, .slice (some ⟨vb, 0, none⟩) 1 vc] w fun e w' => e = .returned (.slice (some ⟨g, 0, none⟩) (n + 1) c) /\
   ∃ q : World, q.heap = w.heap /\ q.os = w.os /\ q.tape = w.tape /\ q.output = w.output /\ w' = (q.setRow g (insA cur.toList n i).toArray).setRow g (Abs.splice (insA cur.toList n i) (i * 2) (vcur.toList.take 2)).toArray := by
 have mixed : Tryz.prog.follows .mixedOrders = true := by kernel_rfl
 have hz1 : ¬ ((1 : Int) = 0) := by omega
 have hz2 : ¬ ((i : Int) = (n : Int)) := by omega
 have hc2 : cur.toList.length = cur.size := Array.length_toList
 have hcv : vcur.toList.length = vcur.size := Array.length_toList
 have hdl : ((cur.toList.take (n * 2)).drop (i * 2)).length = (n - i) * 2 := by rw [List.length_drop, List.length_take]; omega
 have hov : ∀ lb cb, (callFunc 159 #[.slice (some ⟨vb, 0, none⟩) 1 vc, .slice (some ⟨g, (i + 1) * 2, none⟩) lb cb]).run Tryz.prog w = .ok (.value (.bool false)) w := fun lb cb => by
  rw [run_callFunc_extern Tryz.func159 (by kernel_rfl) (by kernel_rfl) (by kernel_rfl) (e := Extern.SlicesOverlaps.overlaps #[48, 48] #[4]) (by kernel_rfl),
   Lib.run_overlaps_apart w 48 4 79 Tryz.underlying48 2 Tryz.sizeOf79 ⟨vb, 0, none⟩ ⟨g, (i + 1) * 2, none⟩ 1 vc lb cb hvb 79 79 vcur.size cur.size (by simp [World.shape?, hv]) (by simp [World.shape?, hg]) (by omega) (by simp [World.frozen?, hv]) (by simp [World.frozen?, hv])]
  rfl
 have hcp1 : ∀ ty dc sc, (Builtin.copy_ #[48, 48] ty #[.slice (some ⟨g, (i + 1) * 2, none⟩) (n - i) dc, .slice (some ⟨g, i * 2, none⟩) (n + 1 - i) sc]).run Tryz.prog w.drew = .ok (.int .i64 (n - i : Nat)) (w.drew.setRow g (insA cur.toList n i).toArray) := fun ty dc sc =>
  cpP (n := n - i) ty hg hg (by simp only [Nat.min_def]; split <;> omega) (by rw [List.drop_take, show n * 2 - i * 2 = (n - i) * 2 by omega]) hdl (by omega) fun v hv => h1c v (List.mem_of_mem_drop hv)
 obtain ⟨W1, hW1⟩ : ∃ W1, W1 = w.drew.setRow g (insA cur.toList n i).toArray := ⟨_, rfl⟩
 have h1 : (i + 1) * 2 + ((cur.toList.take (n * 2)).drop (i * 2)).length <= cur.toList.length := by omega
 have hgA : W1.heap[g]? = some (.cells (insA cur.toList n i).toArray 79 (0, 0)) := by rw [hW1]; exact setRow_heap w.drew g cur _ 79 (0, 0) hg
 have hvA : W1.heap[vb]? = some (.cells vcur 79 (0, 0)) := by rw [hW1, setRow_old hvb]; exact hv
 have hcp2 : ∀ (W : World), W.heap = W1.heap -> ∀ ty dc, (Builtin.copy_ #[48, 48] ty #[.slice (some ⟨g, i * 2, none⟩) (n + 1 - i) dc, .slice (some ⟨vb, 0, none⟩) 1 vc]).run Tryz.prog W = .ok (.int .i64 (1 : Nat)) (W.setRow g (Abs.splice (insA cur.toList n i) (i * 2) (vcur.toList.take 2)).toArray) := fun W hW ty dc =>
  cpP (n := 1) ty (by rw [hW]; exact hgA) (by rw [hW]; exact hvA) (by simp only [Nat.min_def]; split <;> omega) rfl (by rw [List.length_take]; omega) (by show _ <= (insA cur.toList n i).length; rw [insA, Abs.splice_length h1]; omega) h1v
 rw [<- hW1] at hcp1
 have hw1 : IntKind.i64.wrap ((i : Int) + 1) = (i : Int) + 1 := by rw [IntKind.wrap_i64]; omega
 have hb1 : (0 : Int) <= (i : Int) + 1 := by omega
 have htn : ((i : Int) + 1).toNat = i + 1 := by omega
 have hb2 : ¬ (c = i + 1) := by omega
 have hb3 : (i : Int) + 1 <= (n : Int) + 1 := by omega
 have hb5 : (i : Int) <= (n : Int) + 1 := by omega
 have hb6 : (i : Int) <= (n : Int) := by omega
 have hb4 : ¬ (c = i) := by omega
 have hb7 : n + 1 - (i + 1) = n - i := by omega
 go_enter Tryz.func121, Tryz.ntmps121
 go_wp2_with (simp only [hov])
 go_region_law_o (refine step_copy_runI rfl _ _ 48 48 rfl _ _ (by simp [Act.eval, Act.put]) (by simp [Act.eval, Act.put]) (hcp1 _ _ _) ?_)
 go_wp2_with (at_builtin; refine wpList_copy_runI _ rfl _ _ 48 48 rfl _ _ rfl rfl (hcp2 _ rfl _ _) ?_)
 go_ret
 exact ⟨rfl, w.drew, rfl, rfl, rfl, rfl, by first | rfl | rw [hW1]⟩
set_option maxHeartbeats 4000000 in
theorem insP_end (mv : Value) (n vb vc : Nat) (us : List Value) (vcur : Array Value) (w : World) (ho : w.ownsRow 0 79 2 mv n us) (hn : n <= 100000) (hv : w.heap[vb]? = some (.cells vcur 79 (0, 0))) (hvs : 2 <= vcur.size) (h1v : ∀ v ∈ vcur.toList.take 2, v.oneCell' = true) :
  Calls Tryz.prog 121 #[mv, .int .i64 n, .slice (some ⟨vb, 0, none⟩) 1 vc] w fun e w' => ∃ v', e = .returned v' /\ w'.ownsRow 0 79 2 v' (n + 1) (us ++ vcur.toList.take 2) /\ w.grownBy w' mv.ownBlock /\ (v'.ownBlock = mv.ownBlock \/ v'.ownBlock = some w.heap.size) := by
 have mixed : Tryz.prog.follows .mixedOrders = true := by kernel_rfl
 have hz1 : ¬ ((1 : Int) = 0) := by omega
 obtain ⟨i0, z, hi0, hz0, hz2, hz3, hz4⟩ := infoP
 have hcv : vcur.toList.length = vcur.size := Array.length_toList
 obtain ⟨v', w', hrun, ho', hg', _, hat⟩ := run_append_own_at (P := Tryz.prog) w 0 48 48 79 i0 z 2 i0.bytes Tryz.underlying48 hi0 hz2 hz0 rfl hz3 (by omega) mv n us ho ⟨vb, 0, none⟩ 1 vc (vcur.toList.take 2) (by rw [List.length_take]; omega) (fun j u hj => by
  rw [Abs.add_lit, cell_heap hv]
  rw [List.getElem?_take] at hj
  split at hj
  ·rw [Nat.zero_add]; simpa using hj
  ·cases hj) h1v (by unfold maxLen; omega) (by have := Nat.mul_le_mul_left (n + 1) hz4; omega) (Nat.zero_le _)
 have hpost : ∃ v'', v' = v'' /\ w'.ownsRow 0 79 2 v'' (n + 1) (us ++ vcur.toList.take 2) /\ w.grownBy w' mv.ownBlock /\ (v''.ownBlock = mv.ownBlock \/ v''.ownBlock = some w.heap.size) := ⟨v', rfl, ho', hg', hat⟩
 rcases ho.2 with ⟨rfl, rfl⟩ | ⟨g, cap, cur, rfl, _, _, hnc, hcm, _⟩
 ·go_enter Tryz.func121, Tryz.ntmps121
  go_wp2_with (at_builtin; refine Lib.wpList_append_run _ rfl _ _ _ _ rfl _ _ rfl rfl _ _ hrun ?_)
  go_ret
  exact ⟨v', rfl, ho', hg', hat⟩
 ·unfold maxLen at hcm
  go_enter Tryz.func121, Tryz.ntmps121
  go_wp2_with (at_builtin; refine Lib.wpList_append_run _ rfl _ _ _ _ rfl _ _ rfl rfl _ _ hrun ?_)
  all_goals (go_ret; exact ⟨v', rfl, ho', hg', hat⟩)
set_option maxHeartbeats 4000000 in
theorem insP_grow (g n c i vb vc : Nat) (cur vcur : Array Value) (w : World) (hi : i < n) (hnc : n <= c) (hroom : c < n + 1) (hn : n <= 100000) (hvb : vb ≠ g) (hg : w.heap[g]? = some (.cells cur 79 (0, 0))) (hcs : cur.size = c * 2) (hv : w.heap[vb]? = some (.cells vcur 79 (0, 0))) (hvs : 2 <= vcur.size)
  (h1c : ∀ v ∈ cur.toList.take (n * 2), v.oneCell' = true) (h1v : ∀ v ∈ vcur.toList.take 2, v.oneCell' = true) :
  Calls Tryz.prog 121 #[.slice (some ⟨g, 0, none⟩) n c, .int .i64 i, .slice (some ⟨vb, 0, none⟩) 1 vc] w fun e w' => ∃ (G : Nat) (Z : List Value) (q : World), n + 1 <= G /\ G <= maxLen /\ Z.length = G * 2 - i * 2 /\ e = .returned (.slice (some ⟨w.heap.size, 0, none⟩) (n + 1) G) /\
   q.heap = (w.alloc (.cells ((cur.toList.take (n * 2)).take (i * 2) ++ Z).toArray 79)).heap /\ q.os = w.os /\ q.tape = w.tape /\ q.output = w.output /\
   w'.heap = ((q.setRow w.heap.size (Abs.splice ((cur.toList.take (n * 2)).take (i * 2) ++ Z) (i * 2) (vcur.toList.take 2)).toArray).setRow w.heap.size (insZ (cur.toList.take (n * 2)) (vcur.toList.take 2) Z i).toArray).heap /\ w'.os = w.os /\ w'.tape = w.tape /\ w'.output = w.output := by
 have mixed : Tryz.prog.follows .mixedOrders = true := by kernel_rfl
 obtain ⟨i0, z, hi0, hz0, hzz, hz3, hz4⟩ := infoP
 have hz1 : ¬ ((1 : Int) = 0) := by omega
 have hz2 : ¬ ((i : Int) = (n : Int)) := by omega
 have hzr : (c : Int) < (n : Int) + 1 := by omega
 have hc2 : cur.toList.length = cur.size := Array.length_toList
 have hcv : vcur.toList.length = vcur.size := Array.length_toList
 have hgw : g < w.heap.size := (Array.getElem?_eq_some_iff.1 hg).1
 have hvw : vb < w.heap.size := (Array.getElem?_eq_some_iff.1 hv).1
 generalize hCS : cur.toList.take (n * 2) = cs at h1c ⊢
 have hcl : cs.length = n * 2 := by rw [<- hCS, List.length_take]; omega
 have hkk : (n : Int) + 1 - (i : Int) = ((n + 1 - i : Nat) : Int) := by omega
 have hik : i + (n + 1 - i) = n + 1 := by omega
 have hby : (n + 1) * i0.bytes <= 140737488355328 := by have := Nat.mul_le_mul_left (n + 1) hz4; omega
 have hold : (Builtin.firstCells i0.size i (.slice (some ⟨g, 0, none⟩) i c)).run Tryz.prog w.drew = .ok (cs.take (i * 2)).toArray w.drew := by
  rw [hz0]
  refine run_firstCells_some w.drew 2 i ⟨g, 0, none⟩ i c (cs.take (i * 2)) (by rw [List.length_take]; omega) fun j v hj => ?_
  rw [Abs.add_lit, cell_heap (w := w.drew) hg, Nat.zero_add]
  rw [<- hCS, List.getElem?_take, List.getElem?_take] at hj
  split at hj
  ·split at hj
   ·simpa using hj
   ·cases hj
  ·cases hj
 have hrz : ∀ ty, (Builtin.append_ #[48, 3] ty #[.slice (some ⟨g, 0, none⟩) i c, .int .i64 ((n : Int) + 1 - (i : Int))]).run Tryz.prog w =
   .ok (.slice (some ⟨w.heap.size, 0, none⟩) (n + 1) (grownCap w (n + 1) c 79)) (w.drew.alloc (.cells ((cs.take (i * 2)).toArray ++ Builtin.zeroCells z.cells (n + 1 - i) ++ Builtin.zeroCells z.cells (grownCap w (n + 1) c 79 - (n + 1))) 79)) := fun ty => by
  have h := Lib.run_append_grow_zeros w 48 3 ty 79 i0 z .i64 .i64 Tryz.underlying48 Tryz.underlying3 hi0 hzz (some ⟨g, 0, none⟩) i c (cs.take (i * 2)) hold (n + 1 - i) (by omega) (by omega) (by omega) (by omega) (by have := Nat.mul_le_mul_right i0.bytes (show n + 1 - i <= n + 1 by omega); omega) (by rw [hik]; exact growslice_fits hroom hby)
  rw [hik] at h
  rw [hkk]
  exact h
 have hGn : n + 1 <= grownCap w (n + 1) c 79 := grownCap_ge w _ _ _
 have hG63 : grownCap w (n + 1) c 79 <= maxLen := grownCap_le_maxLen w (n + 1) c 79 (by unfold maxLen; omega)
 generalize grownCap w (n + 1) c 79 = G at hrz hGn hG63
 obtain ⟨Z, hZ⟩ : ∃ Z : List Value, Z = (Builtin.zeroCells z.cells (n + 1 - i)).toList ++ (Builtin.zeroCells z.cells (G - (n + 1))).toList := ⟨_, rfl⟩
 have hzl : ∀ k, (Builtin.zeroCells z.cells k).toList.length = k * 2 := fun k => by simp [Builtin.zeroCells, hz3]
 have hZl : Z.length = G * 2 - i * 2 := by rw [hZ, List.length_append, hzl, hzl]; omega
 have hROW : (cs.take (i * 2)).toArray ++ Builtin.zeroCells z.cells (n + 1 - i) ++ Builtin.zeroCells z.cells (G - (n + 1)) = (cs.take (i * 2) ++ Z).toArray := by
  apply Array.ext'
  rw [hZ]
  simp
 rw [hROW] at hrz
 have hpost : ∀ (v : Value) (w' : World), v = .slice (some ⟨w.heap.size, 0, none⟩) (n + 1) G -> (w'.heap = (((w.alloc (.cells (cs.take (i * 2) ++ Z).toArray 79)).setRow w.heap.size (Abs.splice (cs.take (i * 2) ++ Z) (i * 2) (vcur.toList.take 2)).toArray).setRow w.heap.size (insZ cs (vcur.toList.take 2) Z i).toArray).heap /\ w'.os = w.os /\ w'.tape = w.tape /\ w'.output = w.output) -> ∃ (G : Nat) (Z : List Value) (q : World), n + 1 <= G /\ G <= maxLen /\ Z.length = G * 2 - i * 2 /\ Ending.returned v = .returned (.slice (some ⟨w.heap.size, 0, none⟩) (n + 1) G) /\
   q.heap = (w.alloc (.cells (cs.take (i * 2) ++ Z).toArray 79)).heap /\ q.os = w.os /\ q.tape = w.tape /\ q.output = w.output /\
   w'.heap = ((q.setRow w.heap.size (Abs.splice (cs.take (i * 2) ++ Z) (i * 2) (vcur.toList.take 2)).toArray).setRow w.heap.size (insZ cs (vcur.toList.take 2) Z i).toArray).heap /\ w'.os = w.os /\ w'.tape = w.tape /\ w'.output = w.output := fun v w' hv hw => ⟨G, Z, w.alloc (.cells (cs.take (i * 2) ++ Z).toArray 79), hGn, hG63, hZl, by rw [hv], rfl, rfl, rfl, rfl, hw⟩
 obtain ⟨ROW, hR⟩ : ∃ ROW, ROW = cs.take (i * 2) ++ Z := ⟨_, rfl⟩
 have hRl : ROW.length = G * 2 := by rw [hR, List.length_append, List.length_take]; omega
 rw [<- hR] at hrz hpost
 obtain ⟨R1, hR1⟩ : ∃ R1, R1 = Abs.splice ROW (i * 2) (vcur.toList.take 2) := ⟨_, rfl⟩
 have hvl : (vcur.toList.take 2).length = 2 := by rw [List.length_take]; omega
 have hR1l : R1.length = G * 2 := by rw [hR1, Abs.splice_length (by omega), hRl]
 have hR2 : Abs.splice R1 ((i + 1) * 2) (cs.drop (i * 2)) = insZ cs (vcur.toList.take 2) Z i := by rw [hR1, hR]; rfl
 rw [<- hR1, <- hR2] at hpost
 obtain ⟨W1, hW1⟩ : ∃ W1, W1 = w.drew.alloc (.cells ROW.toArray 79) := ⟨_, rfl⟩
 have hN1 : W1.heap[w.heap.size]? = some (.cells ROW.toArray 79 (0, 0)) := by rw [hW1]; exact heap_alloc_new w.drew _
 have hg1 : W1.heap[g]? = some (.cells cur 79 (0, 0)) := by rw [hW1]; exact (heap_alloc_old w.drew _ hgw).trans hg
 have hv1 : W1.heap[vb]? = some (.cells vcur 79 (0, 0)) := by rw [hW1]; exact (heap_alloc_old w.drew _ hvw).trans hv
 have hcpA : ∀ (W : World), W.heap = W1.heap -> ∀ ty dc, (Builtin.copy_ #[48, 48] ty #[.slice (some ⟨w.heap.size, i * 2, none⟩) (n + 1 - i) dc, .slice (some ⟨vb, 0, none⟩) 1 vc]).run Tryz.prog W = .ok (.int .i64 (1 : Nat)) (W.setRow w.heap.size R1.toArray) := fun W hW ty dc => by
  rw [hR1]
  exact cpP (n := 1) (cur := ROW.toArray) ty (by rw [hW]; exact hN1) (by rw [hW]; exact hv1) (by simp only [Nat.min_def]; split <;> omega) rfl (by omega) (by show _ <= ROW.length; omega) h1v
 have hN2 : ∀ W : World, W.heap = W1.heap -> (W.setRow w.heap.size R1.toArray).heap[w.heap.size]? = some (.cells R1.toArray 79 (0, 0)) := fun W hW => setRow_heap W _ ROW.toArray _ 79 (0, 0) (by rw [hW]; exact hN1)
 have hg2 : ∀ W : World, W.heap = W1.heap -> (W.setRow w.heap.size R1.toArray).heap[g]? = some (.cells cur 79 (0, 0)) := fun W hW => by rw [setRow_old (by omega), hW]; exact hg1
 have hcpB : ∀ (W W' : World), W.heap = W1.heap -> W'.heap = (W.setRow w.heap.size R1.toArray).heap -> ∀ ty dc sc, (Builtin.copy_ #[48, 48] ty #[.slice (some ⟨w.heap.size, (i + 1) * 2, none⟩) (n - i) dc, .slice (some ⟨g, i * 2, none⟩) (n - i) sc]).run Tryz.prog W' = .ok (.int .i64 (n - i : Nat)) (W'.setRow w.heap.size (Abs.splice R1 ((i + 1) * 2) (cs.drop (i * 2))).toArray) := fun W W' hW hW' ty dc sc => by
  have hb : (cs.drop (i * 2)).length = (n - i) * 2 := by rw [List.length_drop]; omega
  exact cpP (n := n - i) (cur := R1.toArray) ty (by rw [hW']; exact hN2 W hW) (by rw [hW']; exact hg2 W hW) (by simp only [Nat.min_def]; split <;> omega) (by rw [<- hCS, List.drop_take, show n * 2 - i * 2 = (n - i) * 2 by omega]) hb (by show _ <= R1.length; omega) fun v hv => h1c v (List.mem_of_mem_drop hv)
 subst hW1
 unfold maxLen at hG63
 have hGi : ¬ (G = i) := by omega
 have hGim : ¬ (G = i + 1) := by omega
 have hci : ¬ (c = i) := by omega
 have hw1 : IntKind.i64.wrap ((i : Int) + 1) = (i : Int) + 1 := by rw [IntKind.wrap_i64]; omega
 have hb1 : (0 : Int) <= (i : Int) + 1 := by omega
 have htn : ((i : Int) + 1).toNat = i + 1 := by omega
 have hb3 : (i : Int) + 1 <= (n : Int) + 1 := by omega
 have hb5 : (i : Int) <= (n : Int) + 1 := by omega
 have hb6 : (i : Int) <= (n : Int) := by omega
 have hb7 : n + 1 - (i + 1) = n - i := by omega
 clear hkk hik hold hROW hRl hR1l hR2 hZ hzl hvl hR1 hR
 have hcpA' : ∀ ty dc, (Builtin.copy_ #[48, 48] ty #[.slice (some ⟨w.heap.size, i * 2, none⟩) (n + 1 - i) dc, .slice (some ⟨vb, 0, none⟩) 1 vc]).run Tryz.prog ((w.alloc (.cells ROW.toArray 79)).drew) = .ok (.int .i64 (1 : Nat)) ((w.alloc (.cells ROW.toArray 79)).drew.setRow w.heap.size R1.toArray) := hcpA _ rfl
 have hcpB' : ∀ ty dc sc, (Builtin.copy_ #[48, 48] ty #[.slice (some ⟨w.heap.size, (i + 1) * 2, none⟩) (n - i) dc, .slice (some ⟨g, i * 2, none⟩) (n - i) sc]).run Tryz.prog (((w.alloc (.cells ROW.toArray 79)).drew.setRow w.heap.size R1.toArray).drew) = .ok (.int .i64 (n - i : Nat)) (((w.alloc (.cells ROW.toArray 79)).drew.setRow w.heap.size R1.toArray).drew.setRow w.heap.size (Abs.splice R1 ((i + 1) * 2) (cs.drop (i * 2))).toArray) := hcpB _ _ rfl rfl
 clear hcpA hcpB
 go_enter Tryz.func121, Tryz.ntmps121
 go_wp2_with (at_builtin; refine Lib.wpList_append_run _ rfl _ _ _ _ rfl _ _ rfl rfl _ _ (hrz _) ?_)
 go_region_law_o (refine step_copy_runI rfl _ _ 48 48 rfl _ _ (by simp [Act.eval, Act.put]) (by simp [Act.eval, Act.put]) (hcpB' _ _ _) ?_)
 go_wp2
 go_ret
 exact hpost _ _ rfl ⟨rfl, rfl, rfl, rfl⟩
set_option maxHeartbeats 4000000 in
theorem delP_room (g n c i : Nat) (cur : Array Value) (w : World) (hi : i < n) (hnc : n <= c) (hc63 : c <= 9223372036854775807) (hg : w.heap[g]? = some (.cells cur 79 (0, 0))) (hcs : cur.size = c * 2)
  (h1c : ∀ v ∈ cur.toList.take (n * 2), v.oneCell' = true) :
  Calls Tryz.prog 120 #[.slice (some ⟨g, 0, none⟩) n c, .int .i64 i, .int .i64 ((i : Int) + 1)] w fun e w' => ∃ (zs : List Value) (q : World), zs.length = 2 /\ e = .returned (.slice (some ⟨g, 0, none⟩) (n - 1) c) /\
   q.heap = w.heap /\ q.os = w.os /\ q.tape = w.tape /\ q.output = w.output /\ w' = (q.setRow g (delA cur.toList n i).toArray).setRow g (Abs.splice (delA cur.toList n i) ((n - 1) * 2) zs).toArray := by
 have mixed : Tryz.prog.follows .mixedOrders = true := by kernel_rfl
 obtain ⟨i0, z, hi0, hz0, hzz, hz3, hz4⟩ := infoP
 have hc2 : cur.toList.length = cur.size := Array.length_toList
 have hdl : ((cur.toList.take (n * 2)).drop ((i + 1) * 2)).length = (n - (i + 1)) * 2 := by rw [List.length_drop, List.length_take]; omega
 obtain ⟨A, hA, hsrc⟩ : ∃ A : Addr, (if c = i + 1 then some (⟨g, 0, none⟩ : Addr) else some ⟨g, (i + 1) * 2, none⟩) = some A /\ (∀ t u, ((cur.toList.take (n * 2)).drop ((i + 1) * 2))[t]? = some u -> w.drew.cell? (A.add t) = some u) := by
  by_cases h : c = i + 1
  ·refine ⟨⟨g, 0, none⟩, by simp [h], fun t u hu => ?_⟩
   have h0 : ((cur.toList.take (n * 2)).drop ((i + 1) * 2)) = [] := List.eq_nil_of_length_eq_zero (by omega)
   rw [h0] at hu
   simp at hu
  ·refine ⟨⟨g, (i + 1) * 2, none⟩, by simp [h], fun t u hu => ?_⟩
   rw [Abs.add_lit, cell_heap (w := w.drew) hg]
   rw [List.getElem?_drop, List.getElem?_take] at hu
   split at hu
   ·rwa [Array.getElem?_toList] at hu
   ·cases hu
 have hap : ∀ ty sc, (Builtin.append_ #[48, 48] ty #[.slice (some ⟨g, 0, none⟩) i c, .slice (some A) (n - (i + 1)) sc]).run Tryz.prog w.drew = .ok (.slice (some ⟨g, 0, none⟩) (n - 1) c) (w.drew.setRow g (delA cur.toList n i).toArray) := fun ty sc => by
  have h := run_append_room (P := Tryz.prog) w.drew 48 ty 79 i0 Tryz.underlying48 hi0 g i c cur hg A (n - (i + 1)) sc ((cur.toList.take (n * 2)).drop ((i + 1) * 2)) (by rw [hz0]; exact hdl) hsrc (fun v hv => h1c v (List.mem_of_mem_drop hv)) (by omega) (by rw [hz0]; omega)
  rw [hz0, show i + (n - (i + 1)) = n - 1 by omega] at h
  exact h
 obtain ⟨W1, hW1⟩ : ∃ W1, W1 = w.drew.setRow g (delA cur.toList n i).toArray := ⟨_, rfl⟩
 have h1 : i * 2 + ((cur.toList.take (n * 2)).drop ((i + 1) * 2)).length <= cur.toList.length := by omega
 have hgA : W1.heap[g]? = some (.cells (delA cur.toList n i).toArray 79 (0, 0)) := by rw [hW1]; exact setRow_heap w.drew g cur _ 79 (0, 0) hg
 have hzl : (Builtin.zeroCells z.cells 1).toList.length = 2 := by simp [Builtin.zeroCells, hz3]
 have hzo : ∀ v ∈ z.cells, v.oneCell' = true := oneP hi0 hzz
 have hcl : ∀ ty cc, (Builtin.clear_ #[48] ty #[.slice (some ⟨g, (n - 1) * 2, none⟩) 1 cc]).run Tryz.prog W1 = .ok (.tuple #[]) (W1.setRow g (Abs.splice (delA cur.toList n i) ((n - 1) * 2) (Builtin.zeroCells z.cells 1).toList).toArray) := fun ty cc =>
  Abs.run_clearN (P := Tryz.prog) 48 79 i0 ty z g ((n - 1) * 2) 1 cc (delA cur.toList n i).toArray 79 Tryz.underlying48 hi0 hzz (by rw [hz3, hz0]) hgA (by omega) (by rw [hz0]; show _ <= (delA cur.toList n i).length; rw [delA, Abs.splice_length h1]; omega) hzo
 rw [<- hW1] at hap
 have hpost : ∀ (v : Value) (w' : World), v = .slice (some ⟨g, 0, none⟩) (n - 1) c -> w' = W1.setRow g (Abs.splice (delA cur.toList n i) ((n - 1) * 2) (Builtin.zeroCells z.cells 1).toList).toArray -> ∃ (zs : List Value) (q : World), zs.length = 2 /\ Ending.returned v = .returned (.slice (some ⟨g, 0, none⟩) (n - 1) c) /\
   q.heap = w.heap /\ q.os = w.os /\ q.tape = w.tape /\ q.output = w.output /\ w' = (q.setRow g (delA cur.toList n i).toArray).setRow g (Abs.splice (delA cur.toList n i) ((n - 1) * 2) zs).toArray := fun v w' hv hw => ⟨_, w.drew, hzl, by rw [hv], rfl, rfl, rfl, rfl, by rw [hw, hW1]⟩
 have hq1 : ((i : Int) == (i : Int) + 1) = false := by rw [beq_eq_false_iff_ne]; omega
 have hq2 : ¬ ((i : Int) = (i : Int) + 1) := by omega
 have hw1 : IntKind.i64.wrap ((i : Int) + 1) = (i : Int) + 1 := by rw [IntKind.wrap_i64]; omega
 have hb1 : (0 : Int) <= (i : Int) + 1 := by omega
 have hb2 : (i : Int) <= (i : Int) + 1 := by omega
 have htn : ((i : Int) + 1).toNat = i + 1 := by omega
 have hb3 : (i : Int) + 1 <= (n : Int) := by omega
 have hb6 : (i : Int) <= (n : Int) := by omega
 have hb8 : (n : Int) <= (c : Int) := by omega
 have hb9 : (i : Int) <= (c : Int) := by omega
 have hb4 : ¬ (c = n - 1) := by omega
 have hb5 : n - (n - 1) = 1 := by omega
 have hb7 : ((n - 1 : Nat) : Int) <= (n : Int) := by omega
 generalize (Builtin.zeroCells z.cells 1).toList = ZL at hcl hpost hzl
 clear hW1 hgA hsrc
 go_enter Tryz.func120, Tryz.ntmps120
 go_wp2_with fail
 go_region_law_o (refine step_append_runI rfl _ _ 48 48 rfl (.slice (some ⟨g, 0, none⟩) i c) (.slice (some A) (n - (i + 1)) (c - (i + 1))) (by simp [Act.eval, Act.put]) (by simp [Act.eval, Act.put, hA]) (hap _ _) ?_)
 go_wp2
 go_ret
 exact hpost _ _ rfl rfl
theorem insP_all (mv : Value) (n i vb vc : Nat) (us : List Value) (vcur : Array Value) (w : World) (ho : w.ownsRow 0 79 2 mv n us) (hi : i <= n) (hn : n <= 100000) (hvb : ∀ b, mv.ownBlock = some b -> vb ≠ b) (hv : w.heap[vb]? = some (.cells vcur 79 (0, 0))) (hvs : 2 <= vcur.size) (h1c : ∀ v ∈ us, v.oneCell' = true) (h1v : ∀ v ∈ vcur.toList.take 2, v.oneCell' = true) :
  Calls Tryz.prog 121 #[mv, .int .i64 i, .slice (some ⟨vb, 0, none⟩) 1 vc] w fun e w' => ∃ v', e = .returned v' /\ w'.ownsRow 0 79 2 v' (n + 1) (us.take (i * 2) ++ vcur.toList.take 2 ++ us.drop (i * 2)) /\ w.grownBy w' mv.ownBlock /\ ∀ b, v'.ownBlock = some b -> mv.ownBlock = some b \/ w.heap.size <= b := by
 have hul := ho.1
 rcases Nat.lt_or_ge i n with hlt | hge
 ·rcases ho.2 with ⟨_, h0⟩ | ⟨g, cap, cur, rfl, _, hg, hnc, hcm, hcs, htk⟩
  ·omega
  ·have h1c' : ∀ v ∈ cur.toList.take (n * 2), v.oneCell' = true := by rw [htk]; exact h1c
   have hcm' := hcm
   unfold maxLen at hcm'
   have hvl : (vcur.toList.take 2).length = 2 := by rw [List.length_take, Array.length_toList]; omega
   have hbb : vb ≠ g := hvb g rfl
   have hcl : cur.toList.length = cap * 2 := by rw [Array.length_toList]; exact hcs
   rcases Nat.lt_or_ge cap (n + 1) with hr | hr
   ·refine (insP_grow g n cap i vb vc cur vcur w hlt hnc hr hn hbb hg hcs hv hvs h1c' h1v).mono ?_
    rintro e w' ⟨G, Z, q, hG1, hG2, hZ, rfl, hq, hq1, hq2, hq3, hw, hw1, hw2, hw3⟩
    rw [htk] at hq hw
    have hN : q.heap[w.heap.size]? = some (.cells (us.take (i * 2) ++ Z).toArray 79 (0, 0)) := by rw [hq]; exact heap_alloc_new w _
    refine ⟨_, rfl, ⟨?_, .inr ⟨w.heap.size, G, _, rfl, Nat.zero_le _, ?_, hG1, hG2, ?_, insZ_take (z := Z) (n := n) hi hul hvl (by omega)⟩⟩, ⟨hw1, hw2, hw3, ?_, fun k hk hne => ?_⟩, fun b hb => .inr ?_⟩
    ·rw [List.length_append, List.length_append, List.length_take, List.length_drop, hvl]; omega
    ·rw [hw]
     exact setRow_heap _ _ _ _ 79 (0, 0) (setRow_heap q _ _ _ 79 (0, 0) hN)
    ·show (insZ us (vcur.toList.take 2) Z i).length = _
     have h5 : (us.take (i * 2) ++ Z).length = G * 2 := by rw [List.length_append, List.length_take]; omega
     unfold insZ
     have h7 : i * 2 + (vcur.toList.take 2).length <= (us.take (i * 2) ++ Z).length := by omega
     have h8 : (i + 1) * 2 + (us.drop (i * 2)).length <= (Abs.splice (us.take (i * 2) ++ Z) (i * 2) (vcur.toList.take 2)).length := by rw [Abs.splice_length h7, List.length_drop]; omega
     rw [Abs.splice_length h8, Abs.splice_length h7, h5]
    ·rw [hw]; simp [hq]
    ·rw [hw, setRow_old (by omega), setRow_old (by omega), hq]
     exact heap_alloc_old w _ hk
    ·have : w.heap.size = b := by simpa [Value.ownBlock] using hb
     omega
   ·refine (insP_shift g n cap i vb vc cur vcur w hlt hr hcm' hbb hg hcs hv hvs h1c' h1v).mono ?_
    rintro e w' ⟨rfl, q, hq, hq1, hq2, hq3, rfl⟩
    have h5 : (i + 1) * 2 + ((cur.toList.take (n * 2)).drop (i * 2)).length <= cur.toList.length := by rw [List.length_drop, List.length_take]; omega
    have h6 : i * 2 + (vcur.toList.take 2).length <= (insA cur.toList n i).length := by rw [insA, Abs.splice_length h5]; omega
    refine ⟨_, rfl, ⟨?_, .inr ⟨g, cap, _, rfl, Nat.zero_le _, heap_rows hq hg, hr, hcm, ?_, ?_⟩⟩, grown_rows hq hq1 hq2 hq3, fun b hb => .inl hb⟩
    ·rw [List.length_append, List.length_append, List.length_take, List.length_drop, hvl]; omega
    ·show (Abs.splice _ _ _).length = _
     rw [Abs.splice_length h6, insA, Abs.splice_length h5, hcl]
    ·have := ins_take (i := i) (c := cap) hi hr hcl hvl
     rw [htk] at this
     exact this
 ·obtain rfl : i = n := by omega
  refine (insP_end mv i vb vc us vcur w ho hn hv hvs h1v).mono ?_
  rintro e w' ⟨v', rfl, h1, h2, h3⟩
  refine ⟨v', rfl, ?_, h2, fun b hb => h3.imp (fun h => h.symm.trans hb) fun h => ?_⟩
  ·rw [List.take_of_length_le (by omega), List.drop_of_length_le (by omega), List.append_nil]; exact h1
  ·rw [h] at hb; injection hb with hb; omega
theorem insP_call (nl nb : Bool) (xs : List PV) (y : PV) (i : Nat) (hi : i <= xs.length) (hl : xs.length <= 100000) : ACall Tryz.prog 121 [.buf 0, .p (pI i), .buf 1] [some (AO.buf 79 nl xs), some (AO.buf 79 nb [y])] fun r H => r = .buf 2 /\ H = [none, some (AO.buf 79 nb [y]), some (AO.buf 79 false (xs.take i ++ y :: xs.drop i))] := by
 refine ⟨⟨_, Tryz.func121, rfl, rfl⟩, fun m S w vals hp hs hr => ?_⟩
 have hl0 : live [some (AO.buf 79 nl xs), some (AO.buf 79 nb [y])] 0 (.buf 79 nl xs) := rfl
 have hl1 : live [some (AO.buf 79 nl xs), some (AO.buf 79 nb [y])] 1 (.buf 79 nb [y]) := rfl
 have h0 := rd_buf (hr 0 _ rfl) hl0
 have h1 : vals.getD 1 undef = .int .i64 i := (hr 1 _ rfl).pv.1
 have h2 := rd_buf (hr 2 _ rfl) hl1
 rw [three_val hs, h0, h1, h2]
 obtain ⟨inf, z, hinf, hz2, _⟩ := infoP
 obtain ⟨us, ho, hp0, hz⟩ := okb_pt hinf hz2 (hp.obj 0 _ hl0)
 obtain ⟨vs, ho1, hp1, hzy⟩ := okb_pt hinf hz2 (hp.obj 1 _ hl1)
 have hyz := hzy y (List.mem_cons_self ..)
 rcases ho1.2 with ⟨_, h5⟩ | ⟨vb, vc, vcur, hv1, _, hv, hvn, _, hvcs, hvtk⟩
 ·simp at h5
 rw [hv1]
 have hvtk2 : vcur.toList.take 2 = vs := by simpa using hvtk
 have hbb : ∀ b, (m 0).ownBlock = some b -> vb ≠ b := fun b hb e => by
  subst e
  have := hp.inj 0 1 _ _ vb hl0 hl1 (.inl hb) (.inl (by show (m 1).ownBlock = _; rw [hv1]; rfl))
  cases this
 have hvn' : 1 <= vc := hvn
 refine (insP_all (m 0) xs.length i vb vc us vcur w ho hi hl hbb hv (by omega) hp0.one (by rw [hvtk2]; exact hp1.one)).mono ?_
 rintro e w' ⟨v', rfl, ho', hg', hat⟩
 rw [hvtk2] at ho'
 have hlen : (xs.take i ++ y :: xs.drop i).length = xs.length + 1 := by rw [List.length_append, List.length_cons, List.length_take, List.length_drop]; omega
 have hfy : flat [y] = y.cells := by simp [flat]
 have hfl : flat (xs.take i ++ y :: xs.drop i) = (flat xs).take (i * 2) ++ y.cells ++ (flat xs).drop (i * 2) := by
  obtain ⟨e1, e2⟩ := flat_take hz i hi
  rw [flat_append, show y :: xs.drop i = [y] ++ xs.drop i from rfl, flat_append, e1, e2, hfy, List.append_assoc]
 rw [hfy] at hp1
 have hn0 : v' ≠ .slice none 0 0 := fun h => by
  rcases ho'.2 with ⟨_, h6⟩ | ⟨g, c, _, h6, _⟩
  ·omega
  ·rw [h6] at h; cases h
 obtain ⟨hS, hR⟩ := stp_renew (v' := v') (nl' := false) (zs := xs.take i ++ y :: xs.drop i) hp (.inr ⟨0, rfl, hl0, rfl⟩) (fun hk => okb_of_pt hinf hz2 (by rw [hlen]; exact ho') (by rw [hfl]; exact (((hp0.take _).app hp1).app (hp0.drop _)).mono hk) (fun x hx => by
  rcases List.mem_append.1 hx with hx | hx
  ·exact hz x (List.mem_of_mem_take hx)
  ·rcases List.mem_cons.1 hx with rfl | hx
   ·exact hyz
   ·exact hz x (List.mem_of_mem_drop hx)) ⟨fun h => (by cases h), fun h => absurd h hn0⟩) hg' hat
 exact ⟨_, .buf 2, _, _, S, rfl, ⟨rfl, rfl⟩, hS, hR⟩
theorem delP_call (nl : Bool) (xs : List PV) (i : Nat) (hi : i < xs.length) (hl : xs.length <= 100000) : ACall Tryz.prog 120 [.buf 0, .p (pI i), .p (pI ((i : Int) + 1))] [some (AO.buf 79 nl xs)] fun r H => r = .buf 1 /\ H = [none, some (AO.buf 79 false (xs.take i ++ xs.drop (i + 1)))] := by
 refine ⟨⟨_, Tryz.func120, rfl, rfl⟩, fun m S w vals hp hs hr => ?_⟩
 have hl0 : live [some (AO.buf 79 nl xs)] 0 (.buf 79 nl xs) := rfl
 have h0 := rd_buf (hr 0 _ rfl) hl0
 have h1 : vals.getD 1 undef = .int .i64 i := (hr 1 _ rfl).pv.1
 have h2 : vals.getD 2 undef = .int .i64 ((i : Int) + 1) := (hr 2 _ rfl).pv.1
 rw [three_val hs, h0, h1, h2]
 obtain ⟨inf, z, hinf, hz2, _⟩ := infoP
 obtain ⟨us, ho, hp0, hz⟩ := okb_pt hinf hz2 (hp.obj 0 _ hl0)
 rcases ho.2 with ⟨_, h5⟩ | ⟨g, cap, cur, hm0, _, hg, hnc, hcm, hcs, htk⟩
 ·omega
 rw [hm0]
 have hcm' := hcm
 unfold maxLen at hcm'
 have hcl : cur.toList.length = cap * 2 := by rw [Array.length_toList]; exact hcs
 refine (delP_room g xs.length cap i cur w hi hnc hcm' hg hcs (by rw [htk]; exact hp0.one)).mono ?_
 rintro e w' ⟨zs, q, hzs, rfl, hq, hq1, hq2, hq3, rfl⟩
 have hlen : (xs.take i ++ xs.drop (i + 1)).length = xs.length - 1 := by rw [List.length_append, List.length_take, List.length_drop]; omega
 have hfl : flat (xs.take i ++ xs.drop (i + 1)) = (flat xs).take (i * 2) ++ (flat xs).drop ((i + 1) * 2) := by rw [flat_append, (flat_take hz i (by omega)).1, (flat_take hz (i + 1) (by omega)).2]
 have h5 : i * 2 + ((cur.toList.take (xs.length * 2)).drop ((i + 1) * 2)).length <= cur.toList.length := by rw [List.length_drop, List.length_take]; omega
 have h6 : (xs.length - 1) * 2 + zs.length <= (delA cur.toList xs.length i).length := by rw [delA, Abs.splice_length h5]; omega
 have hul := ho.1
 have ho' : ((q.setRow g (delA cur.toList xs.length i).toArray).setRow g (Abs.splice (delA cur.toList xs.length i) ((xs.length - 1) * 2) zs).toArray).ownsRow 0 79 2 (.slice (some ⟨g, 0, none⟩) (xs.length - 1) cap) (xs.length - 1) (us.take (i * 2) ++ us.drop ((i + 1) * 2)) := by
  refine ⟨?_, .inr ⟨g, cap, _, rfl, Nat.zero_le _, heap_rows hq hg, by omega, hcm, ?_, ?_⟩⟩
  ·rw [List.length_append, List.length_take, List.length_drop]; omega
  ·show (Abs.splice _ _ _).length = _
   rw [Abs.splice_length h6, delA, Abs.splice_length h5, hcl]
  ·have := del_take hi hnc hcl hzs
   rw [htk] at this
   exact this
 obtain ⟨hS, hR⟩ := stp_renew (v' := .slice (some ⟨g, 0, none⟩) (xs.length - 1) cap) (nl' := false) (zs := xs.take i ++ xs.drop (i + 1)) hp (.inr ⟨0, rfl, hl0, rfl⟩) (fun hk => okb_of_pt hinf hz2 (by rw [hlen]; exact ho') (by rw [hfl]; exact ((hp0.take _).app (hp0.drop _)).mono hk) (fun x hx => by
  rcases List.mem_append.1 hx with hx | hx
  ·exact hz x (List.mem_of_mem_take hx)
  ·exact hz x (List.mem_of_mem_drop hx)) (by simp)) (by rw [hm0]; exact grown_rows hq hq1 hq2 hq3) (fun b hb => .inl (by rw [hm0]; exact hb))
 exact ⟨_, .buf 1, _, _, S, rfl, ⟨rfl, rfl⟩, hS, hR⟩
theorem infoO : ∃ i z, Tryz.prog.info? 33 = some i /\ i.size = 2 /\ i.zero = some z /\ z.cells.size = 2 /\ i.bytes <= 40 := ⟨_, _, rfl, rfl, rfl, rfl, by decide⟩
theorem oneO {i : TypeInfo} {z : Value} (hi : Tryz.prog.info? 33 = some i) (hz : i.zero = some z) : ∀ v ∈ z.cells, v.oneCell' = true := by
 have e : i = Tryz.t33 := by have h : Tryz.prog.info? 33 = some Tryz.t33 := rfl; rw [h] at hi; injection hi with hi; exact hi.symm
 subst e
 have e2 : some z = Tryz.t33.zero := hz.symm
 injection e2 with e2
 subst e2
 decide
theorem cpO {W : World} {g o dLen dCap b o2 sLen sCap n : Nat} {cur src : Array Value} {cs : List Value} (ty : TypeId) (hg : W.heap[g]? = some (.cells cur 33 (0, 0))) (hs : W.heap[b]? = some (.cells src 33 (0, 0))) (hn : n = Nat.min sLen dLen) (hcs : (src.toList.drop o2).take (n * 2) = cs) (hl : cs.length = n * 2) (hf : o + n * 2 <= cur.size) (h1 : ∀ v ∈ cs, v.oneCell' = true) :
  (Builtin.copy_ #[28, 28] ty #[.slice (some ⟨g, o, none⟩) dLen dCap, .slice (some ⟨b, o2, none⟩) sLen sCap]).run Tryz.prog W = .ok (.int .i64 n) (W.setRow g (Abs.splice cur.toList o cs).toArray) := by
 obtain ⟨i, z, hi, h2, _⟩ := infoO
 refine Abs.run_copyN (P := Tryz.prog) 28 28 ty 33 i g o dLen dCap ⟨b, o2, none⟩ sLen sCap n cur 33 cs Tryz.underlying28 hi hg hn (by rw [h2]; exact hl) (fun j v hj => ?_) (by omega) h1
 rw [Abs.add_lit, cell_heap hs]
 rw [<- hcs, List.getElem?_take] at hj
 split at hj
 ·rw [List.getElem?_drop, Array.getElem?_toList] at hj; exact hj
 ·cases hj
set_option maxHeartbeats 4000000 in
theorem insO_shift (g n c i vb vc : Nat) (cur vcur : Array Value) (w : World) (hi : i < n) (hroom : n + 1 <= c) (hc63 : c <= 9223372036854775807) (hvb : vb ≠ g) (hg : w.heap[g]? = some (.cells cur 33 (0, 0))) (hcs : cur.size = c * 2) (hv : w.heap[vb]? = some (.cells vcur 33 (0, 0))) (hvs : 2 <= vcur.size)
  (h1c : ∀ v ∈ cur.toList.take (n * 2), v.oneCell' = true) (h1v : ∀ v ∈ vcur.toList.take 2, v.oneCell' = true) :
  Calls Tryz.prog 17 #[.slice (some ⟨g, 0, none⟩) n c, .int .i64 i, .slice (some ⟨vb, 0, none⟩) 1 vc] w fun e w' => e = .returned (.slice (some ⟨g, 0, none⟩) (n + 1) c) /\
   ∃ q : World, q.heap = w.heap /\ q.os = w.os /\ q.tape = w.tape /\ q.output = w.output /\ w' = (q.setRow g (insA cur.toList n i).toArray).setRow g (Abs.splice (insA cur.toList n i) (i * 2) (vcur.toList.take 2)).toArray := by
 have mixed : Tryz.prog.follows .mixedOrders = true := by kernel_rfl
 have hz1 : ¬ ((1 : Int) = 0) := by omega
 have hz2 : ¬ ((i : Int) = (n : Int)) := by omega
 have hc2 : cur.toList.length = cur.size := Array.length_toList
 have hcv : vcur.toList.length = vcur.size := Array.length_toList
 have hdl : ((cur.toList.take (n * 2)).drop (i * 2)).length = (n - i) * 2 := by rw [List.length_drop, List.length_take]; omega
 have hov : ∀ lb cb, (callFunc 47 #[.slice (some ⟨vb, 0, none⟩) 1 vc, .slice (some ⟨g, (i + 1) * 2, none⟩) lb cb]).run Tryz.prog w = .ok (.value (.bool false)) w := fun lb cb => by
  rw [run_callFunc_extern Tryz.func47 (by kernel_rfl) (by kernel_rfl) (by kernel_rfl) (e := Extern.SlicesOverlaps.overlaps #[28, 28] #[4]) (by kernel_rfl),
   Lib.run_overlaps_apart w 28 4 33 Tryz.underlying28 2 Tryz.sizeOf33 ⟨vb, 0, none⟩ ⟨g, (i + 1) * 2, none⟩ 1 vc lb cb hvb 33 33 vcur.size cur.size (by simp [World.shape?, hv]) (by simp [World.shape?, hg]) (by omega) (by simp [World.frozen?, hv]) (by simp [World.frozen?, hv])]
  rfl
 have hcp1 : ∀ ty dc sc, (Builtin.copy_ #[28, 28] ty #[.slice (some ⟨g, (i + 1) * 2, none⟩) (n - i) dc, .slice (some ⟨g, i * 2, none⟩) (n + 1 - i) sc]).run Tryz.prog w.drew = .ok (.int .i64 (n - i : Nat)) (w.drew.setRow g (insA cur.toList n i).toArray) := fun ty dc sc =>
  cpO (n := n - i) ty hg hg (by simp only [Nat.min_def]; split <;> omega) (by rw [List.drop_take, show n * 2 - i * 2 = (n - i) * 2 by omega]) hdl (by omega) fun v hv => h1c v (List.mem_of_mem_drop hv)
 obtain ⟨W1, hW1⟩ : ∃ W1, W1 = w.drew.setRow g (insA cur.toList n i).toArray := ⟨_, rfl⟩
 have h1 : (i + 1) * 2 + ((cur.toList.take (n * 2)).drop (i * 2)).length <= cur.toList.length := by omega
 have hgA : W1.heap[g]? = some (.cells (insA cur.toList n i).toArray 33 (0, 0)) := by rw [hW1]; exact setRow_heap w.drew g cur _ 33 (0, 0) hg
 have hvA : W1.heap[vb]? = some (.cells vcur 33 (0, 0)) := by rw [hW1, setRow_old hvb]; exact hv
 have hcp2 : ∀ (W : World), W.heap = W1.heap -> ∀ ty dc, (Builtin.copy_ #[28, 28] ty #[.slice (some ⟨g, i * 2, none⟩) (n + 1 - i) dc, .slice (some ⟨vb, 0, none⟩) 1 vc]).run Tryz.prog W = .ok (.int .i64 (1 : Nat)) (W.setRow g (Abs.splice (insA cur.toList n i) (i * 2) (vcur.toList.take 2)).toArray) := fun W hW ty dc =>
  cpO (n := 1) ty (by rw [hW]; exact hgA) (by rw [hW]; exact hvA) (by simp only [Nat.min_def]; split <;> omega) rfl (by rw [List.length_take]; omega) (by show _ <= (insA cur.toList n i).length; rw [insA, Abs.splice_length h1]; omega) h1v
 rw [<- hW1] at hcp1
 have hw1 : IntKind.i64.wrap ((i : Int) + 1) = (i : Int) + 1 := by rw [IntKind.wrap_i64]; omega
 have hb1 : (0 : Int) <= (i : Int) + 1 := by omega
 have htn : ((i : Int) + 1).toNat = i + 1 := by omega
 have hb2 : ¬ (c = i + 1) := by omega
 have hb3 : (i : Int) + 1 <= (n : Int) + 1 := by omega
 have hb5 : (i : Int) <= (n : Int) + 1 := by omega
 have hb6 : (i : Int) <= (n : Int) := by omega
 have hb4 : ¬ (c = i) := by omega
 have hb7 : n + 1 - (i + 1) = n - i := by omega
 go_enter Tryz.func17, Tryz.ntmps17
 go_wp2_with (simp only [hov])
 go_region_law_o (refine step_copy_runI rfl _ _ 28 28 rfl _ _ (by simp [Act.eval, Act.put]) (by simp [Act.eval, Act.put]) (hcp1 _ _ _) ?_)
 go_wp2_with (at_builtin; refine wpList_copy_runI _ rfl _ _ 28 28 rfl _ _ rfl rfl (hcp2 _ rfl _ _) ?_)
 go_ret
 exact ⟨rfl, w.drew, rfl, rfl, rfl, rfl, by first | rfl | rw [hW1]⟩
set_option maxHeartbeats 4000000 in
theorem insO_end (mv : Value) (n vb vc : Nat) (us : List Value) (vcur : Array Value) (w : World) (ho : w.ownsRow 0 33 2 mv n us) (hn : n <= 100000) (hv : w.heap[vb]? = some (.cells vcur 33 (0, 0))) (hvs : 2 <= vcur.size) (h1v : ∀ v ∈ vcur.toList.take 2, v.oneCell' = true) :
  Calls Tryz.prog 17 #[mv, .int .i64 n, .slice (some ⟨vb, 0, none⟩) 1 vc] w fun e w' => ∃ v', e = .returned v' /\ w'.ownsRow 0 33 2 v' (n + 1) (us ++ vcur.toList.take 2) /\ w.grownBy w' mv.ownBlock /\ (v'.ownBlock = mv.ownBlock \/ v'.ownBlock = some w.heap.size) := by
 have mixed : Tryz.prog.follows .mixedOrders = true := by kernel_rfl
 have hz1 : ¬ ((1 : Int) = 0) := by omega
 obtain ⟨i0, z, hi0, hz0, hz2, hz3, hz4⟩ := infoO
 have hcv : vcur.toList.length = vcur.size := Array.length_toList
 obtain ⟨v', w', hrun, ho', hg', _, hat⟩ := run_append_own_at (P := Tryz.prog) w 0 28 28 33 i0 z 2 i0.bytes Tryz.underlying28 hi0 hz2 hz0 rfl hz3 (by omega) mv n us ho ⟨vb, 0, none⟩ 1 vc (vcur.toList.take 2) (by rw [List.length_take]; omega) (fun j u hj => by
  rw [Abs.add_lit, cell_heap hv]
  rw [List.getElem?_take] at hj
  split at hj
  ·rw [Nat.zero_add]; simpa using hj
  ·cases hj) h1v (by unfold maxLen; omega) (by have := Nat.mul_le_mul_left (n + 1) hz4; omega) (Nat.zero_le _)
 have hpost : ∃ v'', v' = v'' /\ w'.ownsRow 0 33 2 v'' (n + 1) (us ++ vcur.toList.take 2) /\ w.grownBy w' mv.ownBlock /\ (v''.ownBlock = mv.ownBlock \/ v''.ownBlock = some w.heap.size) := ⟨v', rfl, ho', hg', hat⟩
 rcases ho.2 with ⟨rfl, rfl⟩ | ⟨g, cap, cur, rfl, _, _, hnc, hcm, _⟩
 ·go_enter Tryz.func17, Tryz.ntmps17
  go_wp2_with (at_builtin; refine Lib.wpList_append_run _ rfl _ _ _ _ rfl _ _ rfl rfl _ _ hrun ?_)
  go_ret
  exact ⟨v', rfl, ho', hg', hat⟩
 ·unfold maxLen at hcm
  go_enter Tryz.func17, Tryz.ntmps17
  go_wp2_with (at_builtin; refine Lib.wpList_append_run _ rfl _ _ _ _ rfl _ _ rfl rfl _ _ hrun ?_)
  all_goals (go_ret; exact ⟨v', rfl, ho', hg', hat⟩)
set_option maxHeartbeats 4000000 in
theorem insO_grow (g n c i vb vc : Nat) (cur vcur : Array Value) (w : World) (hi : i < n) (hnc : n <= c) (hroom : c < n + 1) (hn : n <= 100000) (hvb : vb ≠ g) (hg : w.heap[g]? = some (.cells cur 33 (0, 0))) (hcs : cur.size = c * 2) (hv : w.heap[vb]? = some (.cells vcur 33 (0, 0))) (hvs : 2 <= vcur.size)
  (h1c : ∀ v ∈ cur.toList.take (n * 2), v.oneCell' = true) (h1v : ∀ v ∈ vcur.toList.take 2, v.oneCell' = true) :
  Calls Tryz.prog 17 #[.slice (some ⟨g, 0, none⟩) n c, .int .i64 i, .slice (some ⟨vb, 0, none⟩) 1 vc] w fun e w' => ∃ (G : Nat) (Z : List Value) (q : World), n + 1 <= G /\ G <= maxLen /\ Z.length = G * 2 - i * 2 /\ e = .returned (.slice (some ⟨w.heap.size, 0, none⟩) (n + 1) G) /\
   q.heap = (w.alloc (.cells ((cur.toList.take (n * 2)).take (i * 2) ++ Z).toArray 33)).heap /\ q.os = w.os /\ q.tape = w.tape /\ q.output = w.output /\
   w'.heap = ((q.setRow w.heap.size (Abs.splice ((cur.toList.take (n * 2)).take (i * 2) ++ Z) (i * 2) (vcur.toList.take 2)).toArray).setRow w.heap.size (insZ (cur.toList.take (n * 2)) (vcur.toList.take 2) Z i).toArray).heap /\ w'.os = w.os /\ w'.tape = w.tape /\ w'.output = w.output := by
 have mixed : Tryz.prog.follows .mixedOrders = true := by kernel_rfl
 obtain ⟨i0, z, hi0, hz0, hzz, hz3, hz4⟩ := infoO
 have hz1 : ¬ ((1 : Int) = 0) := by omega
 have hz2 : ¬ ((i : Int) = (n : Int)) := by omega
 have hzr : (c : Int) < (n : Int) + 1 := by omega
 have hc2 : cur.toList.length = cur.size := Array.length_toList
 have hcv : vcur.toList.length = vcur.size := Array.length_toList
 have hgw : g < w.heap.size := (Array.getElem?_eq_some_iff.1 hg).1
 have hvw : vb < w.heap.size := (Array.getElem?_eq_some_iff.1 hv).1
 generalize hCS : cur.toList.take (n * 2) = cs at h1c ⊢
 have hcl : cs.length = n * 2 := by rw [<- hCS, List.length_take]; omega
 have hkk : (n : Int) + 1 - (i : Int) = ((n + 1 - i : Nat) : Int) := by omega
 have hik : i + (n + 1 - i) = n + 1 := by omega
 have hby : (n + 1) * i0.bytes <= 140737488355328 := by have := Nat.mul_le_mul_left (n + 1) hz4; omega
 have hold : (Builtin.firstCells i0.size i (.slice (some ⟨g, 0, none⟩) i c)).run Tryz.prog w.drew = .ok (cs.take (i * 2)).toArray w.drew := by
  rw [hz0]
  refine run_firstCells_some w.drew 2 i ⟨g, 0, none⟩ i c (cs.take (i * 2)) (by rw [List.length_take]; omega) fun j v hj => ?_
  rw [Abs.add_lit, cell_heap (w := w.drew) hg, Nat.zero_add]
  rw [<- hCS, List.getElem?_take, List.getElem?_take] at hj
  split at hj
  ·split at hj
   ·simpa using hj
   ·cases hj
  ·cases hj
 have hrz : ∀ ty, (Builtin.append_ #[28, 3] ty #[.slice (some ⟨g, 0, none⟩) i c, .int .i64 ((n : Int) + 1 - (i : Int))]).run Tryz.prog w =
   .ok (.slice (some ⟨w.heap.size, 0, none⟩) (n + 1) (grownCap w (n + 1) c 33)) (w.drew.alloc (.cells ((cs.take (i * 2)).toArray ++ Builtin.zeroCells z.cells (n + 1 - i) ++ Builtin.zeroCells z.cells (grownCap w (n + 1) c 33 - (n + 1))) 33)) := fun ty => by
  have h := Lib.run_append_grow_zeros w 28 3 ty 33 i0 z .i64 .i64 Tryz.underlying28 Tryz.underlying3 hi0 hzz (some ⟨g, 0, none⟩) i c (cs.take (i * 2)) hold (n + 1 - i) (by omega) (by omega) (by omega) (by omega) (by have := Nat.mul_le_mul_right i0.bytes (show n + 1 - i <= n + 1 by omega); omega) (by rw [hik]; exact growslice_fits hroom hby)
  rw [hik] at h
  rw [hkk]
  exact h
 have hGn : n + 1 <= grownCap w (n + 1) c 33 := grownCap_ge w _ _ _
 have hG63 : grownCap w (n + 1) c 33 <= maxLen := grownCap_le_maxLen w (n + 1) c 33 (by unfold maxLen; omega)
 generalize grownCap w (n + 1) c 33 = G at hrz hGn hG63
 obtain ⟨Z, hZ⟩ : ∃ Z : List Value, Z = (Builtin.zeroCells z.cells (n + 1 - i)).toList ++ (Builtin.zeroCells z.cells (G - (n + 1))).toList := ⟨_, rfl⟩
 have hzl : ∀ k, (Builtin.zeroCells z.cells k).toList.length = k * 2 := fun k => by simp [Builtin.zeroCells, hz3]
 have hZl : Z.length = G * 2 - i * 2 := by rw [hZ, List.length_append, hzl, hzl]; omega
 have hROW : (cs.take (i * 2)).toArray ++ Builtin.zeroCells z.cells (n + 1 - i) ++ Builtin.zeroCells z.cells (G - (n + 1)) = (cs.take (i * 2) ++ Z).toArray := by
  apply Array.ext'
  rw [hZ]
  simp
 rw [hROW] at hrz
 have hpost : ∀ (v : Value) (w' : World), v = .slice (some ⟨w.heap.size, 0, none⟩) (n + 1) G -> (w'.heap = (((w.alloc (.cells (cs.take (i * 2) ++ Z).toArray 33)).setRow w.heap.size (Abs.splice (cs.take (i * 2) ++ Z) (i * 2) (vcur.toList.take 2)).toArray).setRow w.heap.size (insZ cs (vcur.toList.take 2) Z i).toArray).heap /\ w'.os = w.os /\ w'.tape = w.tape /\ w'.output = w.output) -> ∃ (G : Nat) (Z : List Value) (q : World), n + 1 <= G /\ G <= maxLen /\ Z.length = G * 2 - i * 2 /\ Ending.returned v = .returned (.slice (some ⟨w.heap.size, 0, none⟩) (n + 1) G) /\
   q.heap = (w.alloc (.cells (cs.take (i * 2) ++ Z).toArray 33)).heap /\ q.os = w.os /\ q.tape = w.tape /\ q.output = w.output /\
   w'.heap = ((q.setRow w.heap.size (Abs.splice (cs.take (i * 2) ++ Z) (i * 2) (vcur.toList.take 2)).toArray).setRow w.heap.size (insZ cs (vcur.toList.take 2) Z i).toArray).heap /\ w'.os = w.os /\ w'.tape = w.tape /\ w'.output = w.output := fun v w' hv hw => ⟨G, Z, w.alloc (.cells (cs.take (i * 2) ++ Z).toArray 33), hGn, hG63, hZl, by rw [hv], rfl, rfl, rfl, rfl, hw⟩
 obtain ⟨ROW, hR⟩ : ∃ ROW, ROW = cs.take (i * 2) ++ Z := ⟨_, rfl⟩
 have hRl : ROW.length = G * 2 := by rw [hR, List.length_append, List.length_take]; omega
 rw [<- hR] at hrz hpost
 obtain ⟨R1, hR1⟩ : ∃ R1, R1 = Abs.splice ROW (i * 2) (vcur.toList.take 2) := ⟨_, rfl⟩
 have hvl : (vcur.toList.take 2).length = 2 := by rw [List.length_take]; omega
 have hR1l : R1.length = G * 2 := by rw [hR1, Abs.splice_length (by omega), hRl]
 have hR2 : Abs.splice R1 ((i + 1) * 2) (cs.drop (i * 2)) = insZ cs (vcur.toList.take 2) Z i := by rw [hR1, hR]; rfl
 rw [<- hR1, <- hR2] at hpost
 obtain ⟨W1, hW1⟩ : ∃ W1, W1 = w.drew.alloc (.cells ROW.toArray 33) := ⟨_, rfl⟩
 have hN1 : W1.heap[w.heap.size]? = some (.cells ROW.toArray 33 (0, 0)) := by rw [hW1]; exact heap_alloc_new w.drew _
 have hg1 : W1.heap[g]? = some (.cells cur 33 (0, 0)) := by rw [hW1]; exact (heap_alloc_old w.drew _ hgw).trans hg
 have hv1 : W1.heap[vb]? = some (.cells vcur 33 (0, 0)) := by rw [hW1]; exact (heap_alloc_old w.drew _ hvw).trans hv
 have hcpA : ∀ (W : World), W.heap = W1.heap -> ∀ ty dc, (Builtin.copy_ #[28, 28] ty #[.slice (some ⟨w.heap.size, i * 2, none⟩) (n + 1 - i) dc, .slice (some ⟨vb, 0, none⟩) 1 vc]).run Tryz.prog W = .ok (.int .i64 (1 : Nat)) (W.setRow w.heap.size R1.toArray) := fun W hW ty dc => by
  rw [hR1]
  exact cpO (n := 1) (cur := ROW.toArray) ty (by rw [hW]; exact hN1) (by rw [hW]; exact hv1) (by simp only [Nat.min_def]; split <;> omega) rfl (by omega) (by show _ <= ROW.length; omega) h1v
 have hN2 : ∀ W : World, W.heap = W1.heap -> (W.setRow w.heap.size R1.toArray).heap[w.heap.size]? = some (.cells R1.toArray 33 (0, 0)) := fun W hW => setRow_heap W _ ROW.toArray _ 33 (0, 0) (by rw [hW]; exact hN1)
 have hg2 : ∀ W : World, W.heap = W1.heap -> (W.setRow w.heap.size R1.toArray).heap[g]? = some (.cells cur 33 (0, 0)) := fun W hW => by rw [setRow_old (by omega), hW]; exact hg1
 have hcpB : ∀ (W W' : World), W.heap = W1.heap -> W'.heap = (W.setRow w.heap.size R1.toArray).heap -> ∀ ty dc sc, (Builtin.copy_ #[28, 28] ty #[.slice (some ⟨w.heap.size, (i + 1) * 2, none⟩) (n - i) dc, .slice (some ⟨g, i * 2, none⟩) (n - i) sc]).run Tryz.prog W' = .ok (.int .i64 (n - i : Nat)) (W'.setRow w.heap.size (Abs.splice R1 ((i + 1) * 2) (cs.drop (i * 2))).toArray) := fun W W' hW hW' ty dc sc => by
  have hb : (cs.drop (i * 2)).length = (n - i) * 2 := by rw [List.length_drop]; omega
  exact cpO (n := n - i) (cur := R1.toArray) ty (by rw [hW']; exact hN2 W hW) (by rw [hW']; exact hg2 W hW) (by simp only [Nat.min_def]; split <;> omega) (by rw [<- hCS, List.drop_take, show n * 2 - i * 2 = (n - i) * 2 by omega]) hb (by show _ <= R1.length; omega) fun v hv => h1c v (List.mem_of_mem_drop hv)
 subst hW1
 unfold maxLen at hG63
 have hGi : ¬ (G = i) := by omega
 have hGim : ¬ (G = i + 1) := by omega
 have hci : ¬ (c = i) := by omega
 have hw1 : IntKind.i64.wrap ((i : Int) + 1) = (i : Int) + 1 := by rw [IntKind.wrap_i64]; omega
 have hb1 : (0 : Int) <= (i : Int) + 1 := by omega
 have htn : ((i : Int) + 1).toNat = i + 1 := by omega
 have hb3 : (i : Int) + 1 <= (n : Int) + 1 := by omega
 have hb5 : (i : Int) <= (n : Int) + 1 := by omega
 have hb6 : (i : Int) <= (n : Int) := by omega
 have hb7 : n + 1 - (i + 1) = n - i := by omega
 clear hkk hik hold hROW hRl hR1l hR2 hZ hzl hvl hR1 hR
 have hcpA' : ∀ ty dc, (Builtin.copy_ #[28, 28] ty #[.slice (some ⟨w.heap.size, i * 2, none⟩) (n + 1 - i) dc, .slice (some ⟨vb, 0, none⟩) 1 vc]).run Tryz.prog ((w.alloc (.cells ROW.toArray 33)).drew) = .ok (.int .i64 (1 : Nat)) ((w.alloc (.cells ROW.toArray 33)).drew.setRow w.heap.size R1.toArray) := hcpA _ rfl
 have hcpB' : ∀ ty dc sc, (Builtin.copy_ #[28, 28] ty #[.slice (some ⟨w.heap.size, (i + 1) * 2, none⟩) (n - i) dc, .slice (some ⟨g, i * 2, none⟩) (n - i) sc]).run Tryz.prog (((w.alloc (.cells ROW.toArray 33)).drew.setRow w.heap.size R1.toArray).drew) = .ok (.int .i64 (n - i : Nat)) (((w.alloc (.cells ROW.toArray 33)).drew.setRow w.heap.size R1.toArray).drew.setRow w.heap.size (Abs.splice R1 ((i + 1) * 2) (cs.drop (i * 2))).toArray) := hcpB _ _ rfl rfl
 clear hcpA hcpB
 go_enter Tryz.func17, Tryz.ntmps17
 go_wp2_with (at_builtin; refine Lib.wpList_append_run _ rfl _ _ _ _ rfl _ _ rfl rfl _ _ (hrz _) ?_)
 go_region_law_o (refine step_copy_runI rfl _ _ 28 28 rfl _ _ (by simp [Act.eval, Act.put]) (by simp [Act.eval, Act.put]) (hcpB' _ _ _) ?_)
 go_wp2
 go_ret
 exact hpost _ _ rfl ⟨rfl, rfl, rfl, rfl⟩
set_option maxHeartbeats 4000000 in
theorem delO_room (g n c i : Nat) (cur : Array Value) (w : World) (hi : i < n) (hnc : n <= c) (hc63 : c <= 9223372036854775807) (hg : w.heap[g]? = some (.cells cur 33 (0, 0))) (hcs : cur.size = c * 2)
  (h1c : ∀ v ∈ cur.toList.take (n * 2), v.oneCell' = true) :
  Calls Tryz.prog 80 #[.slice (some ⟨g, 0, none⟩) n c, .int .i64 i, .int .i64 ((i : Int) + 1)] w fun e w' => ∃ (zs : List Value) (q : World), zs.length = 2 /\ e = .returned (.slice (some ⟨g, 0, none⟩) (n - 1) c) /\
   q.heap = w.heap /\ q.os = w.os /\ q.tape = w.tape /\ q.output = w.output /\ w' = (q.setRow g (delA cur.toList n i).toArray).setRow g (Abs.splice (delA cur.toList n i) ((n - 1) * 2) zs).toArray := by
 have mixed : Tryz.prog.follows .mixedOrders = true := by kernel_rfl
 obtain ⟨i0, z, hi0, hz0, hzz, hz3, hz4⟩ := infoO
 have hc2 : cur.toList.length = cur.size := Array.length_toList
 have hdl : ((cur.toList.take (n * 2)).drop ((i + 1) * 2)).length = (n - (i + 1)) * 2 := by rw [List.length_drop, List.length_take]; omega
 obtain ⟨A, hA, hsrc⟩ : ∃ A : Addr, (if c = i + 1 then some (⟨g, 0, none⟩ : Addr) else some ⟨g, (i + 1) * 2, none⟩) = some A /\ (∀ t u, ((cur.toList.take (n * 2)).drop ((i + 1) * 2))[t]? = some u -> w.drew.cell? (A.add t) = some u) := by
  by_cases h : c = i + 1
  ·refine ⟨⟨g, 0, none⟩, by simp [h], fun t u hu => ?_⟩
   have h0 : ((cur.toList.take (n * 2)).drop ((i + 1) * 2)) = [] := List.eq_nil_of_length_eq_zero (by omega)
   rw [h0] at hu
   simp at hu
  ·refine ⟨⟨g, (i + 1) * 2, none⟩, by simp [h], fun t u hu => ?_⟩
   rw [Abs.add_lit, cell_heap (w := w.drew) hg]
   rw [List.getElem?_drop, List.getElem?_take] at hu
   split at hu
   ·rwa [Array.getElem?_toList] at hu
   ·cases hu
 have hap : ∀ ty sc, (Builtin.append_ #[28, 28] ty #[.slice (some ⟨g, 0, none⟩) i c, .slice (some A) (n - (i + 1)) sc]).run Tryz.prog w.drew = .ok (.slice (some ⟨g, 0, none⟩) (n - 1) c) (w.drew.setRow g (delA cur.toList n i).toArray) := fun ty sc => by
  have h := run_append_room (P := Tryz.prog) w.drew 28 ty 33 i0 Tryz.underlying28 hi0 g i c cur hg A (n - (i + 1)) sc ((cur.toList.take (n * 2)).drop ((i + 1) * 2)) (by rw [hz0]; exact hdl) hsrc (fun v hv => h1c v (List.mem_of_mem_drop hv)) (by omega) (by rw [hz0]; omega)
  rw [hz0, show i + (n - (i + 1)) = n - 1 by omega] at h
  exact h
 obtain ⟨W1, hW1⟩ : ∃ W1, W1 = w.drew.setRow g (delA cur.toList n i).toArray := ⟨_, rfl⟩
 have h1 : i * 2 + ((cur.toList.take (n * 2)).drop ((i + 1) * 2)).length <= cur.toList.length := by omega
 have hgA : W1.heap[g]? = some (.cells (delA cur.toList n i).toArray 33 (0, 0)) := by rw [hW1]; exact setRow_heap w.drew g cur _ 33 (0, 0) hg
 have hzl : (Builtin.zeroCells z.cells 1).toList.length = 2 := by simp [Builtin.zeroCells, hz3]
 have hzo : ∀ v ∈ z.cells, v.oneCell' = true := oneO hi0 hzz
 have hcl : ∀ ty cc, (Builtin.clear_ #[28] ty #[.slice (some ⟨g, (n - 1) * 2, none⟩) 1 cc]).run Tryz.prog W1 = .ok (.tuple #[]) (W1.setRow g (Abs.splice (delA cur.toList n i) ((n - 1) * 2) (Builtin.zeroCells z.cells 1).toList).toArray) := fun ty cc =>
  Abs.run_clearN (P := Tryz.prog) 28 33 i0 ty z g ((n - 1) * 2) 1 cc (delA cur.toList n i).toArray 33 Tryz.underlying28 hi0 hzz (by rw [hz3, hz0]) hgA (by omega) (by rw [hz0]; show _ <= (delA cur.toList n i).length; rw [delA, Abs.splice_length h1]; omega) hzo
 rw [<- hW1] at hap
 have hpost : ∀ (v : Value) (w' : World), v = .slice (some ⟨g, 0, none⟩) (n - 1) c -> w' = W1.setRow g (Abs.splice (delA cur.toList n i) ((n - 1) * 2) (Builtin.zeroCells z.cells 1).toList).toArray -> ∃ (zs : List Value) (q : World), zs.length = 2 /\ Ending.returned v = .returned (.slice (some ⟨g, 0, none⟩) (n - 1) c) /\
   q.heap = w.heap /\ q.os = w.os /\ q.tape = w.tape /\ q.output = w.output /\ w' = (q.setRow g (delA cur.toList n i).toArray).setRow g (Abs.splice (delA cur.toList n i) ((n - 1) * 2) zs).toArray := fun v w' hv hw => ⟨_, w.drew, hzl, by rw [hv], rfl, rfl, rfl, rfl, by rw [hw, hW1]⟩
 have hq1 : ((i : Int) == (i : Int) + 1) = false := by rw [beq_eq_false_iff_ne]; omega
 have hq2 : ¬ ((i : Int) = (i : Int) + 1) := by omega
 have hw1 : IntKind.i64.wrap ((i : Int) + 1) = (i : Int) + 1 := by rw [IntKind.wrap_i64]; omega
 have hb1 : (0 : Int) <= (i : Int) + 1 := by omega
 have hb2 : (i : Int) <= (i : Int) + 1 := by omega
 have htn : ((i : Int) + 1).toNat = i + 1 := by omega
 have hb3 : (i : Int) + 1 <= (n : Int) := by omega
 have hb6 : (i : Int) <= (n : Int) := by omega
 have hb8 : (n : Int) <= (c : Int) := by omega
 have hb9 : (i : Int) <= (c : Int) := by omega
 have hb4 : ¬ (c = n - 1) := by omega
 have hb5 : n - (n - 1) = 1 := by omega
 have hb7 : ((n - 1 : Nat) : Int) <= (n : Int) := by omega
 generalize (Builtin.zeroCells z.cells 1).toList = ZL at hcl hpost hzl
 clear hW1 hgA hsrc
 go_enter Tryz.func80, Tryz.ntmps80
 go_wp2_with fail
 go_region_law_o (refine step_append_runI rfl _ _ 28 28 rfl (.slice (some ⟨g, 0, none⟩) i c) (.slice (some A) (n - (i + 1)) (c - (i + 1))) (by simp [Act.eval, Act.put]) (by simp [Act.eval, Act.put, hA]) (hap _ _) ?_)
 go_wp2
 go_ret
 exact hpost _ _ rfl rfl
theorem insO_all (mv : Value) (n i vb vc : Nat) (us : List Value) (vcur : Array Value) (w : World) (ho : w.ownsRow 0 33 2 mv n us) (hi : i <= n) (hn : n <= 100000) (hvb : ∀ b, mv.ownBlock = some b -> vb ≠ b) (hv : w.heap[vb]? = some (.cells vcur 33 (0, 0))) (hvs : 2 <= vcur.size) (h1c : ∀ v ∈ us, v.oneCell' = true) (h1v : ∀ v ∈ vcur.toList.take 2, v.oneCell' = true) :
  Calls Tryz.prog 17 #[mv, .int .i64 i, .slice (some ⟨vb, 0, none⟩) 1 vc] w fun e w' => ∃ v', e = .returned v' /\ w'.ownsRow 0 33 2 v' (n + 1) (us.take (i * 2) ++ vcur.toList.take 2 ++ us.drop (i * 2)) /\ w.grownBy w' mv.ownBlock /\ ∀ b, v'.ownBlock = some b -> mv.ownBlock = some b \/ w.heap.size <= b := by
 have hul := ho.1
 rcases Nat.lt_or_ge i n with hlt | hge
 ·rcases ho.2 with ⟨_, h0⟩ | ⟨g, cap, cur, rfl, _, hg, hnc, hcm, hcs, htk⟩
  ·omega
  ·have h1c' : ∀ v ∈ cur.toList.take (n * 2), v.oneCell' = true := by rw [htk]; exact h1c
   have hcm' := hcm
   unfold maxLen at hcm'
   have hvl : (vcur.toList.take 2).length = 2 := by rw [List.length_take, Array.length_toList]; omega
   have hbb : vb ≠ g := hvb g rfl
   have hcl : cur.toList.length = cap * 2 := by rw [Array.length_toList]; exact hcs
   rcases Nat.lt_or_ge cap (n + 1) with hr | hr
   ·refine (insO_grow g n cap i vb vc cur vcur w hlt hnc hr hn hbb hg hcs hv hvs h1c' h1v).mono ?_
    rintro e w' ⟨G, Z, q, hG1, hG2, hZ, rfl, hq, hq1, hq2, hq3, hw, hw1, hw2, hw3⟩
    rw [htk] at hq hw
    have hN : q.heap[w.heap.size]? = some (.cells (us.take (i * 2) ++ Z).toArray 33 (0, 0)) := by rw [hq]; exact heap_alloc_new w _
    refine ⟨_, rfl, ⟨?_, .inr ⟨w.heap.size, G, _, rfl, Nat.zero_le _, ?_, hG1, hG2, ?_, insZ_take (z := Z) (n := n) hi hul hvl (by omega)⟩⟩, ⟨hw1, hw2, hw3, ?_, fun k hk hne => ?_⟩, fun b hb => .inr ?_⟩
    ·rw [List.length_append, List.length_append, List.length_take, List.length_drop, hvl]; omega
    ·rw [hw]
     exact setRow_heap _ _ _ _ 33 (0, 0) (setRow_heap q _ _ _ 33 (0, 0) hN)
    ·show (insZ us (vcur.toList.take 2) Z i).length = _
     have h5 : (us.take (i * 2) ++ Z).length = G * 2 := by rw [List.length_append, List.length_take]; omega
     unfold insZ
     have h7 : i * 2 + (vcur.toList.take 2).length <= (us.take (i * 2) ++ Z).length := by omega
     have h8 : (i + 1) * 2 + (us.drop (i * 2)).length <= (Abs.splice (us.take (i * 2) ++ Z) (i * 2) (vcur.toList.take 2)).length := by rw [Abs.splice_length h7, List.length_drop]; omega
     rw [Abs.splice_length h8, Abs.splice_length h7, h5]
    ·rw [hw]; simp [hq]
    ·rw [hw, setRow_old (by omega), setRow_old (by omega), hq]
     exact heap_alloc_old w _ hk
    ·have : w.heap.size = b := by simpa [Value.ownBlock] using hb
     omega
   ·refine (insO_shift g n cap i vb vc cur vcur w hlt hr hcm' hbb hg hcs hv hvs h1c' h1v).mono ?_
    rintro e w' ⟨rfl, q, hq, hq1, hq2, hq3, rfl⟩
    have h5 : (i + 1) * 2 + ((cur.toList.take (n * 2)).drop (i * 2)).length <= cur.toList.length := by rw [List.length_drop, List.length_take]; omega
    have h6 : i * 2 + (vcur.toList.take 2).length <= (insA cur.toList n i).length := by rw [insA, Abs.splice_length h5]; omega
    refine ⟨_, rfl, ⟨?_, .inr ⟨g, cap, _, rfl, Nat.zero_le _, heap_rows hq hg, hr, hcm, ?_, ?_⟩⟩, grown_rows hq hq1 hq2 hq3, fun b hb => .inl hb⟩
    ·rw [List.length_append, List.length_append, List.length_take, List.length_drop, hvl]; omega
    ·show (Abs.splice _ _ _).length = _
     rw [Abs.splice_length h6, insA, Abs.splice_length h5, hcl]
    ·have := ins_take (i := i) (c := cap) hi hr hcl hvl
     rw [htk] at this
     exact this
 ·obtain rfl : i = n := by omega
  refine (insO_end mv i vb vc us vcur w ho hn hv hvs h1v).mono ?_
  rintro e w' ⟨v', rfl, h1, h2, h3⟩
  refine ⟨v', rfl, ?_, h2, fun b hb => h3.imp (fun h => h.symm.trans hb) fun h => ?_⟩
  ·rw [List.take_of_length_le (by omega), List.drop_of_length_le (by omega), List.append_nil]; exact h1
  ·rw [h] at hb; injection hb with hb; omega
theorem insO_call (nl nb : Bool) (xs : List PV) (y : PV) (i : Nat) (hi : i <= xs.length) (hl : xs.length <= 100000) : ACall Tryz.prog 17 [.buf 0, .p (pI i), .buf 1] [some (AO.buf 33 nl xs), some (AO.buf 33 nb [y])] fun r H => r = .buf 2 /\ H = [none, some (AO.buf 33 nb [y]), some (AO.buf 33 false (xs.take i ++ y :: xs.drop i))] := by
 refine ⟨⟨_, Tryz.func17, rfl, rfl⟩, fun m S w vals hp hs hr => ?_⟩
 have hl0 : live [some (AO.buf 33 nl xs), some (AO.buf 33 nb [y])] 0 (.buf 33 nl xs) := rfl
 have hl1 : live [some (AO.buf 33 nl xs), some (AO.buf 33 nb [y])] 1 (.buf 33 nb [y]) := rfl
 have h0 := rd_buf (hr 0 _ rfl) hl0
 have h1 : vals.getD 1 undef = .int .i64 i := (hr 1 _ rfl).pv.1
 have h2 := rd_buf (hr 2 _ rfl) hl1
 rw [three_val hs, h0, h1, h2]
 obtain ⟨inf, z, hinf, hz2, _⟩ := infoO
 obtain ⟨us, ho, hp0, hz⟩ := okb_pt hinf hz2 (hp.obj 0 _ hl0)
 obtain ⟨vs, ho1, hp1, hzy⟩ := okb_pt hinf hz2 (hp.obj 1 _ hl1)
 have hyz := hzy y (List.mem_cons_self ..)
 rcases ho1.2 with ⟨_, h5⟩ | ⟨vb, vc, vcur, hv1, _, hv, hvn, _, hvcs, hvtk⟩
 ·simp at h5
 rw [hv1]
 have hvtk2 : vcur.toList.take 2 = vs := by simpa using hvtk
 have hbb : ∀ b, (m 0).ownBlock = some b -> vb ≠ b := fun b hb e => by
  subst e
  have := hp.inj 0 1 _ _ vb hl0 hl1 (.inl hb) (.inl (by show (m 1).ownBlock = _; rw [hv1]; rfl))
  cases this
 have hvn' : 1 <= vc := hvn
 refine (insO_all (m 0) xs.length i vb vc us vcur w ho hi hl hbb hv (by omega) hp0.one (by rw [hvtk2]; exact hp1.one)).mono ?_
 rintro e w' ⟨v', rfl, ho', hg', hat⟩
 rw [hvtk2] at ho'
 have hlen : (xs.take i ++ y :: xs.drop i).length = xs.length + 1 := by rw [List.length_append, List.length_cons, List.length_take, List.length_drop]; omega
 have hfy : flat [y] = y.cells := by simp [flat]
 have hfl : flat (xs.take i ++ y :: xs.drop i) = (flat xs).take (i * 2) ++ y.cells ++ (flat xs).drop (i * 2) := by
  obtain ⟨e1, e2⟩ := flat_take hz i hi
  rw [flat_append, show y :: xs.drop i = [y] ++ xs.drop i from rfl, flat_append, e1, e2, hfy, List.append_assoc]
 rw [hfy] at hp1
 have hn0 : v' ≠ .slice none 0 0 := fun h => by
  rcases ho'.2 with ⟨_, h6⟩ | ⟨g, c, _, h6, _⟩
  ·omega
  ·rw [h6] at h; cases h
 obtain ⟨hS, hR⟩ := stp_renew (v' := v') (nl' := false) (zs := xs.take i ++ y :: xs.drop i) hp (.inr ⟨0, rfl, hl0, rfl⟩) (fun hk => okb_of_pt hinf hz2 (by rw [hlen]; exact ho') (by rw [hfl]; exact (((hp0.take _).app hp1).app (hp0.drop _)).mono hk) (fun x hx => by
  rcases List.mem_append.1 hx with hx | hx
  ·exact hz x (List.mem_of_mem_take hx)
  ·rcases List.mem_cons.1 hx with rfl | hx
   ·exact hyz
   ·exact hz x (List.mem_of_mem_drop hx)) ⟨fun h => (by cases h), fun h => absurd h hn0⟩) hg' hat
 exact ⟨_, .buf 2, _, _, S, rfl, ⟨rfl, rfl⟩, hS, hR⟩
theorem delO_call (nl : Bool) (xs : List PV) (i : Nat) (hi : i < xs.length) (hl : xs.length <= 100000) : ACall Tryz.prog 80 [.buf 0, .p (pI i), .p (pI ((i : Int) + 1))] [some (AO.buf 33 nl xs)] fun r H => r = .buf 1 /\ H = [none, some (AO.buf 33 false (xs.take i ++ xs.drop (i + 1)))] := by
 refine ⟨⟨_, Tryz.func80, rfl, rfl⟩, fun m S w vals hp hs hr => ?_⟩
 have hl0 : live [some (AO.buf 33 nl xs)] 0 (.buf 33 nl xs) := rfl
 have h0 := rd_buf (hr 0 _ rfl) hl0
 have h1 : vals.getD 1 undef = .int .i64 i := (hr 1 _ rfl).pv.1
 have h2 : vals.getD 2 undef = .int .i64 ((i : Int) + 1) := (hr 2 _ rfl).pv.1
 rw [three_val hs, h0, h1, h2]
 obtain ⟨inf, z, hinf, hz2, _⟩ := infoO
 obtain ⟨us, ho, hp0, hz⟩ := okb_pt hinf hz2 (hp.obj 0 _ hl0)
 rcases ho.2 with ⟨_, h5⟩ | ⟨g, cap, cur, hm0, _, hg, hnc, hcm, hcs, htk⟩
 ·omega
 rw [hm0]
 have hcm' := hcm
 unfold maxLen at hcm'
 have hcl : cur.toList.length = cap * 2 := by rw [Array.length_toList]; exact hcs
 refine (delO_room g xs.length cap i cur w hi hnc hcm' hg hcs (by rw [htk]; exact hp0.one)).mono ?_
 rintro e w' ⟨zs, q, hzs, rfl, hq, hq1, hq2, hq3, rfl⟩
 have hlen : (xs.take i ++ xs.drop (i + 1)).length = xs.length - 1 := by rw [List.length_append, List.length_take, List.length_drop]; omega
 have hfl : flat (xs.take i ++ xs.drop (i + 1)) = (flat xs).take (i * 2) ++ (flat xs).drop ((i + 1) * 2) := by rw [flat_append, (flat_take hz i (by omega)).1, (flat_take hz (i + 1) (by omega)).2]
 have h5 : i * 2 + ((cur.toList.take (xs.length * 2)).drop ((i + 1) * 2)).length <= cur.toList.length := by rw [List.length_drop, List.length_take]; omega
 have h6 : (xs.length - 1) * 2 + zs.length <= (delA cur.toList xs.length i).length := by rw [delA, Abs.splice_length h5]; omega
 have hul := ho.1
 have ho' : ((q.setRow g (delA cur.toList xs.length i).toArray).setRow g (Abs.splice (delA cur.toList xs.length i) ((xs.length - 1) * 2) zs).toArray).ownsRow 0 33 2 (.slice (some ⟨g, 0, none⟩) (xs.length - 1) cap) (xs.length - 1) (us.take (i * 2) ++ us.drop ((i + 1) * 2)) := by
  refine ⟨?_, .inr ⟨g, cap, _, rfl, Nat.zero_le _, heap_rows hq hg, by omega, hcm, ?_, ?_⟩⟩
  ·rw [List.length_append, List.length_take, List.length_drop]; omega
  ·show (Abs.splice _ _ _).length = _
   rw [Abs.splice_length h6, delA, Abs.splice_length h5, hcl]
  ·have := del_take hi hnc hcl hzs
   rw [htk] at this
   exact this
 obtain ⟨hS, hR⟩ := stp_renew (v' := .slice (some ⟨g, 0, none⟩) (xs.length - 1) cap) (nl' := false) (zs := xs.take i ++ xs.drop (i + 1)) hp (.inr ⟨0, rfl, hl0, rfl⟩) (fun hk => okb_of_pt hinf hz2 (by rw [hlen]; exact ho') (by rw [hfl]; exact ((hp0.take _).app (hp0.drop _)).mono hk) (fun x hx => by
  rcases List.mem_append.1 hx with hx | hx
  ·exact hz x (List.mem_of_mem_take hx)
  ·exact hz x (List.mem_of_mem_drop hx)) (by simp)) (by rw [hm0]; exact grown_rows hq hq1 hq2 hq3) (fun b hb => .inl (by rw [hm0]; exact hb))
 exact ⟨_, .buf 1, _, _, S, rfl, ⟨rfl, rfl⟩, hS, hR⟩
end Go.Proofs.YtnhifaofkndclaaGreatDoor
