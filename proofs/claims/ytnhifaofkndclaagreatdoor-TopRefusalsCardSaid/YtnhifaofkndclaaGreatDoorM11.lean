/- For TopRefusals: part 11 of 15. -/
import Derived.Test.YtnhifaofkndclaaGreatDoorM10
set_option linter.unusedSimpArgs false
set_option linter.unusedVariables false
set_option linter.unnecessarySimpa false
set_option maxHeartbeats 8000000
namespace Go.Proofs.YtnhifaofkndclaaGreatDoor
open Go.Abs
set_option maxRecDepth 100000
def addE (es : List Ed) : List ByteArray := (es.filter fun x => decide (x.k = 1)).map Ed.p
theorem addPs_take (os : List Ov) {c : Nat} (hc : c < os.length) : addPs (os.take (c + 1)) = addPs (os.take c) ++ addE os[c].es := by
 unfold addPs
 rw [List.take_succ_eq_append_getElem hc, List.flatMap_append]
 simp [addE]
theorem addE_take (es : List Ed) {d : Nat} (hd : d < es.length) : addE (es.take (d + 1)) = addE (es.take d) ++ (if es[d].k = 1 then [es[d].p] else []) := by
 unfold addE
 rw [List.take_succ_eq_append_getElem hd, List.filter_append, List.map_append]
 by_cases h : es[d].k = 1
 ·rw [if_pos h, List.filter_cons_of_pos (by simpa using h)]; rfl
 ·rw [if_neg h, List.filter_cons_of_neg (by simpa using h)]; rfl
theorem addE_len (es : List Ed) : (addE es).length <= es.length := by
 unfold addE; rw [List.length_map]; exact List.length_filter_le _ _
theorem addPs_lenM : ∀ (os : List Ov), (∀ o ∈ os, Mo o) -> (addPs os).length <= 1000 * os.length
 | [], _ => by simp [addPs]
 | o :: os, h => by
  have h1 := addPs_lenM os fun o h' => h o (List.mem_cons_of_mem _ h')
  have h2 := (h o (List.mem_cons_self ..)).l
  have h3 := addE_len o.es
  show (addE o.es ++ addPs os).length <= _
  rw [List.length_append, List.length_cons]; omega
theorem added_call (no : Bool) (os : List Ov) (ho : ∀ o ∈ os, Mo o) (hl : os.length <= 16) : ACall Tryz.prog 29 [.p (.list no (os.map Ov.pv))] [] fun r H => r = .p (.list (addPs os).isEmpty ((addR os).map pS)) /\ H = [] := by
 refine acall_enter Tryz.func29 rfl rfl tabOK rfl ?_
 have hb := addPs_lenM os ho
 refine' y8bcb
 refine loop_rule (fun (⟨c, nb, xs⟩ : Nat × Bool × List ByteArray) => ⟨[(3, .buf 0), (8, .p (.list no (os.map Ov.pv))), (9, .p (pI os.length)), (10, .p (pI c))], [some (AO.buf 9 nb (xs.map pS))]⟩) (fun ⟨c, nb, xs⟩ => c <= os.length /\ xs = addPs (os.take c) /\ nb = xs.isEmpty) (fun ⟨c, nb, xs⟩ => os.length - c) (0, true, []) ?_ ?_ ?_; (refine SubA.auto1 (9, 3) rfl rfl rfl rfl rfl ?_ ?_ <;> refine' fin_)
 ·exact ⟨by omega, rfl, rfl⟩
 rintro ⟨c, nb, xs⟩ ⟨hc, hx, hnb⟩
 try simp only at hc hx hnb
 rcases Nat.lt_or_ge c os.length with hlt | hge
 ·have hm := ho _ (List.getElem_mem hlt)
  have hml := hm.l
  have hxl : xs.length <= 16000 := by
   rw [hx]
   have := addPs_lenM (os.take c) fun o h => ho o (List.mem_of_mem_take h)
   rw [List.length_take] at this; omega
  refine' y8bcb
  refine loop_rule (fun (⟨d, nb, xs⟩ : Nat × Bool × List ByteArray) => ⟨[(3, .buf 0), (8, .p (.list no (os.map Ov.pv))), (9, .p (pI os.length)), (10, .p (pI c)), (15, .p (.list os[c].nl (os[c].es.map Ed.pv))), (16, .p (pI os[c].es.length)), (17, .p (pI d))], [some (AO.buf 9 nb (xs.map pS))]⟩) (fun ⟨d, nb, xs⟩ => d <= os[c].es.length /\ xs = addPs (os.take c) ++ addE (os[c].es.take d) /\ nb = xs.isEmpty) (fun ⟨d, nb, xs⟩ => os[c].es.length - d) (0, nb, xs) ?_ ?_ ?_; (refine SubA.auto rfl rfl rfl rfl ?_ ?_ <;> refine' fin_)
  ·exact ⟨by omega, by rw [hx]; simp [addE], hnb⟩
  clear hx hnb
  rintro ⟨d, nb, xs⟩ ⟨hd, hx, hnb⟩
  try simp only at hd hx hnb
  have hxl : xs.length <= 17000 := by
   rw [hx, List.length_append]
   have h1 := addPs_lenM (os.take c) fun o h => ho o (List.mem_of_mem_take h)
   have h2 := addE_len (os[c].es.take d)
   rw [List.length_take] at h1 h2; omega
  rcases Nat.lt_or_ge d os[c].es.length with hdl | hdg
  ·have hs := addE_take os[c].es hdl
   by_cases hk : os[c].es[d].k = 1
   ·rw [if_pos hk] at hs
    refine' y8bcb
    (refine' ⟨(d + 1, _, _), _, _, _⟩; rotate_right; (refine SubA.auto rfl rfl rfl rfl ?_ ?_ <;> refine' fin_); rotate_right; exact ar2_)
    refine ⟨by omega, ?_, ?_⟩
    ·show xs ++ [os[c].es[d].p] = _
     rw [hs, hx, List.append_assoc]
    ·simp
   ·rw [if_neg hk, List.append_nil] at hs
    refine' y8bcb
    (refine' ⟨(d + 1, _, _), _, _, _⟩; rotate_right; (refine SubA.auto rfl rfl rfl rfl ?_ ?_ <;> refine' fin_); rotate_right; exact ar2_)
    exact ⟨by omega, by rw [hs]; exact hx, hnb⟩
  ·obtain rfl : d = os[c].es.length := by omega
   refine' y8bcb
   (refine' ⟨(c + 1, _, _), _, _, _⟩; rotate_right; (refine SubA.auto rfl rfl rfl rfl ?_ ?_ <;> refine' fin_); rotate_right; exact ar2_)
   refine ⟨by omega, ?_, hnb⟩
   show xs = _
   rw [addPs_take os hlt, hx, List.take_length]
 ·obtain rfl : c = os.length := by omega
  rw [List.take_length] at hx
  rw [<- hx, <- hnb]
  have hxl : xs.length <= 16000 := by rw [hx]; omega
  refine' y8bcb
  refine CallA.all ((SortS_call nb xs (by omega)).mono ?_)
  rintro _ _ ⟨rfl, rfl⟩
  have hsl : (sortS xs).length = xs.length := by simp [sortS, sortB_len]
  rcases Nat.eq_zero_or_pos xs.length with h0 | h0
  ·have hx0 : xs = [] := List.eq_nil_of_length_eq_zero h0
   have hn : nb = true := by rw [hnb, hx0]; rfl
   have e1 : sortS xs = [] := List.eq_nil_of_length_eq_zero (by omega)
   have e2 : addR os = [] := by unfold addR; rw [<- hx, e1]; rfl
   rw [e1, e2, hn]
   refine' y8bcb
   refine CallA.all ((CompactS_nil true).mono ?_)
   rintro _ _ ⟨rfl, rfl⟩
   refine' y8bcb
   (refine RetK.frz _ _ _ [0] ?_; refine' RetK.auto (.p (.list true [])) ([]) rfl rfl rfl rfl _ _ _ <;> refine' fin_)
  ·have hn : nb = false := by rw [hnb]; cases xs with
    | nil => simp at h0
    | cons => rfl
   rw [hn]
   refine' y8bcb
   refine CallA.all ((CompactS_call false (sortS xs) (by omega) (by omega)).mono ?_)
   rintro _ _ ⟨rfl, rfl⟩
   have e2 : cmpS (sortS xs) = addR os := by unfold addR; rw [<- hx]
   rw [e2]
   refine' y8bcb
   (refine RetK.frz _ _ _ [1] ?_; refine' RetK.auto (.p (.list false ((addR os).map pS))) ([]) rfl rfl rfl rfl _ _ _ <;> refine' fin_)
open Go.Abs
set_option maxRecDepth 100000
section
variable {P : Program} {S : Nat -> Prop} {w : World}
theorem rdp_none {nl : Bool} {xs : List PV} {v : Value} (h : RdP S w (.list nl xs) v) : nl = true -> xs = [] := fun e => by
 cases h with
 | nil => rfl
 | list => cases e
theorem rdp_elem {nl : Bool} {xs : List PV} {v : Value} (h : RdP S w (.list nl xs) v) {x : PV} (hx : x ∈ xs) {c : PV} (hc : c ∈ x.cells) : ∃ u, RdP S w c u := by
 cases h with
 | nil => cases hx
 | list _ a cap sz us hS hcp hm hz hu hr =>
  have hf : c ∈ flat xs := List.mem_flatMap.2 ⟨x, hx, hc⟩
  obtain ⟨k, hk, e⟩ := List.getElem_of_mem hf
  exact ⟨us k, hr k c (by rw [List.getElem?_eq_getElem hk, e])⟩
theorem acall_known {f : FuncId} {args : List AV} {H : AH} {K : AV -> AH -> Prop} {fact : Prop} (en : ∃ fn, P.funcs[f]? = some fn /\ fn.body.isSome = true /\ (fn.name == "runtime.NumGoroutine") = false)
  (hf : ∀ (m : Nat -> Value) (S : Nat -> Prop) (w : World) (vals : Array Value), (∀ (j : Nat) (x : AV), args[j]? = some x -> Rd P H m S w x (vals.getD j undef)) -> fact) (h : fact -> ACall P f args H K) : ACall P f args H K :=
 ⟨en, fun m S w vals hp hl hr => (h (hf m S w vals hr)).calls m S w vals hp hl hr⟩
end
def OvNl (no : Bool) (os : List Ov) : Prop := (no = true -> os = []) /\ ∀ o ∈ os, o.nl = true -> o.es = []
theorem OvNl.of {S : Nat -> Prop} {w : World} {no : Bool} {os : List Ov} {v : Value} (h : RdP S w (.list no (os.map Ov.pv)) v) : OvNl no os := by
 refine ⟨fun e => List.map_eq_nil_iff.1 (rdp_none h e), fun o ho e => ?_⟩
 obtain ⟨u, hu⟩ := rdp_elem h (List.mem_map_of_mem ho) (c := .list o.nl (o.es.map Ed.pv)) (List.mem_cons_of_mem _ (List.mem_singleton.2 rfl))
 exact List.map_eq_nil_iff.1 (rdp_none hu e)
def NdNl (nl : Bool) (ns : List Nd) : Prop := (nl = true -> ns = []) /\ ∀ n ∈ ns, n.nl = true -> n.ps = []
theorem NdNl.of {S : Nat -> Prop} {w : World} {nl : Bool} {ns : List Nd} {v : Value} (h : RdP S w (.list nl (ns.map Nd.pv)) v) : NdNl nl ns := by
 refine ⟨fun e => List.map_eq_nil_iff.1 (rdp_none h e), fun n hn e => ?_⟩
 obtain ⟨u, hu⟩ := rdp_elem h (List.mem_map_of_mem hn) (c := .list n.nl (n.ps.map Pr.pv)) (List.mem_cons_of_mem _ (List.mem_cons_of_mem _ (List.mem_singleton.2 rfl)))
 exact List.map_eq_nil_iff.1 (rdp_none hu e)
theorem cloneO_call (no : Bool) (os : List Ov) (hn : no = true -> os = []) (hl : os.length <= 1000) : ACall Tryz.prog 18 [.p (.list no (os.map Ov.pv))] [] fun r H => r = .buf 0 /\ H = [some (AO.buf 33 no (os.map Ov.pv))] := by
 refine acall_enter Tryz.func18 rfl rfl tabOK rfl ?_
 cases no with
 | true =>
  obtain rfl := hn rfl
  refine' y8bcb
  refine RetK.nil (e := 33) rfl ?_
  (refine' RetK.auto (.buf 0) ([some (AO.buf 33 true (([] : List Ov).map Ov.pv))]) rfl rfl rfl rfl _ _ _ <;> refine' fin_)
 | false =>
  cases os with
  | nil =>
   refine' y8bcb
   (refine' RetK.auto (.buf 0) ([some (AO.buf 33 false (([] : List Ov).map Ov.pv))]) rfl rfl rfl rfl _ _ _ <;> refine' fin_)
  | cons p r =>
   refine' y8bcb
   (refine' RetK.auto (.buf 0) ([some (AO.buf 33 false ((p :: r).map Ov.pv))]) rfl rfl rfl rfl _ _ _ <;> refine' fin_)
theorem cloneP_call (nl : Bool) (ps : List Pr) (hn : nl = true -> ps = []) (hl : ps.length <= 1000) : ACall Tryz.prog 115 [.p (.list nl (ps.map Pr.pv))] [] fun r H => r = .buf 0 /\ H = [some (AO.buf 79 nl (ps.map Pr.pv))] := by
 refine acall_enter Tryz.func115 rfl rfl tabOK rfl ?_
 cases nl with
 | true =>
  obtain rfl := hn rfl
  refine' y8bcb
  refine RetK.nil (e := 79) rfl ?_
  (refine' RetK.auto (.buf 0) ([some (AO.buf 79 true (([] : List Pr).map Pr.pv))]) rfl rfl rfl rfl _ _ _ <;> refine' fin_)
 | false =>
  cases ps with
  | nil =>
   refine' y8bcb
   (refine' RetK.auto (.buf 0) ([some (AO.buf 79 false (([] : List Pr).map Pr.pv))]) rfl rfl rfl rfl _ _ _ <;> refine' fin_)
  | cons p r =>
   refine' y8bcb
   (refine' RetK.auto (.buf 0) ([some (AO.buf 79 false ((p :: r).map Pr.pv))]) rfl rfl rfl rfl _ _ _ <;> refine' fin_)
theorem cloneE_call (nl : Bool) (es : List Ed) (hn : nl = true -> es = []) (hl : es.length <= 1000) : ACall Tryz.prog 46 [.p (.list nl (es.map Ed.pv))] [] fun r H => r = .p (.list nl (es.map Ed.pv)) /\ H = [] := by
 refine acall_enter Tryz.func46 rfl rfl tabOK rfl ?_
 cases nl with
 | true =>
  obtain rfl := hn rfl
  refine' y8bcb
  (refine' RetK.auto (.p (.list true [])) ([]) rfl rfl rfl rfl _ _ _ <;> refine' fin_)
 | false =>
  cases es with
  | nil =>
   refine' y8bcb
   (refine RetK.frz _ _ _ [1] ?_; refine' RetK.auto (.p (.list false (([] : List Ed).map Ed.pv))) ([]) rfl rfl rfl rfl _ _ _ <;> refine' fin_)
  | cons p r =>
   refine' y8bcb
   (refine RetK.frz _ _ _ [1] ?_; refine' RetK.auto (.p (.list false ((p :: r).map Ed.pv))) ([]) rfl rfl rfl rfl _ _ _ <;> refine' fin_)
theorem copied_call (os : List Ov) (hm : ∀ o ∈ os, Mo o) (hl : os.length <= 1000) : ACall Tryz.prog 16 [.p (.list false (os.map Ov.pv))] [] fun r H => r = .p (.list false (os.map Ov.pv)) /\ H = [] := by
 refine acall_known (fact := OvNl false os) ⟨_, Tryz.func16, rfl, rfl⟩ (fun m S w vals hr => by
  have h0 := hr 0 _ rfl
  cases h0 with | p _ _ h => exact OvNl.of h) fun hn => ?_
 refine acall_enter Tryz.func16 rfl rfl tabOK rfl ?_
 refine' y8bcb
 refine CallA.all ((cloneO_call false os hn.1 hl).mono ?_)
 rintro _ _ ⟨rfl, rfl⟩
 refine' y8bcb
 refine loop_rule (fun (c : Nat) => ⟨[(0, .buf 0), (7, .p (pI os.length)), (8, .p (pI c))], [some (AO.buf 33 false (os.map Ov.pv))]⟩) (fun c => c <= os.length) (fun c => os.length - c) 0 ?_ ?_ ?_; (refine SubA.auto rfl rfl rfl rfl ?_ ?_ <;> refine' fin_)
 ·omega
 rintro c hc
 rcases Nat.lt_or_ge c os.length with hlt | hge
 ·have ho := List.getElem_mem hlt
  have hE := cloneE_call os[c].nl os[c].es (hn.2 _ ho) (hm _ ho).l
  have hset : os.set c os[c] = os := List.set_getElem_self hlt
  refine' y8bcb
  refine CallA.loc [] [] rfl rfl (hE.mono ?_)
  rintro _ _ ⟨rfl, rfl⟩
  refine' y8bcb
  (refine' ⟨c + 1, _, _, _⟩; rotate_right; (refine SubA.auto rfl rfl rfl rfl ?_ ?_ <;> refine' fin_); rotate_right; exact ar2_)
  ·exact hset
  ·omega
 ·obtain rfl : c = os.length := by omega
  refine' y8bcb
  (refine RetK.frz _ _ _ [0] ?_; refine' RetK.auto (.p (.list false (os.map Ov.pv))) ([]) rfl rfl rfl rfl _ _ _ <;> refine' fin_)
open Go.Abs
set_option maxRecDepth 100000
def edP (nl : Bool) (ps : List Pr) (x : Ed) : Bool × List Pr := if x.k = 3 then (nl, delP x.n ps) else (false, putP x.n x.v ps)
theorem edN_edP (n : Nd) (x : Ed) : edN n x = { n with nl := (edP n.nl n.ps x).1, ps := (edP n.nl n.ps x).2 } := by
 unfold edN edP
 split <;> rfl
theorem edit_call (nl : Bool) (ps : List Pr) (x : Ed) (hn : nl = true -> ps = []) (ha : AscP ps) (hl : ps.length <= 900) : ACall Tryz.prog 70 [.buf 0, .p x.pv] [some (AO.buf 79 nl (ps.map Pr.pv))] fun r H => r = .buf 1 /\ H = [none, some (AO.buf 79 (edP nl ps x).1 ((edP nl ps x).2.map Pr.pv))] := by
 refine acall_enter Tryz.func70 rfl rfl tabOK rfl ?_
 refine' y8bcb
 refine CallA.pure (BSPr_call 119 x.n nl ps (fun p _ => edit1_call p x.n) (by omega) ha.ascN) ?_
 rintro _ _ ⟨i, b, hA, rfl, rfl⟩
 refine ⟨⟨trivial, trivial, trivial⟩, trivial, ?_⟩
 have hle := hA.le
 rw [List.length_map] at hle
 by_cases h3 : x.k = 3
 ·cases b with
  | true =>
   obtain ⟨hi, _⟩ := hA.yes rfl
   rw [List.length_map] at hi
   have hnl : nl = false := by
    cases nl with
    | false => rfl
    | true => have := hn rfl; subst this; simp at hi
   have e : (ps.map Pr.pv).take i ++ (ps.map Pr.pv).drop (i + 1) = (edP nl ps x).2.map Pr.pv := by
    unfold edP
    rw [if_pos h3, hA.del_at ha]
    simp [List.map_append, List.map_take, List.map_drop]
   have e1 : (edP nl ps x).1 = false := by unfold edP; rw [if_pos h3]; exact hnl
   rw [e1]
   refine' y8bcb
   refine CallA.loc [0] [] rfl rfl ((delP_call nl (ps.map Pr.pv) i (by simpa using hi) (by simp; omega)).mono ?_)
   rintro _ _ ⟨rfl, rfl⟩
   rw [e]
   refine' y8bcb
   (refine' RetK.mk _ _ _ [2] (.buf 1) ([none, some (AO.buf 79 false ((edP nl ps x).2.map Pr.pv))]) rfl rfl _ rfl rfl _ <;> refine' fin_)
  | false =>
   have e : edP nl ps x = (nl, ps) := by
    unfold edP
    rw [if_pos h3, hA.del_none]
   rw [e]
   refine' y8bcb
   (refine' RetK.mk _ _ _ [0] (.buf 1) ([none, some (AO.buf 79 nl (ps.map Pr.pv))]) rfl rfl _ rfl rfl _ <;> refine' fin_)
 ·have e0 : edP nl ps x = (false, putP x.n x.v ps) := by unfold edP; rw [if_neg h3]
  rw [e0]
  cases b with
  | true =>
   obtain ⟨hi, hin⟩ := hA.yes rfl
   rw [List.getElem_map] at hin
   rw [List.length_map] at hi
   have hnl : nl = false := by
    cases nl with
    | false => rfl
    | true => have := hn rfl; subst this; simp at hi
   have e : ps.set i (ps[i].1, x.v) = putP x.n x.v ps := by rw [hA.put_set, hin]
   subst hnl
   refine' y8bcb
   rw [e]
   (refine' RetK.mk _ _ _ [0] (.buf 1) ([none, some (AO.buf 79 false ((putP x.n x.v ps).map Pr.pv))]) rfl rfl _ rfl rfl _ <;> refine' fin_)
  | false =>
   have e : (ps.map Pr.pv).take i ++ Pr.pv (x.n, x.v) :: (ps.map Pr.pv).drop i = (putP x.n x.v ps).map Pr.pv := by
    rw [hA.put_ins]
    simp [List.map_append, List.map_take, List.map_drop]
   refine' y8bcb
   refine CallA.loc [0, 2] [] rfl rfl ((insP_call nl false (ps.map Pr.pv) (Pr.pv (x.n, x.v)) i (by simpa using hle) (by simp; omega)).mono ?_)
   rintro _ _ ⟨rfl, rfl⟩
   rw [e]
   refine' y8bcb
   (refine' RetK.mk _ _ _ [3] (.buf 1) ([none, some (AO.buf 79 false ((putP x.n x.v ps).map Pr.pv))]) rfl rfl _ rfl rfl _ <;> refine' fin_)
open Go.Abs Go.RowKit Go.Sort
set_option maxRecDepth 100000
theorem nan_model (a : ByteArray) (W : World) : Calls Tryz.prog 97 #[.string a] W fun e w' => e = .returned (.bool false) /\ w' = W := by
 go_enter Tryz.func97, Tryz.ntmps97
 go_wp2
 go_ret
 exact ⟨by simp, rfl⟩
theorem cmpS_model (a b : ByteArray) (W : World) : Calls Tryz.prog 45 #[.string a, .string b] W fun e w' => e = .returned (.int .i64 (cmpI a b)) /\ w' = W := by
 have hA := fun W => nan_model a W
 have hB := fun W => nan_model b W
 have e1 : Op.bytesLess a.toList b.toList = bless a b := rfl
 have e2 : Op.bytesLess b.toList a.toList = bless b a := rfl
 have hr : cmpI a b = if bless a b = true then -1 else if bless b a = true then 1 else 0 := rfl
 have hg : ∀ W, (binOp .gtr 9 (.string a) (.string b)).run Tryz.prog W = .ok (.bool (bless b a)) W := fun W => by
  rw [<- gtr_eq]
  rfl
 generalize cmpI a b = r at hr ⊢
 go_enter Tryz.func45, Tryz.ntmps45
 go_wp2_with (first | (go_at_call 97; refine (hA _).mono ?_; rintro e w' ⟨rfl, rfl⟩) | (go_at_call 97; refine (hB _).mono ?_; rintro e w' ⟨rfl, rfl⟩))
 ·go_ret
  refine ⟨?_, rfl⟩
  rw [hr]
  simp [*]
 ·go_ret
  refine ⟨?_, rfl⟩
  rw [hr]
  simp [*]
 ·go_ret
  refine ⟨?_, rfl⟩
  rw [hr]
  simp [*]
theorem cmpClo_model (n0 x y : Nat) (hx : x < n0) (hy : y < n0) (a b : ByteArray) (p : Addr) (c : Nat) (ad : Addr) (W : World) (h0 : ∀ n, (W.drewN n).cell? ad = some (.slice (some p) n0 c))
  (h1 : ∀ n, (W.drewN n).cell? { block := (p.add (x * 3)).block, off := (p.add (x * 3)).off + 1 } = some (.string a)) (h2 : ∀ n, (W.drewN n).cell? { block := (p.add (y * 3)).block, off := (p.add (y * 3)).off + 1 } = some (.string b)) :
  Calls Tryz.prog 117 #[.int .i64 x, .int .i64 y, .pointer (some ad)] W fun e w' => e = .returned (.int .i64 (cmpI a b)) /\ ∃ q, w' = W.drewN q := by
 have mixed : Tryz.prog.follows .mixedOrders = true := by kernel_rfl
 have hc := fun W => cmpS_model a b W
 generalize cmpI a b = r at hc ⊢
 go_enter Tryz.func117, Tryz.ntmps117
 go_wp2
 go_quiet_o ((go_at_call 45; exact (hc _).mono fun _ _ h => ⟨h.1, ⟨_, h.2⟩⟩))
 go_wp2
 go_ret
 exact ⟨rfl, _, rfl⟩
theorem grown_grow {w : World} {os : Array Obj} {row : Option Nat} : w.grownBy (grow w os) row := ⟨rfl, rfl, rfl, by simp, fun k hk _ => heap_grow_old w os hk⟩
theorem grown_putR {α : Type} [Inhabited α] {enc : α -> Value} {w : World} {g q : Nat} (d : Array α) (os : Array Obj) : w.grownBy (grow (putRow enc (Sort.ahead w q) g 0 d) os) (some g) := by
 refine ⟨rfl, rfl, rfl, by simp, fun k hk hne => ?_⟩
 rw [heap_grow_old _ _ (by simpa using hk)]
 have : g ≠ k := fun e => hne (by rw [e])
 simp [putRow, mapBlock, Sort.ahead, Array.getElem?_modify, this]
def leN (ns : List Nd) (x y : Nat) : Bool := !bless (nmf ns y) (nmf ns x)
def sortN (ns : List Nd) (L : List Nat) : List Nat := L.mergeSort (leN ns)
abbrev Ix (L : List Nat) := { i : Nat // i ∈ L }
def cfI (ns : List Nd) (L : List Nat) (x y : Ix L) : Int := cmpI (nmf ns x.1) (nmf ns y.1)
theorem ltOf_cfI (ns : List Nd) (L : List Nat) (x y : Ix L) : ltOf (cfI ns L) x y = bless (nmf ns x.1) (nmf ns y.1) := by
 unfold ltOf cfI
 rw [Bool.eq_iff_iff, decide_eq_true_iff]
 exact cmpI_lt
theorem swo_cfI (ns : List Nd) (L : List Nat) : SWO (ltOf (cfI ns L)) where
 irrefl x := by rw [ltOf_cfI]; exact bless_irrefl _
 trans x y z h1 h2 := by rw [ltOf_cfI] at *; exact bless_trans h1 h2
 ntrans x y z h1 h2 := by rw [ltOf_cfI] at *; exact ble_trans h2 h1
theorem clo_ptr {P : Program} {H : AH} {m : Nat -> Value} {S : Nat -> Prop} {w : World} {fn : Fn} {cs : List PV} {v : Value} (h : Rd P H m S w (.clo fn [.rptr cs]) v) : ∃ ad : Addr, v = .func fn #[] #[.pointer (some ad)] /\ S ad.block /\ ∃ us : Nat -> Value, (∀ k c, cs[k]? = some c -> w.cell? (ad.add k) = some (us k) /\ (us k).oneCell' = true) /\ ∀ k c, cs[k]? = some c -> RdP S w c (us k) := by
 cases h with
 | clo _ _ vs hl hr =>
  have h1 := hr 0 _ rfl
  have e : vs = #[vs.getD 0 undef] := one_val hl
  generalize vs.getD 0 undef = u at h1 e
  cases h1 with
  | rptr _ a us hS hu hr => exact ⟨a, by rw [e], hS, us, hu, hr⟩
theorem two_val {vals : Array Value} (h : vals.size = 2) : vals = #[vals.getD 0 undef, vals.getD 1 undef] := by
 apply Array.ext (by simp [h])
 intro i h1 h2
 match i, h1 with
 | 0, _ => simp [Array.getD, h]
 | 1, _ => simp [Array.getD, h]
 | n + 2, h1 => omega
theorem info_int : ∃ i, Tryz.prog.info? 3 = some i /\ i.size = 1 := ⟨_, rfl, rfl⟩
def encI (L : List Nat) (x : Ix L) : Value := .int .i64 (x.1 : Nat)
theorem sort_sub (ns : List Nd) (L : List Nat) : ((L.attach.mergeSort fun x y => !ltOf (cfI ns L) y x).map Subtype.val) = sortN ns L := by
 unfold sortN
 rw [List.map_mergeSort (s := leN ns) (fun a _ b _ => by rw [ltOf_cfI]; rfl), List.attach_map_subtype_val]
theorem map_enc_sub (L : List Nat) (l : List (Ix L)) : l.map (encI L) = (l.map Subtype.val).map fun n : Nat => Value.int .i64 n := by rw [List.map_map]; rfl
theorem sortN_len (ns : List Nd) (L : List Nat) : (sortN ns L).length = L.length := by unfold sortN; simp
theorem SortI_call (nl nb : Bool) (ns : List Nd) (L : List Nat) (hL : ∀ i ∈ L, i < ns.length) (hu : ∀ i ∈ L, ∀ j ∈ L, nmf ns i = nmf ns j -> i = j) (hl : L.length <= 100000) : ACall Tryz.prog 116 [.buf 0, .clo (.func 117) [.rptr [.list nl (ns.map Nd.pv)]]] [some (AO.buf 3 nb (L.map pN))] fun r H => r = .tup [] /\ H = [some (AO.buf 3 nb ((sortN ns L).map pN))] := by
 refine ⟨⟨_, Tryz.func116, rfl, rfl⟩, fun m S w vals hp hs hr => ?_⟩
 have hl0 : live [some (AO.buf 3 nb (L.map pN))] 0 (.buf 3 nb (L.map pN)) := rfl
 have h0 := rd_buf (hr 0 _ rfl) hl0
 obtain ⟨ad, h1, hSad, us, hcell, hrd⟩ := clo_ptr (hr 1 _ rfl)
 rw [two_val hs, h0, h1]
 obtain ⟨i, hi, h1i⟩ := info_int
 obtain ⟨ho, hn⟩ := okb_vals (f := fun n : Nat => Value.int .i64 n) hi h1i (hp.obj 0 _ hl0)
 rcases ho.2 with ⟨hv, hx0⟩ | ⟨g, cap, cur, hv, hb0, hg, hnc, hcm, hcs, htk⟩
 ·have hx : L = [] := List.eq_nil_of_length_eq_zero hx0
  subst hx
  rw [hv]
  refine (AnyF.slices_SortFunc_none (P := Tryz.prog) (ρ := laysSortF_ren) { laysSortF with } none 0 _ w).mono ?_
  rintro e w' ⟨rfl, rfl⟩
  exact ⟨_, .tup [], _, m, S, rfl, ⟨rfl, by rw [show sortN ns [] = [] by simp [sortN]]⟩, Stp.refl hp, .tup [] #[] rfl (by simp)⟩
 ·rcases Nat.eq_zero_or_pos L.length with hz | hpos
  ·have hx : L = [] := List.eq_nil_of_length_eq_zero hz
   subst hx
   rw [hv]
   refine (AnyF.slices_SortFunc_none (P := Tryz.prog) (ρ := laysSortF_ren) { laysSortF with } (some ⟨g, 0, none⟩) cap _ w).mono ?_
   rintro e w' ⟨rfl, rfl⟩
   exact ⟨_, .tup [], _, m, S, rfl, ⟨rfl, by rw [show sortN ns [] = [] by simp [sortN]]⟩, Stp.refl hp, .tup [] #[] rfl (by simp)⟩
  have ho2 := ho
  rw [hv] at ho2 ⊢
  haveI : Inhabited (Ix L) := ⟨⟨L[0], List.getElem_mem hpos⟩⟩
  have hlt : g < w.heap.size := (Array.getElem?_eq_some_iff.1 hg).1
  have hatt : (L.attach.map (encI L)) = L.map fun n : Nat => Value.int .i64 n := by rw [map_enc_sub, List.attach_map_subtype_val]
  have hH : Holds (encI L) w g 0 L.attach.toArray := by
   obtain ⟨g', cap', e1, _, _, _, _, _, h6⟩ := Lib.holds_of_ownsRow (enc := encI L) (zs := L.attach) (by rw [hatt]; exact ho2) (by simp)
   injection e1 with e1 _ _
   injection e1 with e1
   injection e1 with e1
   subst e1
   exact h6
  have hgS : ¬ S g := hp.out 0 _ g hl0 (.inl (by show (m 0).ownBlock = _; rw [hv]; rfl))
  have hrl := hrd 0 _ rfl
  have hcl := (hcell 0 _ rfl).1
  generalize us 0 = u0 at hrl hcl
  have had0 : ad.add 0 = ad := by simp [Addr.add]
  rw [had0] at hcl
  have hne : ns ≠ [] := fun h => by
   have := hL _ (List.getElem_mem hpos)
   rw [h] at this; simp at this
  have hlist : ∃ (p : Addr) (c : Nat), u0 = .slice (some p) ns.length c /\ S p.block /\ ∀ x, x < ns.length -> w.cell? ((p.add (x * 3)).add 1) = some (.string (nmf ns x)) := by
   generalize hM : ns.map Nd.pv = M at hrl
   cases hrl with
   | nil => exact absurd (List.map_eq_nil_iff.1 hM) hne
   | list xs a c sz vs hS hc hm hz hu hr =>
    subst hM
    refine ⟨a, c, by rw [List.length_map], hS (by simpa using hne), fun x hx => ?_⟩
    have hz3 : ∀ y ∈ ns.map Nd.pv, y.cells.length = 3 := fun y hy => by obtain ⟨n, _, rfl⟩ := List.mem_map.1 hy; rfl
    have hf : (flat (ns.map Nd.pv))[x * 3 + 1]? = some (pS (nmf ns x)) := flat_at hz3 x _ (by rw [List.getElem?_map, List.getElem?_eq_getElem hx]; rfl) 1 _ (by rw [nmf_at hx]; rfl)
    rw [add_add, (hu _ _ hf).1]
    have := hr _ _ hf
    generalize vs (x * 3 + 1) = v at this
    cases this
    rfl
  obtain ⟨p, c, rfl, hSp, hnm⟩ := hlist
  have hadd1 : ∀ q : Addr, q.add 1 = { block := q.block, off := q.off + 1 } := fun q => by simp [Addr.add]
  have hcmp : CmpLays1 Tryz.prog 117 #[.pointer (some ad)] (encI L) (cfI ns L) g 0 L.attach.toArray.size w := by
   refine CmpReads.lays fun k os dk hsz x y => ?_
   have hkeep : ∀ b, S b -> (sortWorld (encI L) w g 0 k dk os).heap[b]? = w.heap[b]? := fun b hb => by
    have hbn : b ≠ g := fun e => hgS (e ▸ hb)
    unfold sortWorld
    exact (grown_putR (w := w) (enc := encI L) dk os).block b (hp.sub b hb) (fun e => hbn (by injection e))
   have hc2 : ∀ (q : Addr) (n : Nat) (v : Value), S q.block -> w.cell? q = some v -> ((sortWorld (encI L) w g 0 k dk os).drewN n).cell? q = some v := fun q n v hq hv => by
    rw [<- hv]
    exact World.cell?_of_block (w := w) (w' := (sortWorld (encI L) w g 0 k dk os).drewN n) (hkeep _ hq)
   exact cmpClo_model ns.length x.1 y.1 (hL _ x.2) (hL _ y.2) (nmf ns x.1) (nmf ns y.1) p c ad _ (fun n => hc2 _ n _ hSad hcl) (fun n => by rw [<- hadd1]; exact hc2 _ n _ (by rw [add_block, add_block]; exact hSp) (hnm _ (hL _ x.2))) (fun n => by rw [<- hadd1]; exact hc2 _ n _ (by rw [add_block, add_block]; exact hSp) (hnm _ (hL _ y.2)))
  have eg : ∀ args w, (callFunc 117 args).run Tryz.prog w = .ok (.enter 117 args) w := enters_of Tryz.func117 (by kernel_rfl) rfl
  have hC := Any.slices_SortFunc_total laysSortF (encI L) (fun _ => rfl) (cfI ns L) (swo_cfI ns L) 117 #[.pointer (some ad)] g 0 cap L.attach.toArray w eg hcmp hH hlt (by simp; omega) (fun x y h1 h2 => by
   rw [ltOf_cfI] at h1 h2
   exact Subtype.ext (hu _ x.2 _ y.2 (bless_total h1 h2)))
  rw [show L.attach.toArray.size = L.length by simp] at hC
  refine hC.mono ?_
  rintro e w' ⟨rfl, q, os, rfl⟩
  have hlen2 : (L.attach.mergeSort fun x y => !ltOf (cfI ns L) y x).length = L.length := by simp
  have ho3 := Lib.ownsRow_putRow (q := q) (enc := encI L) (zs := L.attach) (ys := L.attach.mergeSort fun x y => !ltOf (cfI ns L) y x) (k := L.length) (by rw [hatt]; exact ho2) hlen2 (Nat.le_refl _)
  rw [List.take_of_length_le (by omega), map_enc_sub, sort_sub] at ho3
  have ho4 := ho3.kept (grown_grow (os := os) (row := none)) (by by_cases h : (Value.slice (some ⟨g, 0, none⟩) L.length cap).ownBlock = none <;> simp [h])
  refine ⟨_, .tup [], _, m, S, rfl, ⟨rfl, rfl⟩, stp_reown (nl' := nb) (zs := (sortN ns L).map pN) hp hl0 (by simp [sortN_len]) (fun _ => ?_) (by rw [hv]; exact grown_putR _ os), .tup [] #[] rfl (by simp)⟩
  refine okb_of (f := fun n : Nat => Value.int .i64 n) hi h1i ?_ (fun _ => rfl) hn
  rw [sortN_len, hv]
  exact ho4
def kidL (ns : List Nd) (u : Nat) : List Nat := (List.range ns.length).filter (isKid ns u)
theorem kidL_mem {ns : List Nd} {u c : Nat} : c ∈ kidL ns u ↔ c ∈ kids ns u := by
 unfold kidL kids
 rw [(kidsT_perm ns u _).mem_iff]
theorem insN_sorted {ns : List Nd} {i : Nat} : ∀ {l : List Nat}, l.Pairwise (fun a b => bless (nmf ns a) (nmf ns b) = true) -> (∀ c ∈ l, nmf ns c ≠ nmf ns i) -> (insN ns i l).Pairwise (fun a b => bless (nmf ns a) (nmf ns b) = true)
 | [], _, _ => List.pairwise_singleton ..
 | c :: r, h, hn => by
  obtain ⟨h1, h2⟩ := List.pairwise_cons.1 h
  unfold insN
  cases hb : bless (nmf ns i) (nmf ns c) with
  | true =>
   refine List.pairwise_cons.2 ⟨fun x hx => ?_, h⟩
   rcases List.mem_cons.1 hx with rfl | hx
   ·exact hb
   ·exact bless_trans hb (h1 x hx)
  | false =>
   have hci : bless (nmf ns c) (nmf ns i) = true := by
    cases e : bless (nmf ns c) (nmf ns i) with
    | true => rfl
    | false => exact absurd (bless_total e hb) (hn c (List.mem_cons_self ..))
   refine List.pairwise_cons.2 ⟨fun x hx => ?_, insN_sorted h2 fun d hd => hn d (List.mem_cons_of_mem _ hd)⟩
   rcases List.mem_cons.1 ((insN_perm ns i r).mem_iff.1 hx) with rfl | hx
   ·exact hci
   ·exact h1 x hx
theorem kidsT_sorted {ns : List Nd} (hp : Par ns) (hs : Sib ns) (u : Nat) : ∀ m, m <= ns.length -> (kidsT ns u m).Pairwise (fun a b => bless (nmf ns a) (nmf ns b) = true)
 | 0, _ => .nil
 | m + 1, hm => by
  have ih := kidsT_sorted hp hs u m (by omega)
  unfold kidsT
  split
  ·rename_i hk
   refine insN_sorted ih fun c hc he => ?_
   have h1 := (kidsT_perm ns u m).mem_iff.1 hc
   rw [List.mem_filter, List.mem_range] at h1
   have h2 := h1.2
   unfold isKid at h2 hk
   rw [decide_eq_true_iff] at h2 hk
   have := hs c m h2.2 hk.2 (by omega) (by omega) (by unfold pf; rw [h2.1, hk.1]) he
   omega
  ·exact ih
theorem sort_kids {ns : List Nd} (hp : Par ns) (hs : Sib ns) (u : Nat) : sortN ns (kidL ns u) = kids ns u := by
 have h1 := kidsT_sorted hp hs u ns.length (Nat.le_refl _)
 have hperm : (sortN ns (kidL ns u)).Perm (kids ns u) := (List.mergeSort_perm _ _).trans (kidsT_perm ns u _).symm
 have h2 : (sortN ns (kidL ns u)).Pairwise (fun a b => leN ns a b = true) := List.pairwise_mergeSort (fun a b c h k => by
  unfold leN at *
  rw [Bool.not_eq_true'] at *
  exact ble_trans h k) (fun a b => by
  unfold leN
  cases h : bless (nmf ns b) (nmf ns a) with
  | false => rfl
  | true => rw [bless_asymm h]; rfl) _
 have h3 : (kids ns u).Pairwise (fun a b => leN ns a b = true) := h1.imp fun h => by unfold leN; rw [bless_asymm h]; rfl
 refine hperm.eq_of_pairwise (le := fun a b => leN ns a b = true) (fun a b ha hb hab hba => ?_) h2 h3
 have ha := (hperm.mem_iff.1 ha)
 obtain ⟨a1, a2, a3⟩ := kids_mem.1 ha
 obtain ⟨b1, b2, b3⟩ := kids_mem.1 hb
 unfold leN at hab hba
 rw [Bool.not_eq_true'] at hab hba
 exact hs a b a3 b3 a1 b1 (by unfold pf; rw [a2, b2]) (bless_total hba hab)
open Go.Abs
section
variable {ns : List Nd}
theorem nodup_mid {A R : List Nat} {u : Nat} (h : (A ++ u :: R).Nodup) : u ∉ A /\ u ∉ R := by
 rw [List.nodup_append] at h
 exact ⟨fun hu => h.2.2 u hu u (List.mem_cons_self ..) rfl, (List.nodup_cons.1 h.2.1).1⟩
theorem seg_pos (hp : Par ns) (h0 : 0 < ns.length) {A R : List Nat} {u : Nat} (h : ord ns = A ++ u :: R) : posO ns u = A.length := by
 have hn := ord_nodup hp h0
 rw [h] at hn
 unfold posO
 rw [h, List.idxOf_append, if_neg (nodup_mid hn).1, List.idxOf_cons_self, Nat.zero_add]
theorem seg_next {A B cs : List Nat} {u k d : Nat} (hc : kids ns u = cs) (hd : d < cs.length) (h : ord ns = A ++ (vis ns (k + 1) u ++ B)) :
  ord ns = (A ++ u :: (cs.take d).flatMap (vis ns k)) ++ (vis ns k cs[d] ++ ((cs.drop (d + 1)).flatMap (vis ns k) ++ B)) := by
 rw [h, vis, hc]
 conv => lhs; rw [<- List.take_append_drop d cs, List.flatMap_append, List.drop_eq_getElem_cons hd, List.flatMap_cons]
 simp [List.append_assoc]
theorem seg_apart (hp : Par ns) (h0 : 0 < ns.length) {A V B : List Nat} {j : Nat} (h : ord ns = A ++ (V ++ B)) (hj : j ∈ V) : j ∉ A := by
 have hn := ord_nodup hp h0
 rw [h] at hn
 intro hA
 exact (List.nodup_append.1 hn).2.2 j hA j (List.mem_append.2 (.inl hj)) rfl
theorem seg_take {cs : List Nat} {k d : Nat} (hd : d < cs.length) : (cs.take (d + 1)).flatMap (vis ns k) = (cs.take d).flatMap (vis ns k) ++ vis ns k cs[d] := by
 rw [List.take_succ_eq_append_getElem hd, List.flatMap_append]
 simp
theorem vis_self {k u : Nat} (hu : 0 < k) : u ∈ vis ns k u := by
 obtain ⟨k, rfl⟩ : ∃ j, k = j + 1 := ⟨k - 1, by omega⟩
 unfold vis
 exact List.mem_cons_self ..
theorem srtN_par (hp : Par ns) (h0 : 0 < ns.length) {A R : List Nat} {u c : Nat} (h : ord ns = A ++ u :: R) (hc : c ∈ kids ns u) : (srtN ns c).par = (A.length : Nat) := by
 obtain ⟨h1, h2, h3⟩ := (kids_par hp).1 hc
 unfold srtN
 show (if c = 0 then (-1 : Int) else _) = _
 rw [if_neg (by omega), h2, seg_pos hp h0 h]
end
def rowT (ns : List Nd) (u c : Nat) : List Nat := (List.range c).filter (isKid ns u)
def rowV (ns : List Nd) (c u : Nat) : PV := .list (rowT ns u c).isEmpty ((rowT ns u c).map pN)
def rowsT (ns : List Nd) (c : Nat) : List PV := (List.range ns.length).map (rowV ns c)
theorem rowsT_len (ns : List Nd) (c : Nat) : (rowsT ns c).length = ns.length := by simp [rowsT]
theorem rowsT_at {ns : List Nd} {c u : Nat} (hu : u < ns.length) : (rowsT ns c)[u]? = some (rowV ns c u) := by simp [rowsT, hu]
theorem rowsT_zero (ns : List Nd) : rowsT ns 0 = List.replicate ns.length (.list true []) := by
 unfold rowsT
 rw [show rowV ns 0 = fun _ => .list true [] from funext fun u => rfl, List.map_const', List.length_range]
theorem rowT_succ (ns : List Nd) (u c : Nat) : rowT ns u (c + 1) = rowT ns u c ++ (if isKid ns u c = true then [c] else []) := by
 unfold rowT
 rw [List.range_succ, List.filter_append]
 cases h : isKid ns u c with
 | true => rw [List.filter_cons_of_pos h]; rfl
 | false => rw [List.filter_cons_of_neg (by rw [h]; exact Bool.false_ne_true)]; rfl
theorem rowsT_one (ns : List Nd) : rowsT ns 1 = rowsT ns 0 := by
 unfold rowsT
 congr 1
 funext u
 unfold rowV
 have : rowT ns u 1 = rowT ns u 0 := by
  rw [rowT_succ, if_neg]
  ·simp
  ·unfold isKid; simp
 rw [this]
theorem rowsT_succ {ns : List Nd} (hp : Par ns) {c : Nat} (h0 : 0 < c) (hc : c < ns.length) : (rowsT ns c).set (pf ns c) (.list false ((rowT ns (pf ns c) c ++ [c]).map pN)) = rowsT ns (c + 1) := by
 refine List.ext_getElem? fun u => ?_
 rw [List.getElem?_set]
 by_cases hu : u < ns.length
 ·rw [rowsT_at hu, rowsT_at hu]
  have hk : isKid ns u c = decide (pf ns c = u) := by
   unfold isKid
   rw [Bool.eq_iff_iff, decide_eq_true_iff, decide_eq_true_iff]
   have := (hp c h0 hc).1
   unfold pf
   constructor
   ·rintro ⟨h1, _⟩; rw [h1]; exact Int.toNat_natCast u
   ·intro h; exact ⟨by omega, h0⟩
  have hs := rowT_succ ns u c
  rw [hk] at hs
  by_cases he : pf ns c = u
  ·subst he
   rw [if_pos rfl, if_pos (by rw [rowsT_len]; exact hu)]
   rw [if_pos (by simp)] at hs
   unfold rowV
   rw [hs]
   simp
  ·rw [if_neg he]
   rw [if_neg (by simpa using he), List.append_nil] at hs
   unfold rowV
   rw [hs]
 ·have h1 := (hp c h0 hc).2
  rw [if_neg (by omega), List.getElem?_eq_none (by rw [rowsT_len]; omega), List.getElem?_eq_none (by rw [rowsT_len]; omega)]
def rowsP (ns : List Nd) : List PV := rowsT ns ns.length
theorem rowsP_at {ns : List Nd} {u : Nat} (hu : u < ns.length) : (rowsP ns)[u]? = some (.list (kidL ns u).isEmpty ((kidL ns u).map pN)) := rowsT_at hu
theorem kidL_len (ns : List Nd) (u : Nat) : (kidL ns u).length <= ns.length := by
 have := List.length_filter_le (isKid ns u) (List.range ns.length)
 unfold kidL
 rw [List.length_range] at this
 exact this
theorem kidL_ok {ns : List Nd} (hp : Par ns) (hs : Sib ns) (u : Nat) : (∀ i ∈ kidL ns u, i < ns.length) /\ ∀ i ∈ kidL ns u, ∀ j ∈ kidL ns u, nmf ns i = nmf ns j -> i = j := by
 refine ⟨fun i hi => ((kids_par hp).1 (kidL_mem.1 hi)).1, fun i hi j hj he => ?_⟩
 obtain ⟨a1, a2, a3⟩ := (kids_par hp).1 (kidL_mem.1 hi)
 obtain ⟨b1, b2, b3⟩ := (kids_par hp).1 (kidL_mem.1 hj)
 exact hs i j a3 b3 a1 b1 (a2.trans b2.symm) he
open Go.Abs
set_option maxRecDepth 100000
def wvL : Ln := (.lazy 0 (.lazy 1 (.lazy 2 (.lazy 3 (.lazy 4 (.lazy 5 (.lazy 6 (.lazy 7 (.lazy 8 (.lazy 9 (.lazy 10 (.lazy 11 (.lazy 12 (.one 13 (.one 14 (.one 15 (.one 16 (.lazy 17 (.one 18 .done)))))))))))))))))))
def cloV (nl : Bool) (ns : List Nd) : AV := .clo (.func 114) [.ptr 0 0, .ptr 1 0, .rptr [.list nl (ns.map Nd.pv)], .ptr 2 0, .ptr 6 0]
def VH (nl : Bool) (ns : List Nd) (ps : List Int) (out : List Nd) (nb : Bool) (g : Option (Nat -> Bool)) : AH := [some (.cells [.buf 5]), some (.cells [.buf 4]), some (.cells [.buf 3]), some (.rws 22 false 1 0 3 (rowsP ns) none [] g), some (.buf 3 false (ps.map pI)), some (.rws 50 nb 3 2 79 (out.map Nd.pv) none [] none), some (.cells [cloV nl ns])]
def VH2 (nl : Bool) (ns : List Nd) (ps : List Int) (out : List Nd) (g : Option (Nat -> Bool)) : AH := [some (.cells [.buf 7]), some (.cells [.buf 4]), some (.cells [.buf 3]), some (.rws 22 false 1 0 3 (rowsP ns) none [] g), some (.buf 3 false (ps.map pI)), none, some (.cells [cloV nl ns]), some (.rws 50 false 3 2 79 (out.map Nd.pv) none [] none)]
def VisK (nl : Bool) (ns : List Nd) (k : Nat) : Prop := ∀ (u : Nat) (A : List Nat) (ps : List Int) (nb : Bool) (g : Option (Nat -> Bool)), u < ns.length -> ns.length <= u + k -> (∃ B, ord ns = A ++ (vis ns k u ++ B)) -> ps.length = ns.length -> (∀ j ∈ vis ns k u, gone g j = false) ->
 ACall Tryz.prog 114 [.p (pI u), .p (pI (srtN ns u).par), .ptr 0 0, .ptr 1 0, .rptr [.list nl (ns.map Nd.pv)], .ptr 2 0, .ptr 6 0] (VH nl ns ps (A.map (srtN ns)) nb g) fun r H => ∃ ps' g', ps'.length = ns.length /\ (∀ j, gone g' j = true -> gone g j = true \/ j ∈ vis ns k u) /\ r = .tup [] /\ H = VH2 nl ns ps' ((A ++ vis ns k u).map (srtN ns)) g'
theorem z3b09 {P : Prop} (h : P := by
 ((first | refine' gC | refine' gpI | refine' gpS | refine' gpN | refine' gpB | refine' gPrpv | refine' gNdpv | refine' gE | fail) <;> (conv => whnf)) <;> (solve_by_elim (newGoals := .nonDependentOnly) (symm := false) (exfalso := false) (transparency := .reducible) only [rfl, park_])) : P := h
theorem visit_step (nl : Bool) (ns : List Nd) (hp : Par ns) (hs : Sib ns) (hn : NdNl nl ns) (hl : ns.length <= 1000) (hps : ∀ n ∈ ns, n.ps.length <= 1000) (k : Nat) (ih : VisK nl ns k) : VisK nl ns (k + 1) := by
 intro u A ps nb g hu hk hB hpl hg
 obtain ⟨B, hord⟩ := hB
 have h0 : 0 < ns.length := by omega
 have hAl : A.length < ns.length := by
  have h1 := ord_length hp h0
  rw [hord, List.length_append, List.length_append, vis, List.length_cons] at h1
  omega
 have hnu : ((ns[u]?).getD default) = ns[u] := by rw [List.getElem?_eq_getElem hu]; rfl
 have hnl := hn.2 _ (List.getElem_mem hu)
 have hpl2 := hps _ (List.getElem_mem hu)
 have hgu : gone g u = false := hg u (vis_self (by omega))
 refine acall_enter Tryz.func114 rfl rfl tabOK rfl ?_
 refine' yd706
 refine DrawA.gh _ (Gh.openW 3 u rfl (rowsP_at hu) hgu rfl) ?_
 apply DrawA.lin wvL (by kernel_rfl) (by decide +kernel)
 (conv => whnf); repeat' ((first | (apply PdC.same; · with_reducible rfl) | apply PdC.chk | apply PdA.mk | (apply EqA.mk; rfl) | (apply LzA.mk; · ((conv => whnf); repeat' ((first | (apply EqA.mk; rfl) | refine' z3b09 | fail) <;> (conv => whnf)))) | refine' zd706 | (fail "DrawA.lin") | ((refine CallA.loc [] [] rfl rfl ((cloneP_call ns[u].nl ns[u].ps hnl hpl2).mono ?_); rintro _ _ ⟨rfl, rfl⟩)) | ((refine AppA.mk ((A.map (srtN ns)).map Nd.pv ++ [hole0 3]) rfl (by simp [maxLen]; omega) ?_))) <;> (conv => whnf))
 have hk1 := kidL_ok hp hs u
 have hk2 := kidL_len ns u
 refine CallA.loc [7] [] rfl rfl ((SortI_call nl _ ns (kidL ns u) hk1.1 hk1.2 (by omega)).mono ?_)
 rintro _ _ ⟨rfl, rfl⟩
 rw [sort_kids hp hs]
 have hkl : (kids ns u).length <= 1000 := by rw [<- sort_kids hp hs, sortN_len]; omega
 have hcl1 : (Nd.pv (srtN ns u)).cells = [pI (srtN ns u).par, pS ns[u].nm, .list ns[u].nl (ns[u].ps.map Pr.pv)] := by
  show [pI (srtN ns u).par, pS ((ns[u]?).getD default).nm, .list ((ns[u]?).getD default).nl (((ns[u]?).getD default).ps.map Pr.pv)] = _
  rw [hnu]
 have hxs1 : ((A.map (srtN ns)).map Nd.pv ++ [hole0 3]).set ((A.map (srtN ns)).map Nd.pv).length (Nd.pv (srtN ns u)) = ((A ++ u :: ((kids ns u).take 0).flatMap (vis ns k)).map (srtN ns)).map Nd.pv := by simp
 have htk : ∀ (j : Nat) (c : PV), (PV.list (kidL ns u).isEmpty ((kidL ns u).map pN)).cells[j]? = some c -> j ≠ 0 -> ([AV.buf 7] : List AV)[j]? = some (.p c) := fun j c h hj => by
  cases j with
  | zero => exact absurd rfl hj
  | succ j => simp [PV.cells] at h
 refine' y723b
 refine loop_rule (fun (⟨d, ps, g'⟩ : Nat × List Int × Option (Nat -> Bool)) => ⟨[(6, .ptr 6 0), (9, .p (pI A.length)), (46, .p (.list (kidL ns u).isEmpty ((kids ns u).map pN))), (47, .p (pI (kids ns u).length)), (48, .p (pI d))], VH2 nl ns ps ((A ++ u :: ((kids ns u).take d).flatMap (vis ns k)).map (srtN ns)) g'⟩) (fun ⟨d, ps, g'⟩ => d <= (kids ns u).length /\ ps.length = ns.length /\ ∀ j, gone g' j = true -> gone g j = true \/ j = u \/ j ∈ ((kids ns u).take d).flatMap (vis ns k)) (fun ⟨d, ps, g'⟩ => (kids ns u).length - d) (0, ps.set u A.length, some fun j => Nat.beq j u || gone g j) ?_ ?_ ?_; (refine SubA.thawed _ [7] [46] ?_; refine SubA.gh _ _ (Gh.takeW 3 rfl (rowsP_at hu) htk) ?_; refine SubA.gh _ _ (Gh.closeW 10 8 (Nd.pv (srtN ns u)) rfl rfl rfl rfl hcl1 hxs1) ?_; refine SubA.of [10] rfl ?_ ?_ rfl rfl <;> refine' fin_)
 ·rw [List.length_map]
 ·refine ⟨Nat.zero_le _, by simpa using hpl, fun j hj => ?_⟩
  have hj2 : (Nat.beq j u || gone g j) = true := hj
  rw [Bool.or_eq_true] at hj2
  rcases hj2 with h | h
  ·exact .inr (.inl (Nat.eq_of_beq_eq_true h))
  ·exact .inl h
 clear hpl
 rintro ⟨d, qs, g'⟩ ⟨hd, hpl, hg'⟩
 try simp only at hd hpl hg'
 rcases Nat.lt_or_ge d (kids ns u).length with hlt | hge
 ·have hseg := seg_next rfl hlt hord
  have hcm := List.getElem_mem hlt
  obtain ⟨c1, c2, c3⟩ := (kids_par hp).1 hcm
  have hcu := kids_gt hp hcm
  have hpar := srtN_par hp h0 (A := A) (R := (kids ns u).flatMap (vis ns k) ++ B) (by rw [hord, vis]; rfl) hcm
  have hvm : ∀ j, j ∈ vis ns k (kids ns u)[d] -> j ∈ vis ns (k + 1) u := fun j hj => by
   rw [vis]
   exact List.mem_cons_of_mem _ (List.mem_flatMap.2 ⟨_, hcm, hj⟩)
  have hgf : ∀ j ∈ vis ns k (kids ns u)[d], gone g' j = false := fun j hj => by
   cases e : gone g' j with
   | false => rfl
   | true =>
    have hap := seg_apart hp h0 hseg hj
    rcases hg' j e with h | h | h
    ·rw [hg j (hvm j hj)] at h; cases h
    ·exact absurd (List.mem_append.2 (.inr (h ▸ List.mem_cons_self ..))) hap
    ·exact absurd (List.mem_append.2 (.inr (List.mem_cons_of_mem _ h))) hap
  have hI := ih (kids ns u)[d] (A ++ u :: ((kids ns u).take d).flatMap (vis ns k)) qs false g' c1 (by omega) ⟨_, hseg⟩ hpl hgf
  have hap1 : A ++ u :: ((kids ns u).take d).flatMap (vis ns k) ++ vis ns k (kids ns u)[d] = A ++ u :: ((kids ns u).take (d + 1)).flatMap (vis ns k) := by rw [seg_take hlt]; simp
  rw [hpar, hap1] at hI
  refine' y723b
  refine CallA.loc [0, 1, 2, 3, 4, 7, 6] [] rfl rfl (hI.mono ?_)
  rintro _ _ ⟨ps2, g2, h1, h2, rfl, rfl⟩
  refine' y723b
  (refine' ⟨(d + 1, ps2, g2), _, _, _⟩; rotate_right; (refine SubA.of [8] rfl ?_ ?_ rfl rfl <;> refine' fin_); rotate_right; exact ar2_)
  refine ⟨by omega, h1, fun j hj => ?_⟩
  rw [seg_take hlt]
  rcases h2 j hj with h | h
  ·rcases hg' j h with h | h | h
   ·exact .inl h
   ·exact .inr (.inl h)
   ·exact .inr (.inr (List.mem_append.2 (.inl h)))
  ·exact .inr (.inr (List.mem_append.2 (.inr h)))
 ·obtain rfl : d = (kids ns u).length := by omega
  rw [List.take_length] at hg'
  have hv : vis ns (k + 1) u = u :: (kids ns u).flatMap (vis ns k) := rfl
  refine' y723b
  (refine' RetK.mk _ _ _ [7] (.tup []) (VH2 nl ns qs ((A ++ u :: ((kids ns u).take (kids ns u).length).flatMap (vis ns k)).map (srtN ns)) g') rfl rfl _ rfl rfl _ <;> refine' fin_)
  refine ⟨qs, g', hpl, fun j hj => ?_, rfl, by rw [List.take_length, hv]⟩
  rcases hg' j hj with h | h | h
  ·exact .inl h
  ·exact .inr (by rw [hv, h]; exact List.mem_cons_self ..)
  ·exact .inr (by rw [hv]; exact List.mem_cons_of_mem _ h)
theorem visit_call (nl : Bool) (ns : List Nd) (hp : Par ns) (hs : Sib ns) (hn : NdNl nl ns) (hl : ns.length <= 1000) (hps : ∀ n ∈ ns, n.ps.length <= 1000) : ∀ k, VisK nl ns k
 | 0 => fun u _ _ _ _ hu hk => by omega
 | k + 1 => visit_step nl ns hp hs hn hl hps k (visit_call nl ns hp hs hn hl hps k)
open Go.Abs
set_option maxRecDepth 100000
def wtL : Ln := (.lazy 0 (.lazy 1 (.lazy 2 (.lazy 3 (.lazy 4 (.lazy 5 (.lazy 6 (.lazy 7 (.lazy 8 (.lazy 9 (.one 10 (.lazy 11 (.one 12 .done)))))))))))))
def wzL : Ln := (.lazy 0 (.lazy 1 (.one 2 (.one 3 .done))))
theorem wTree_call (nl : Bool) (ns : List Nd) (hp : Par ns) (hs : Sib ns) (h0 : 0 < ns.length) (hl : ns.length <= 1000) (hps : ∀ n ∈ ns, n.ps.length <= 1000) : ACall Tryz.prog 69 [.p (.list nl (ns.map Nd.pv))] [] fun r H => ∃ ps : List Int, r = .tup [.agg [.buf 0], .buf 1] /\ H = [some (.rws 50 false 3 2 79 ((srt ns).map Nd.pv) none [] none), some (.buf 3 false (ps.map pI))] := by
 refine acall_known (fact := NdNl nl ns) ⟨_, Tryz.func69, rfl, rfl⟩ (fun m S w vals hr => by
  have h0 := hr 0 _ rfl
  cases h0 with | p _ _ h => exact NdNl.of h) fun hn => ?_
 have hV := visit_call nl ns hp hs hn hl hps ns.length
 refine acall_enter Tryz.func69 rfl rfl tabOK rfl ?_
 have hr0 : List.replicate ((ns.length : Int)).toNat (pz (Value.slice none 0 0)) = rowsT ns 0 := by rw [rowsT_zero, Int.toNat_natCast]; rfl
 have hw0 : ∀ x ∈ rowsT ns 0, x.cells[0]? = some (.list true []) := fun x hx => by
  rw [rowsT_zero] at hx
  rw [List.eq_of_mem_replicate hx]; rfl
 (conv => whnf); repeat' ((first | refine' z723b | ((refine IsL.mk (rowsT ns 0) hr0 ?_))) <;> (conv => whnf))
 refine loop_rule (fun (⟨c, rows⟩ : Nat × List PV) => ⟨[(1, .rptr [.list nl (ns.map Nd.pv)]), (2, .ptr 0 0), (3, .ptr 1 0), (4, .ptr 2 0), (11, .p (.list nl (ns.map Nd.pv))), (12, .p (pI ns.length)), (13, .p (pI c))], [some (.cells [.buf 4]), some (.cells [.p (.list true [])]), some (.cells [.buf 3]), some (.rws 22 false 1 0 3 rows none [] none), some (.rws 50 true 3 2 79 (([] : List Nd).map Nd.pv) none [] none)]⟩) (fun ⟨c, rows⟩ => c <= ns.length /\ rows = rowsT ns c) (fun ⟨c, rows⟩ => ns.length - c) (0, rowsT ns 0) ?_ ?_ ?_; (refine SubA.cell _ 1 0 50 _ _ _ _ _ rfl rfl rfl ?_; refine SubA.gh _ _ (Gh.toW 5 50 79 true 2 (([] : List Nd).map Nd.pv) rfl rfl rfl (by decide) (fun x hx => by cases hx)) ?_; refine SubA.gh _ _ (Gh.toW 3 22 3 false 0 (rowsT ns 0) rfl rfl rfl (by decide) hw0) ?_; refine SubA.ret _ 1 0 [.list nl (ns.map Nd.pv)] rfl rfl ?_; refine SubA.auto rfl rfl rfl rfl ?_ ?_ <;> refine' fin_)
 ·exact ⟨Nat.zero_le _, rfl⟩
 rintro ⟨c, rows⟩ ⟨hc, hrw⟩
 try simp only at hc hrw
 rcases Nat.lt_or_ge c ns.length with hlt | hge
 ·rcases Nat.eq_zero_or_pos c with rfl | hc0
  ·refine' y723b
   (refine' ⟨(1, rows), _, _, _⟩; rotate_right; (refine SubA.auto rfl rfl rfl rfl ?_ ?_ <;> refine' fin_); rotate_right; exact ar2_)
   exact ⟨by omega, by rw [hrw, rowsT_one]⟩
  ·have hpc := hp c hc0 hlt
   rw [List.getElem?_eq_getElem hlt] at hpc
   have hpa := pf_at hlt
   obtain ⟨p, hpe⟩ : ∃ p, pf ns c = p := ⟨_, rfl⟩
   rw [hpe] at hpc hpa
   have hpar : ns[c].par = (p : Nat) := by have h1 : 0 <= ns[c].par := hpc.1; omega
   have hpl : p < ns.length := by omega
   have hx : rows[p]? = some (rowV ns c p) := by rw [hrw]; exact rowsT_at hpl
   have hrl : rows.length = ns.length := by rw [hrw, rowsT_len]
   have htl : (rowT ns p c).length <= c := by
    have := List.length_filter_le (isKid ns p) (List.range c)
    rw [List.length_range] at this; exact this
   have hst : rows.set p (.list false ((rowT ns p c ++ [c]).map pN)) = rowsT ns (c + 1) := by rw [hrw, <- hpe]; exact rowsT_succ hp hc0 hlt
   refine' yd706
   rw [hpar]
   refine DrawA.gh _ (Gh.openW 3 p rfl hx rfl rfl) ?_
   apply DrawA.lin wtL (by kernel_rfl) (by decide +kernel)
   have hpr : p < rows.length := by omega
   (conv => whnf); repeat' ((first | (apply PdC.same; · with_reducible rfl) | apply PdC.chk | apply PdA.mk | (apply EqA.mk; rfl) | (apply LzA.mk; · ((conv => whnf); repeat' ((first | (apply EqA.mk; rfl) | refine' z3b09 | fail) <;> (conv => whnf)))) | refine' zd706 | (fail "DrawA.lin") | ((refine LzA.mk (v := .wptr 3 p 0) (InA.mk p rfl hpr (EqA.mk rfl)) ?_)) | ((refine InA.mk p rfl hpr ?_)) | ((refine AppA.mk ((rowT ns p c ++ [c]).map pN) (by simp [pN, pI]) (by simp [maxLen]; omega) ?_))) <;> (conv => whnf))
   (refine' ⟨(c + 1, rows.set p (.list false ((rowT ns p c ++ [c]).map pN))), _, _, _⟩; rotate_right; (refine SubA.gh _ _ (Gh.closeW 3 7 (.list false ((rowT ns p c ++ [c]).map pN)) rfl rfl rfl rfl rfl rfl) ?_; refine SubA.auto rfl rfl rfl rfl ?_ ?_ <;> refine' fin_); rotate_right; exact ar2_)
   exact ⟨by omega, hst⟩
 ·obtain rfl : c = ns.length := by omega
  subst hrw
  have hz : List.replicate ((ns.length : Int)).toNat (pz (Value.int .i64 0)) = (List.replicate ns.length (0 : Int)).map pI := by rw [Int.toNat_natCast, List.map_replicate]; rfl
  have hord : ord ns = [] ++ (vis ns ns.length 0 ++ []) := by simp [ord]
  have hI := hV 0 [] (List.replicate ns.length 0) true none h0 (by omega) ⟨[], hord⟩ (by simp) (fun _ _ => rfl)
  have hpar : (srtN ns 0).par = -1 := rfl
  rw [hpar] at hI
  (conv => whnf); repeat' ((first | refine' z723b | ((refine IsL.mk ((List.replicate ns.length (0 : Int)).map pI) hz ?_))) <;> (conv => whnf))
  refine CallA.loc [0, 1, 2, 3, 5, 4, 6] [] rfl rfl (hI.mono ?_)
  rintro _ _ ⟨ps, g', h1, h2, rfl, rfl⟩
  rw [List.nil_append, show vis ns ns.length 0 = ord ns from rfl, show (ord ns).map (srtN ns) = srt ns from rfl]
  refine' yd706
  apply DrawA.lin wzL (by kernel_rfl) (by decide +kernel)
  (conv => whnf); repeat' ((first | (apply PdC.same; · with_reducible rfl) | apply PdC.chk | apply PdA.mk | (apply EqA.mk; rfl) | (apply LzA.mk; · ((conv => whnf); repeat' ((first | (apply EqA.mk; rfl) | refine' z3b09 | fail) <;> (conv => whnf)))) | refine' zd706 | (fail "DrawA.lin")) <;> (conv => whnf))
  (refine' RetK.mk _ _ _ [7, 5] (.tup [.agg [.buf 0], .buf 1]) ([some (.rws 50 false 3 2 79 ((srt ns).map Nd.pv) none [] none), some (.buf 3 false (ps.map pI))]) rfl rfl _ rfl rfl _ <;> refine' fin_)
  exact ⟨ps, rfl, rfl⟩
open Go.Abs
set_option maxRecDepth 100000
def bdL : Ln := (.lazy 0 (.lazy 1 (.lazy 2 (.lazy 3 (.lazy 4 (.lazy 5 (.one 6 (.lazy 7 (.lazy 8 (.one 9 .done))))))))))
theorem rdp_fld {S : Nat -> Prop} {w : World} {cs : List PV} {v : Value} (h : RdP S w (.agg cs) v) {c : PV} (hc : c ∈ cs) : ∃ u, RdP S w c u := by
 obtain ⟨k, hk, e⟩ := List.getElem_of_mem hc
 cases h with
 | agg _ vs hl ho hr => exact ⟨_, hr k c (by rw [List.getElem?_eq_getElem hk, e])⟩
theorem hasK_app {key : Value} {l : List (Value × Value)} {v : Value} {e : Value × Value} (h : HasK key l (some v)) (hne : e.1 ≠ key) : HasK key (l ++ [e]) (some v) := by
 obtain ⟨⟨x, hx, hk⟩, h2⟩ := h
 refine ⟨⟨x, List.mem_append.2 (.inl hx), hk⟩, fun y hy hk => ?_⟩
 rcases List.mem_append.1 hy with hy | hy
 ·exact h2 y hy hk
 ·rw [List.mem_singleton.1 hy] at hk; exact absurd hk hne
section
variable {ns : List Nd}
theorem bt_some (hb : Bt ns) {s : ByteArray} (h : hasP ns s = true) : HasK (.string s) (ptE ns ns.length) (some (.int .i64 (ixP ns s : Nat))) := by
 obtain ⟨h1, h2⟩ := ixP_spec h
 refine ⟨⟨_, List.mem_map_of_mem (List.mem_range.2 h1), by rw [h2]⟩, fun e he hk => ?_⟩
 obtain ⟨j, hj, rfl⟩ := List.mem_map.1 he
 have e1 : pathOf ns j = s := by simpa using hk
 rw [hb.inj (List.mem_range.1 hj) h1 (e1.trans h2.symm)]
theorem bt_none {s : ByteArray} (h : hasP ns s = false) : HasK (.string s) (ptE ns ns.length) none := pt_none h
theorem ptE_app (hb : Bt ns) (x : Nd) : ptE (ns ++ [x]) (ns ++ [x]).length = ptE ns ns.length ++ [(.string (pathOf (ns ++ [x]) ns.length), .int .i64 ns.length)] := by
 rw [List.length_append, List.length_singleton, ptE_succ]
 congr 1
 unfold ptE
 refine List.map_congr_left fun i hi => ?_
 rw [pathOf_app hb.par x (List.mem_range.1 hi)]
def NlN (ns : List Nd) : Prop := ∀ n ∈ ns, n.nl = true -> n.ps = []
theorem NlN.add (h : NlN ns) (s : ByteArray) : NlN (addN ns s) := fun n hn e => by
 unfold addN at hn
 split at hn
 ·exact h n hn e
 ·rcases List.mem_append.1 hn with hn | hn
  ·exact h n hn e
  ·rw [List.mem_singleton.1 hn]; rfl
theorem edN_nl {n : Nd} (h : n.nl = true -> n.ps = []) (x : Ed) : (edN n x).nl = true -> (edN n x).ps = [] := by
 unfold edN
 split
 ·intro e
  show delP x.n n.ps = []
  rw [h e]; rfl
 ·intro e; cases e
theorem NlN.ed (h : NlN ns) (x : Ed) : NlN (edS ns x) := fun n hn => by
 rcases edS_mem hn with h1 | ⟨m, h1 | rfl, rfl⟩
 ·exact h n h1
 ·exact edN_nl (h m h1) x
 ·exact edN_nl (fun _ => rfl) x
end
theorem NlN.addAll : ∀ (R : List ByteArray) {ns : List Nd}, NlN ns -> NlN (addAll ns R)
 | [], _, h => h
 | s :: R, _, h => NlN.addAll R (h.add s)
theorem NlN.edL : ∀ (l : List Ed) {ns : List Nd}, NlN ns -> NlN (edL ns l)
 | [], _, h => h
 | x :: l, _, h => NlN.edL l (h.ed x)
theorem edL_snoc (ns : List Nd) (l : List Ed) (x : Ed) : edL ns (l ++ [x]) = edS (edL ns l) x := by rw [edL_app]; rfl
theorem allE_take (os : List Ov) {c : Nat} (hc : c < os.length) : allE (os.take (c + 1)) = allE (os.take c) ++ os[c].es := by
 unfold allE
 rw [List.take_succ_eq_append_getElem hc, List.flatMap_append]
 simp
theorem Fits.fewA {ns : List Nd} {R : List ByteArray} {os : List Ov} (h : Fits ns R os) : FewK (addAll ns R) 440 24 := by
 have hl : ∀ o ∈ os, o.es.length <= 40 := fun o ho => (h.form.ov o ho).len
 have hR := h.add.len hl h.form.len
 have hA := h.addA.len
 rw [addAll_full] at hA
 have hv := h.form.val.lim
 exact ⟨by have := hv.2.1; omega, fun m hm => by
  rcases addAll_mem R hm with h2 | h2
  ·exact (hv.2.2 m h2).1
  ·rw [h2]; simp⟩
theorem z9af5 {P : Prop} (h : P := by
 ((first | refine' gC | refine' gpI | refine' gpS | refine' gpN | refine' gpB | refine' gPrpv | refine' gNdpv | refine' gEdpv | refine' gOvpv | refine' gE | fail) <;> (conv => whnf)) <;> (solve_by_elim (newGoals := .nonDependentOnly) (symm := false) (exfalso := false) (transparency := .reducible) only [rfl, park_])) : P := h
set_option maxHeartbeats 4000000 in
theorem build_call (nl no nr : Bool) (ns : List Nd) (os : List Ov) (R : List ByteArray) (hF : Fits ns R os) (ho : ∀ o ∈ os, Mo o) (hA : ACall Tryz.prog 29 [.p (.list no (os.map Ov.pv))] [] fun r H => r = .p (.list nr (R.map pS)) /\ H = []) : ACall Tryz.prog 32 [.p (.agg [.list nl (ns.map Nd.pv)]), .p (.list no (os.map Ov.pv))] [] fun r H => r = .p (.agg [.list false ((bldR ns R os).map Nd.pv)]) /\ H = [] := by
 refine acall_known (fact := NdNl nl ns) ⟨_, Tryz.func32, rfl, rfl⟩ (fun m S w vals hr => by
  have h0 := hr 0 _ rfl
  cases h0 with | p _ _ h =>
   obtain ⟨u, hu⟩ := rdp_fld h (List.mem_singleton.2 rfl)
   exact NdNl.of hu) fun hn => ?_
 have hb0 := hF.form.val.bt
 have hvf := hF.form.val.lim
 have hos := hF.form.len
 have hRl := hF.add.len (fun o ho => (hF.form.ov o ho).len) hos
 have hsrt : srt ns = ns := srt_self hb0.par hF.form.val.pre hF.form.val.asc hb0.pos (by rw [List.getElem?_eq_getElem hb0.pos]; exact hb0.root hb0.pos)
 have hW := wTree_call nl ns hb0.par hb0.sib hb0.pos (by have := hvf.2.1; omega) (fun n h => by have := (hvf.2.2 n h).1; omega)
 rw [hsrt] at hW
 have hnl0 : NlN ns := hn.2
 refine acall_enter Tryz.func32 rfl rfl tabOK rfl ?_
 refine' y8bcb
 refine CallA.loc [] [] rfl rfl ((paths_call nl ns hF.form.val).mono ?_)
 rintro _ _ ⟨rfl, rfl⟩
 refine' y8bcb
 refine CallA.loc [] [] rfl rfl (hW.mono ?_)
 rintro _ _ ⟨qs, rfl, rfl⟩
 refine' y8bcb
 refine CallA.loc [] [] rfl rfl (hA.mono ?_)
 rintro _ _ ⟨rfl, rfl⟩
 refine' y8bcb
 refine loop_rule (fun (⟨c, ms⟩ : Nat × List Nd) => ⟨[(1, .p (.list no (os.map Ov.pv))), (4, .ptr 0 0), (5, .mp 1), (6, .ptr 2 0), (30, .p (.list nr (R.map pS))), (31, .p (pI R.length)), (32, .p (pI c))], [some (.cells [.p (.list true [])]), some (.map (ptE ms ms.length)), some (.cells [.buf 3]), some (.rws 50 false 3 2 79 (ms.map Nd.pv) none [] none)]⟩) (fun ⟨c, ms⟩ => c <= R.length /\ ms = addAll ns (R.take c)) (fun ⟨c, ms⟩ => R.length - c) (0, ns) ?_ ?_ ?_; (refine SubA.auto rfl rfl rfl rfl ?_ ?_ <;> refine' fin_)
 ·exact ⟨Nat.zero_le _, rfl⟩
 rintro ⟨c, ms⟩ ⟨hc, hms⟩
 try simp only at hc hms
 have hK := hF.addK c hc
 have hmb : Bt ms := by rw [hms]; exact hK.bt
 have hml : ms.length <= 440 := by
  have h1 : ms.length <= ns.length + c := by rw [hms]; exact hK.len
  have := hvf.2.1; omega
 rcases Nat.lt_or_ge c R.length with hlt | hge
 ·have hsu := addAll_succ ns R hlt
  have hAS := add_at hF.grown hF.add.asc hlt (hF.addK c hc)
  rw [<- hms] at hsu hAS
  obtain ⟨q, n, hs, hnm, hq, hpq⟩ := hF.grown _ (List.getElem_mem hlt)
  have hsz : R[c].size <= 1000000 := by
   obtain ⟨o, h1, x, h2, _, h3⟩ := addPs_mem.1 ((hF.add.mem _).1 (List.getElem_mem hlt))
   rw [<- h3]; exact ((ho o h1).s x h2).1
  cases hh : hasP ms R[c] with
  | true =>
   have hk := bt_some hmb hh
   have e : addN ms R[c] = ms := if_pos hh
   (conv => whnf); repeat' ((first | refine' z8bcb | ((refine LookA.mk _ trivial (ptE_key ms _) hk ?_))) <;> (conv => whnf))
   (refine' ⟨(c + 1, ms), _, _, _⟩; rotate_right; (refine SubA.auto rfl rfl rfl rfl ?_ ?_ <;> refine' fin_); rotate_right; exact ar2_)
   exact ⟨by omega, by rw [hsu, e]⟩
  | false =>
   have hk := bt_none hh
   have e : addN ms R[c] = ms ++ [newN ms R[c]] := if_neg (by rw [hh]; exact Bool.false_ne_true)
   have hhd : hdP R[c] = q := by rw [hs]; exact hdP_join (nameOK_nosl hnm).1
   have htl : tlP R[c] = n := by rw [hs]; exact tlP_join (nameOK_nosl hnm).1
   have hSp := wSplit_call q n (nameOK_nosl hnm).1 (by rw [<- hs]; omega)
   rw [<- hs] at hSp
   (conv => whnf); repeat' ((first | refine' z8bcb | ((refine LookA.mk _ trivial (ptE_key ms _) hk ?_))) <;> (conv => whnf))
   refine CallA.loc [] [] rfl rfl (hSp.mono ?_)
   rintro _ _ ⟨rfl, rfl⟩
   have hpp : hasP ms (parP q) = true := by rw [hms]; exact add_par hF.add.asc hlt hK hs hpq
   have hne : parP q ≠ R[c] := fun e => by rw [e, hh] at hpp; cases hpp
   have hnk : ∀ e ∈ ptE ms ms.length, e.1 ≠ .string R[c] := hk
   have hk2 : HasK (.string (parP q)) (ptE ms ms.length ++ [(.string R[c], .int .i64 (ms.length : Nat))]) (some (.int .i64 (ixP ms (parP q) : Nat))) := hasK_app (bt_some hmb hpp) (fun h => hne (by injection h with h; exact h.symm))
   have hkey2 : ∀ e ∈ ptE ms ms.length ++ [(.string R[c], .int .i64 (ms.length : Nat))], MapKept.IsKey .string e.1 := fun e he => by
    rcases List.mem_append.1 he with he | he
    ·exact ptE_key ms _ e he
    ·rw [List.mem_singleton.1 he]; exact trivial
   have hmap : ptE ms ms.length ++ [(.string R[c], .int .i64 (ms.length : Nat))] = ptE (addN ms R[c]) (addN ms R[c]).length := by
    rw [e, ptE_app hmb, (hAS.new hh).2]
   have hnn : Nd.pv (newN ms R[c]) = .agg [pI (ixP ms (parP q) : Nat), pS n, .list true []] := by
    unfold newN Nd.pv
    rw [hhd, htl]; rfl
   have hnil : ∀ x ∈ [Nd.pv (newN ms R[c])], x.cells[2]? = some (.list true []) := fun x hx => by rw [List.mem_singleton.1 hx, hnn]; rfl
   have hadd : ms.map Nd.pv ++ [Nd.pv (newN ms R[c])] = (addN ms R[c]).map Nd.pv := by rw [e]; simp
   (conv => whnf); repeat' ((first | (refine NewKey.mk trivial (ptE_key ms _) hnk ?_) | (refine IsL.mk [Nd.pv (newN ms R[c])] (by rw [hnn]; rfl) ?_) | (refine RowNil.mk hnil ?_) | (refine AppA.mk ((addN ms R[c]).map Nd.pv) hadd (by rw [e]; simp [maxLen]; omega) ?_) | refine' z8bcb | ((refine LookA.mk _ trivial hkey2 hk2 ?_))) <;> (conv => whnf))
   rw [hmap]
   (refine' ⟨(c + 1, addN ms R[c]), _, _, _⟩; rotate_right; (refine SubA.auto rfl rfl rfl rfl ?_ ?_ <;> refine' fin_); rotate_right; exact ar2_)
   exact ⟨by omega, hsu.symm⟩
 ·obtain rfl : c = R.length := by omega
  rw [List.take_length] at hms
  clear hK
  have hMb := hF.bt
  have hMf := hF.fewA
  have hMn := NlN.addAll R hnl0
  have hMh : ∀ x ∈ allE os, hasP (addAll ns R) x.p = true := fun x hx => hF.has hx
  have hpre : bldR ns R os = srt (edL (addAll ns R) (allE os)) := rfl
  rw [hpre]
  rw [<- hms] at hMb hMf hMn hMh ⊢
  clear hms hpre
  have hEl := allE_len os fun o ho => (hF.form.ov o ho).len
  generalize hM : ms = M at hMb hMf hMn hMh ⊢
  refine' y8bcb
  refine loop_rule (fun (⟨c, ms⟩ : Nat × List Nd) => ⟨[(4, .ptr 0 0), (5, .mp 1), (6, .ptr 2 0), (64, .p (.list no (os.map Ov.pv))), (65, .p (pI os.length)), (66, .p (pI c))], [some (.cells [.p (.list true [])]), some (.map (ptE M M.length)), some (.cells [.buf 3]), some (.rws 50 false 3 2 79 (ms.map Nd.pv) none [] none)]⟩) (fun ⟨c, ms⟩ => c <= os.length /\ ms = edL M (allE (os.take c))) (fun ⟨c, ms⟩ => os.length - c) (0, M) ?_ ?_ ?_; (refine SubA.auto rfl rfl rfl rfl ?_ ?_ <;> refine' fin_)
  ·exact ⟨Nat.zero_le _, rfl⟩
  clear hml hmb
  rintro ⟨c, ms⟩ ⟨hc, hms⟩
  try simp only at hc hms
  rcases Nat.lt_or_ge c os.length with hlt | hge
  ·have hmo := ho _ (List.getElem_mem hlt)
   have hmol := hmo.l
   refine' y8bcb
   refine loop_rule (fun (⟨d, ms⟩ : Nat × List Nd) => ⟨[(4, .ptr 0 0), (5, .mp 1), (6, .ptr 2 0), (64, .p (.list no (os.map Ov.pv))), (65, .p (pI os.length)), (66, .p (pI c)), (71, .p (.list os[c].nl (os[c].es.map Ed.pv))), (72, .p (pI os[c].es.length)), (73, .p (pI d))], [some (.cells [.p (.list true [])]), some (.map (ptE M M.length)), some (.cells [.buf 3]), some (.rws 50 false 3 2 79 (ms.map Nd.pv) none [] none)]⟩) (fun ⟨d, ms⟩ => d <= os[c].es.length /\ ms = edL M (allE (os.take c) ++ os[c].es.take d)) (fun ⟨d, ms⟩ => os[c].es.length - d) (0, ms) ?_ ?_ ?_; (refine SubA.auto rfl rfl rfl rfl ?_ ?_ <;> refine' fin_)
   ·exact ⟨Nat.zero_le _, by rw [hms]; simp⟩
   clear hms
   rintro ⟨d, ms⟩ ⟨hd, hms⟩
   try simp only at hd hms
   rcases Nat.lt_or_ge d os[c].es.length with hdl | hdg
   ·have hmem : os[c].es[d] ∈ allE os := allE_mem.2 ⟨_, List.getElem_mem hlt, List.getElem_mem hdl⟩
    have hnx : edL M (allE (os.take c) ++ os[c].es.take (d + 1)) = edS ms os[c].es[d] := by
     rw [List.take_succ_eq_append_getElem hdl, <- List.append_assoc, edL_snoc, <- hms]
    by_cases hk : os[c].es[d].k = 1
    ·have e : edS ms os[c].es[d] = ms := if_pos hk
     refine' y8bcb
     (refine' ⟨(d + 1, ms), _, _, _⟩; rotate_right; (refine SubA.auto rfl rfl rfl rfl ?_ ?_ <;> refine' fin_); rotate_right; exact ar2_)
     exact ⟨by omega, by rw [hnx, e]⟩
    ·have hst : SameT M ms := by rw [hms]; exact edL_same _ _
     have hmb : Bt ms := by rw [hms]; exact edL_bt _ hMb
     have hmf : FewK ms 440 (24 + (allE (os.take c) ++ os[c].es.take d).length) := by rw [hms]; exact edL_few _ hMf
     have hmn : NlN ms := by rw [hms]; exact NlN.edL _ hMn
     have hpl : (allE (os.take c) ++ os[c].es.take d).length <= 40 * os.length + 40 := by
      have h1 := allE_len (os.take c) fun o h => (hF.form.ov o (List.mem_of_mem_take h)).len
      have h2 := (hF.form.ov _ (List.getElem_mem hlt)).len
      rw [List.length_append, List.length_take]
      rw [List.length_take] at h1
      omega
     have hhM := hMh _ hmem
     have hkM := bt_some hMb hhM
     have hhm : hasP ms os[c].es[d].p = true := by rw [hst.hasP]; exact hhM
     have hix : ixP ms os[c].es[d].p = ixP M os[c].es[d].p := hst.ixP _
     obtain ⟨hil, _⟩ := ixP_spec hhm
     have heS : edS ms os[c].es[d] = ms.set (ixP ms os[c].es[d].p) (edN ((ms[ixP ms os[c].es[d].p]?).getD default) os[c].es[d]) := if_neg hk
     rw [<- hix] at hkM
     generalize ixP ms os[c].es[d].p = i at hkM hil heS
     rw [List.getElem?_eq_getElem hil] at heS
     have hma := List.getElem_mem hil
     have hset : (ms.map Nd.pv).set i (Nd.pv (edN ms[i] os[c].es[d])) = (edS ms os[c].es[d]).map Nd.pv := by rw [heS, List.map_set]; rfl
     have hcl1 : (Nd.pv (edN ms[i] os[c].es[d])).cells = [pI ms[i].par, pS ms[i].nm, .list (edP ms[i].nl ms[i].ps os[c].es[d]).1 ((edP ms[i].nl ms[i].ps os[c].es[d]).2.map Pr.pv)] := by rw [edN_edP]; rfl
     have hx : (ms.map Nd.pv)[i]? = some (Nd.pv ms[i]) := by rw [List.getElem?_map, List.getElem?_eq_getElem hil]; rfl
     have hE := edit_call ms[i].nl ms[i].ps os[c].es[d] (hmn _ hma) (hmb.asc _ hma) (by have := hmf.2 _ hma; omega)
     (conv => whnf); repeat' ((first | refine' z668c | ((refine LookA.mk _ trivial (ptE_key M _) hkM ?_))) <;> (conv => whnf))
     refine DrawA.gh _ (Gh.openW 3 i rfl hx rfl rfl) ?_
     apply DrawA.lin bdL (by kernel_rfl) (by decide +kernel)
     (conv => whnf); repeat' ((first | (apply PdC.same; · with_reducible rfl) | apply PdC.chk | apply PdA.mk | (apply EqA.mk; rfl) | (apply LzA.mk; · ((conv => whnf); repeat' ((first | (apply EqA.mk; rfl) | refine' z9af5 | fail) <;> (conv => whnf)))) | refine' z668c | (fail "DrawA.lin") | ((refine CallA.loc [5] [] rfl rfl (hE.mono ?_); rintro _ _ ⟨rfl, rfl⟩))) <;> (conv => whnf))
     (refine' ⟨(d + 1, edS ms os[c].es[d]), _, _, _⟩; rotate_right; (refine SubA.gh _ _ (Gh.closeW 3 6 (Nd.pv (edN ms[i] os[c].es[d])) rfl rfl rfl rfl hcl1 hset) ?_; refine SubA.auto rfl rfl rfl rfl ?_ ?_ <;> refine' fin_); rotate_right; exact ar2_)
     exact ⟨by omega, hnx.symm⟩
   ·obtain rfl : d = os[c].es.length := by omega
    refine' y8bcb
    (refine' ⟨(c + 1, ms), _, _, _⟩; rotate_right; (refine SubA.auto rfl rfl rfl rfl ?_ ?_ <;> refine' fin_); rotate_right; exact ar2_)
    refine ⟨by omega, ?_⟩
    rw [hms, List.take_length, allE_take os hlt]
  ·obtain rfl : c = os.length := by omega
   rw [List.take_length] at hms
   have hst : SameT M ms := by rw [hms]; exact edL_same _ _
   have hmb : Bt ms := by rw [hms]; exact edL_bt _ hMb
   have hmf : FewK ms 440 (24 + (allE os).length) := by rw [hms]; exact edL_few _ hMf
   rw [<- hms]
   have hW2 := wTree_call false ms hmb.par hmb.sib hmb.pos (by have := hmf.1; omega) (fun n h => by have := hmf.2 n h; omega)
   refine' y8bcb
   refine CallA.loc [] [3] rfl rfl (hW2.mono ?_)
   rintro _ _ ⟨ps2, rfl, rfl⟩
   refine' y8bcb
   (refine RetK.frz _ _ _ [4] ?_; refine' RetK.auto (.p (.agg [.list false ((srt ms).map Nd.pv)])) ([]) rfl rfl rfl rfl _ _ _ <;> refine' fin_)
open Go.Abs
set_option maxRecDepth 100000
def trA : Ln := (.lazy 0 (.lazy 1 (.lazy 2 (.one 3 (.one 4 (.lazy 5 .done))))))
structure OKs (ns : List Nd) (os : List Ov) : Prop where
 fits : Fits ns (addR os) os
 val : Val (bldR ns (addR os) os)
structure TreeR (ns : List Nd) (os : List Ov) (t : List Nd) (a b : Int) (p n : ByteArray) (e : Int) : Prop where
 ok : e = 0 -> OKs ns os /\ t = bldR ns (addR os) os
 no : e ≠ 0 -> ¬ OKs ns os
 con : e = 8 \/ e = 4 -> FormOK ns os /\ Con ns (addR os) os a b p n e
theorem Con.bad {ns : List Nd} {R : List ByteArray} {os : List Ov} {a b : Int} {p n : ByteArray} {e : Int} (h : Con ns R os a b p n e) (he : e ≠ 0) : (e = 8 \/ e = 4) /\ ¬ (NoCl os /\ NoMs ns R os) := by
 rcases h with ⟨rfl, i, k, hi, hk, _, _, x, hx, _⟩ | ⟨rfl, _, _, i, hi, _, x, hx, _⟩ | ⟨rfl, _⟩
 ·refine ⟨.inl rfl, fun h => ?_⟩
  rw [h.1 i k hi hk] at hx; cases hx
 ·refine ⟨.inr rfl, fun h => ?_⟩
  rw [h.2 i hi] at hx; cases hx
 ·exact absurd rfl he
set_option maxHeartbeats 4000000 in
theorem sTree_call (nl no : Bool) (ns : List Nd) (os : List Ov) (hs : Sm ns) (hf : Few ns) (ho : ∀ o ∈ os, Mo o) (hl : os.length <= 1000) : ACall Tryz.prog 8 [.p (.agg [.list nl (ns.map Nd.pv)]), .p (.list no (os.map Ov.pv))] [] fun r H => (∃ (nt : Bool) (t : List Nd) (a b : Int) (p n : ByteArray) (e : Int), r = .tup [.p (.agg [.list nt (t.map Nd.pv)]), .p (.agg [pI a, pI b, pS p, pS n]), .p (pI e)] /\ TreeR ns os t a b p n e) /\ H = [] := by
 refine acall_enter Tryz.func8 rfl rfl tabOK rfl ?_
 refine' y8bcb
 refine CallA.loc [] [] rfl rfl ((form_call nl no ns os hs hf ho hl).mono ?_)
 rintro _ _ ⟨⟨e, rfl, he, he4, he8⟩, rfl⟩
 by_cases h0 : e = 0
 rotate_left
 ·refine' y8bcb
  (refine' RetK.auto (.tup [.p (.agg [.list true (([] : List Nd).map Nd.pv)]), .p (.agg [pI 0, pI 0, pS ⟨#[]⟩, pS ⟨#[]⟩]), .p (pI e)]) ([]) rfl rfl rfl rfl _ _ _ <;> refine' fin_)
  exact ⟨true, [], 0, 0, ⟨#[]⟩, ⟨#[]⟩, e, rfl, fun h => absurd h h0, fun _ h => h0 (he.2 h.fits.form), fun h => by omega⟩
 have hF := he.1 h0
 subst h0
 have hA := added_call no os ho (by have := hF.len; omega)
 have hI := addR_is os
 refine' y8bcb
 refine CallA.loc [] [] rfl rfl ((contra_call nl no _ ns os (addR os) hF ho hA).mono ?_)
 rintro _ _ ⟨⟨a, b, p, n, e, rfl, hc⟩, rfl⟩
 by_cases h0 : e = 0
 rotate_left
 ·have hb := hc.bad h0
  refine' y668c
  apply DrawA.lin trA (by kernel_rfl) (by decide +kernel)
  (conv => whnf); repeat' ((first | (apply PdC.same; · with_reducible rfl) | apply PdC.chk | apply PdA.mk | (apply EqA.mk; rfl) | (apply LzA.mk; · ((conv => whnf); repeat' ((first | (apply EqA.mk; rfl) | refine' z9af5 | fail) <;> (conv => whnf)))) | refine' z668c | (fail "DrawA.lin")) <;> (conv => whnf))
  (refine' RetK.auto (.tup [.p (.agg [.list true (([] : List Nd).map Nd.pv)]), .p (.agg [pI a, pI b, pS p, pS n]), .p (pI e)]) ([]) rfl rfl rfl rfl _ _ _ <;> refine' fin_)
  exact ⟨true, [], a, b, p, n, e, rfl, fun h => absurd h h0, fun _ h => hb.2 ⟨h.fits.nocl, h.fits.noms⟩, fun _ => ⟨hF, hc⟩⟩
 subst h0
 have hnn : NoCl os /\ NoMs ns (addR os) os := by
  rcases hc with ⟨h, _⟩ | ⟨h, _⟩ | ⟨_, h⟩
  ·omega
  ·omega
  ·exact h
 have hFit : Fits ns (addR os) os := ⟨hF, hI, hnn.1, hnn.2⟩
 refine' y8bcb
 refine CallA.loc [] [] rfl rfl ((build_call nl no _ ns os (addR os) hFit ho hA).mono ?_)
 rintro _ _ ⟨rfl, rfl⟩
 refine' y8bcb
 refine CallA.loc [] [] rfl rfl ((Check_call false _ hFit.bld_sm hFit.bld_few).mono ?_)
 rintro _ _ ⟨⟨e, rfl, he, he4, he8⟩, rfl⟩
 by_cases h0 : e = 0
 rotate_left
 ·refine' y8bcb
  (refine' RetK.auto (.tup [.p (.agg [.list true (([] : List Nd).map Nd.pv)]), .p (.agg [pI (-1), pI (-1), pS ⟨#[]⟩, pS ⟨#[]⟩]), .p (pI e)]) ([]) rfl rfl rfl rfl _ _ _ <;> refine' fin_)
  exact ⟨true, [], -1, -1, ⟨#[]⟩, ⟨#[]⟩, e, rfl, fun h => absurd h h0, fun _ h => h0 (he.2 h.val), fun h => by omega⟩
 have hV := he.1 h0
 subst h0
 refine' y8bcb
 (refine' RetK.auto (.tup [.p (.agg [.list false ((bldR ns (addR os) os).map Nd.pv)]), .p (.agg [pI 0, pI 0, pS ⟨#[]⟩, pS ⟨#[]⟩]), .p (pI 0)]) ([]) rfl rfl rfl rfl _ _ _ <;> refine' fin_)
 exact ⟨false, _, 0, 0, ⟨#[]⟩, ⟨#[]⟩, 0, rfl, fun _ => ⟨⟨hFit, hV⟩, rfl⟩, fun h => absurd rfl h, fun h => by omega⟩
open Go.Abs
set_option maxRecDepth 100000
def puA : Ln := (.lazy 0 (.lazy 1 (.lazy 2 (.one 3 (.lazy 4 .done)))))
def puL : Ln := (.lazy 0 (.lazy 2 (.lazy 3 (.two 1 4 (.one 4 (.one 5 (.one 6 (.lazy 7 .done)))) (.one 1 (.one 5 (.one 6 (.lazy 7 .done))))))))
def insV : List Ov -> Ov -> List Ov
 | [], o => [o]
 | x :: r, o => if bless x.nm o.nm = true then x :: insV r o else o :: x :: r
theorem insV_cut {o : Ov} : ∀ {os : List Ov} {k : Nat}, k <= os.length -> (∀ j (h : j < os.length), j < k -> bless os[j].nm o.nm = true) -> (∀ h : k < os.length, bless os[k].nm o.nm = false) -> insV os o = os.take k ++ o :: os.drop k
 | [], k, hk, _, _ => by simp [insV]
 | x :: r, 0, _, _, h => by
  have := h (by simp)
  unfold insV
  rw [if_neg (by rw [show x.nm = (x :: r)[0].nm from rfl, this]; exact Bool.false_ne_true)]; rfl
 | x :: r, k + 1, hk, h1, h2 => by
  have : bless x.nm o.nm = true := h1 0 (by simp) (by omega)
  unfold insV
  rw [if_pos this, insV_cut (k := k) (by simpa using hk) (fun j hj hjk => h1 (j + 1) (by simp; omega) (by omega)) (fun h => h2 (by simp; omega))]
  rfl
theorem At.insV {os : List Ov} {o : Ov} {i : Nat} {b : Bool} (h : At (os.map Ov.nm) o.nm i b) : insV os o = os.take i ++ o :: os.drop i :=
 insV_cut (by have := h.le; simpa using this) (fun j hj hji => by have := h.lo j (by simpa using hj) hji; rwa [List.getElem_map] at this) (fun hi => by have := h.hi i (by simpa using hi) (Nat.le_refl _); rwa [List.getElem_map] at this)
theorem insV_mem {o x : Ov} : ∀ {os : List Ov}, x ∈ insV os o -> x = o \/ x ∈ os
 | [], h => .inl (by simpa [insV] using h)
 | y :: r, h => by
  unfold insV at h
  split at h
  ·rcases List.mem_cons.1 h with rfl | h
   ·exact .inr (List.mem_cons_self ..)
   ·exact (insV_mem h).imp id (List.mem_cons_of_mem _)
  ·rcases List.mem_cons.1 h with rfl | h
   ·exact .inl rfl
   ·exact .inr h
theorem insV_mem2 {o : Ov} : ∀ {os : List Ov}, o ∈ insV os o
 | [] => by simp [insV]
 | y :: r => by
  unfold insV
  split
  ·exact List.mem_cons_of_mem _ insV_mem2
  ·exact List.mem_cons_self ..
theorem insV_len (o : Ov) : ∀ (os : List Ov), (insV os o).length = os.length + 1
 | [] => rfl
 | y :: r => by
  unfold insV
  split
  ·rw [List.length_cons, insV_len o r]; rfl
  ·rfl
theorem form_ascN {ns : List Nd} {os : List Ov} (h : FormOK ns os) : AscN (os.map Ov.nm) := by
 have key : ∀ (d i : Nat) (hj : i + d + 1 < os.length), bless (os[i]'(by omega)).nm (os[i + d + 1]'hj).nm = true := by
  intro d
  induction d with
  | zero => intro i hj; exact h.asc (i + 1) hj (by omega)
  | succ d ih => intro i hj; exact bless_trans (ih i (by omega)) (h.asc (i + d + 1 + 1) hj (by omega))
 intro i j hi hj
 rw [List.length_map] at hj
 rw [List.getElem_map, List.getElem_map]
 obtain ⟨d, rfl⟩ : ∃ d, j = i + d + 1 := ⟨j - i - 1, by omega⟩
 exact key d i hj
structure PushR (ns : List Nd) (os : List Ov) (o : Ov) (nb : Bool) (xs : List Ov) (a b : Int) (p n : ByteArray) (e : Int) : Prop where
 ok : e = 0 -> OKs ns (insV os o) /\ xs = insV os o
 con : e = 8 \/ e = 4 -> FormOK ns (insV os o) /\ Con ns (addR (insV os o)) (insV os o) a b p n e
set_option maxHeartbeats 4000000 in
theorem push_call (nl no : Bool) (ns : List Nd) (os : List Ov) (o : Ov) (hs : Sm ns) (hf : Few ns) (ho : ∀ o ∈ os, Mo o) (hmo : Mo o) (hl : os.length <= 900) (hi : os = [] \/ OKs ns os) : ACall Tryz.prog 6 [.p (.agg [.list nl (ns.map Nd.pv)]), .p (.list no (os.map Ov.pv)), .p o.pv] [] fun r H => (∃ (nb : Bool) (xs : List Ov) (a b : Int) (p n : ByteArray) (e : Int), r = .tup [.p (.list nb (xs.map Ov.pv)), .p (.agg [pI a, pI b, pS p, pS n]), .p (pI e)] /\ PushR ns os o nb xs a b p n e) /\ H = [] := by
 refine acall_known (fact := OvNl no os) ⟨_, Tryz.func6, rfl, rfl⟩ (fun m S w vals hr => by
  have h0 := hr 1 _ rfl
  cases h0 with | p _ _ h => exact OvNl.of h) fun hn => ?_
 refine acall_enter Tryz.func6 rfl rfl tabOK rfl ?_
 have hasc : AscN (os.map Ov.nm) := by
  rcases hi with rfl | h
  ·intro i j _ hj; simp at hj
  ·exact form_ascN h.fits.form
 refine' y8bcb
 refine CallA.loc [] [] rfl rfl ((sTree_call nl no ns os hs hf ho (by omega)).mono ?_)
 rintro _ _ ⟨⟨nt, t, a, b, p, n, e, rfl, hT⟩, rfl⟩
 by_cases h0 : e = 0
 rotate_left
 ·have hne : ¬ (e = 8 \/ e = 4) := fun h => by
   obtain ⟨h1, h2⟩ := hT.con h
   rcases hi with rfl | h3
   ·rcases h2 with ⟨_, i, k, hik, hk, _⟩ | ⟨_, _, _, i, hi, _⟩ | ⟨h4, _⟩
    ·simp at hk
    ·simp at hi
    ·omega
   ·exact hT.no h0 h3
  refine' y668c
  apply DrawA.lin puA (by kernel_rfl) (by decide +kernel)
  (conv => whnf); repeat' ((first | (apply PdC.same; · with_reducible rfl) | apply PdC.chk | apply PdA.mk | (apply EqA.mk; rfl) | (apply LzA.mk; · ((conv => whnf); repeat' ((first | (apply EqA.mk; rfl) | refine' z9af5 | fail) <;> (conv => whnf)))) | refine' z668c | (fail "DrawA.lin")) <;> (conv => whnf))
  (refine' RetK.auto (.tup [.p (.list true (([] : List Ov).map Ov.pv)), .p (.agg [pI a, pI b, pS p, pS n]), .p (pI e)]) ([]) rfl rfl rfl rfl _ _ _ <;> refine' fin_)
  exact ⟨true, [], a, b, p, n, e, rfl, fun h => absurd h h0, fun h => absurd h hne⟩
 subst h0
 clear hT
 refine' y8bcb
 refine CallA.loc [] [] rfl rfl ((BSOv_call 15 o.nm no os (fun p _ => names_call p o.nm) (by omega) hasc).mono ?_)
 rintro _ _ ⟨i, bb, hA, rfl, rfl⟩
 cases bb with
 | true =>
  refine' y8bcb
  (refine' RetK.auto (.tup [.p (.list true (([] : List Ov).map Ov.pv)), .p (.agg [pI 0, pI 0, pS ⟨#[]⟩, pS ⟨#[]⟩]), .p (pI 5)]) ([]) rfl rfl rfl rfl _ _ _ <;> refine' fin_)
  exact ⟨true, [], 0, 0, ⟨#[]⟩, ⟨#[]⟩, 5, rfl, fun h => by omega, fun h => by omega⟩
 | false =>
  have hle := hA.le
  rw [List.length_map] at hle
  have hins : (os.map Ov.pv).take i ++ Ov.pv o :: (os.map Ov.pv).drop i = (insV os o).map Ov.pv := by
   rw [hA.insV]
   simp [List.map_append, List.map_take, List.map_drop]
  have hmI : ∀ x ∈ insV os o, Mo x := fun x hx => by
   rcases insV_mem hx with rfl | h
   ·exact hmo
   ·exact ho x h
  have hlI := insV_len o os
  have hI := insO_call no false (os.map Ov.pv) (Ov.pv o) i (by simpa using hle) (by simp; omega)
  refine' y668c
  refine DrawA.meet (fun (_u : Unit) => ⟨[(3, .ptr 0 0), (7, .ptr 1 0), (14, .p (.list false ((insV os o).map Ov.pv)))], [some (.cells [.p (.list nl (ns.map Nd.pv))]), some (.cells [.p (pI 0), .p (pI 0), .p (pS ⟨#[]⟩), .p (pS ⟨#[]⟩)])]⟩) (fun (_u : Unit) => True) (DrawB.lin puL (by kernel_rfl) (by decide +kernel) ?_) ?_
  ·(conv => whnf); repeat' ((first | (apply PdC.same; · with_reducible rfl) | apply PdC.chk | apply PdA.mk | (apply EqA.mk; rfl) | (apply LzA.mk; · ((conv => whnf); repeat' ((first | (apply EqA.mk; rfl) | refine' z9af5 | fail) <;> (conv => whnf)))) | refine' z668c | (fail "DrawA.lin") | ((refine CallA.loc [] [] rfl rfl ((cloneO_call no os hn.1 (by omega)).mono ?_); rintro _ _ ⟨rfl, rfl⟩)) | ((refine CallA.loc [5, 6] [] rfl rfl (hI.mono ?_); rintro _ _ ⟨rfl, rfl⟩; rw [hins])) | ((refine CallA.loc [6, 5] [] rfl rfl (hI.mono ?_); rintro _ _ ⟨rfl, rfl⟩; rw [hins])) | ((refine CallA.loc [] [7] rfl rfl ((copied_call (insV os o) hmI (by omega)).mono ?_); rintro _ _ ⟨rfl, rfl⟩))) <;> (conv => whnf))
   all_goals
    (refine' ⟨(), _, _⟩; rotate_right; (refine SubA.auto rfl rfl rfl rfl ?_ ?_ <;> refine' fin_); rotate_right; exact ar2_)
  rintro _ -
  refine' y8bcb
  refine CallA.loc [] [] rfl rfl ((sTree_call nl false ns (insV os o) hs hf hmI (by omega)).mono ?_)
  rintro _ _ ⟨⟨nt2, t2, a2, b2, p2, n2, e2, rfl, hT⟩, rfl⟩
  by_cases h0 : e2 = 0
  rotate_left
  ·refine' y668c
   apply DrawA.lin puA (by kernel_rfl) (by decide +kernel)
   (conv => whnf); repeat' ((first | (apply PdC.same; · with_reducible rfl) | apply PdC.chk | apply PdA.mk | (apply EqA.mk; rfl) | (apply LzA.mk; · ((conv => whnf); repeat' ((first | (apply EqA.mk; rfl) | refine' z9af5 | fail) <;> (conv => whnf)))) | refine' z668c | (fail "DrawA.lin")) <;> (conv => whnf))
   (refine' RetK.auto (.tup [.p (.list true (([] : List Ov).map Ov.pv)), .p (.agg [pI a2, pI b2, pS p2, pS n2]), .p (pI e2)]) ([]) rfl rfl rfl rfl _ _ _ <;> refine' fin_)
   exact ⟨true, [], a2, b2, p2, n2, e2, rfl, fun h => absurd h h0, fun h => hT.con h⟩
  ·subst h0
   refine' y8bcb
   (refine' RetK.auto (.tup [.p (.list false ((insV os o).map Ov.pv)), .p (.agg [pI 0, pI 0, pS ⟨#[]⟩, pS ⟨#[]⟩]), .p (pI 0)]) ([]) rfl rfl rfl rfl _ _ _ <;> refine' fin_)
   exact ⟨false, _, 0, 0, ⟨#[]⟩, ⟨#[]⟩, 0, rfl, fun _ => ⟨(hT.ok rfl).1, rfl⟩, fun h => by omega⟩
end Go.Proofs.YtnhifaofkndclaaGreatDoor
