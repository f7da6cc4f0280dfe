/- For TopRefusals: part 8 of 15. -/
import Derived.Test.YtnhifaofkndclaaGreatDoorM7
set_option linter.unusedSimpArgs false
set_option linter.unusedVariables false
set_option linter.unnecessarySimpa false
set_option maxHeartbeats 8000000
namespace Go.Proofs.YtnhifaofkndclaaGreatDoor
open Go.Abs
set_option maxRecDepth 100000
def AscE (es : List Ed) : Prop := ∀ i (h : i < es.length), 0 < i -> cmpE (es[i - 1]'(by omega)) es[i] < 0
structure OvOK (o : Ov) : Prop where
 len : o.es.length <= 40
 big : ∀ x ∈ o.es, x.v.size <= 256
 nam : nameOK o.nm = true
 ed : ∀ x ∈ o.es, validE x = true
 asc : AscE o.es
theorem oCheck_call (o : Ov) (h : Mo o) : ACall Tryz.prog 22 [.p o.pv] [] fun r H => (∃ e : Int, r = .p (pI e) /\ (e = 0 ↔ OvOK o) /\ e ≠ 4 /\ e ≠ 8) /\ H = [] := by
 refine acall_enter Tryz.func22 rfl rfl tabOK rfl ?_
 have hl := h.l
 have no : ∀ e : Int, e = 1 \/ e = 3 \/ e = 12 -> ¬ OvOK o -> ∃ e', AV.p (pI e) = .p (pI e') /\ (e' = 0 ↔ OvOK o) /\ e' ≠ 4 /\ e' ≠ 8 := fun e he h => ⟨e, rfl, ⟨fun h0 => by omega, fun k => absurd k h⟩, by omega, by omega⟩
 by_cases h40 : o.es.length <= 40
 rotate_left
 ·refine' y1379
  (refine' RetK.auto (.p (pI 3)) ([]) rfl rfl rfl rfl _ _ _ <;> refine' fin_)
  exact no 3 (by omega) fun h => h40 h.len
 have hB := bigE_contains o.nl o.es
 generalize hb : (o.es.any fun x => decide (256 < x.v.size)) = B at hB
 cases B with
 | true =>
  (conv => whnf); repeat' ((first | refine' z1379 | (refine CallA.scalar (hB) ?_)) <;> (conv => whnf))
  (refine' RetK.auto (.p (pI 3)) ([]) rfl rfl rfl rfl _ _ _ <;> refine' fin_)
  refine no 3 (by omega) fun h => ?_
  obtain ⟨x, hx, hv⟩ := List.any_eq_true.1 hb
  have := h.big x hx
  have := of_decide_eq_true hv
  omega
 | false =>
 have hbig : ∀ x ∈ o.es, x.v.size <= 256 := fun x hx => by
  have := of_decide_eq_false (Bool.eq_false_iff.2 (List.any_eq_false.1 hb x hx))
  omega
 have hN := Name_call o.nm
 generalize hn : nameOK o.nm = C at hN
 cases C with
 | false =>
  (conv => whnf); repeat' ((first | refine' z1379 | (refine CallA.scalar (hB) ?_) | (refine CallA.scalar (hN) ?_)) <;> (conv => whnf))
  (refine' RetK.auto (.p (pI 1)) ([]) rfl rfl rfl rfl _ _ _ <;> refine' fin_)
  exact no 1 (by omega) fun h => by have := h.nam; rw [hn] at this; cases this
 | true =>
 have hE := badE_contains o.nl o.es h.s
 generalize he : (o.es.any fun x => !validE x) = D at hE
 cases D with
 | true =>
  (conv => whnf); repeat' ((first | refine' z1379 | (refine CallA.scalar (hB) ?_) | (refine CallA.scalar (hN) ?_) | (refine CallA.scalar (hE) ?_)) <;> (conv => whnf))
  (refine' RetK.auto (.p (pI 1)) ([]) rfl rfl rfl rfl _ _ _ <;> refine' fin_)
  refine no 1 (by omega) fun h => ?_
  obtain ⟨x, hx, hv⟩ := List.any_eq_true.1 he
  rw [h.ed x hx] at hv
  cases hv
 | false =>
 have hed : ∀ x ∈ o.es, validE x = true := fun x hx => by
  have := List.any_eq_false.1 he x hx
  simpa using this
 (conv => whnf); repeat' ((first | refine' z1379 | (refine CallA.scalar (hB) ?_) | (refine CallA.scalar (hN) ?_) | (refine CallA.scalar (hE) ?_)) <;> (conv => whnf))
 refine loop_rule (fun (i : Nat) => ⟨[(1, .rptr [pS o.nm, .list o.nl (o.es.map Ed.pv)]), (3, .p (pI i))], []⟩) (fun i => 1 <= i /\ ∀ k (h : k < o.es.length), 0 < k -> k < i -> cmpE (o.es[k - 1]'(by omega)) o.es[k] < 0) (fun i => o.es.length - i) 1 ?_ ?_ ?_; (refine SubA.ret _ 1 0 [pS o.nm, .list o.nl (o.es.map Ed.pv)] rfl rfl ?_; refine SubA.auto rfl rfl rfl rfl ?_ ?_ <;> refine' fin_)
 ·exact ⟨by omega, fun k _ _ _ => by omega⟩
 rintro i ⟨hi, hall⟩
 rcases Nat.lt_or_ge i o.es.length with hil | hig
 ·have hz : ((i : Int) - 1).toNat = i - 1 := by omega
  refine' y1379
  refine CallQ.mk' (compare_call (o.es[((i : Int) - 1).toNat]'(by omega)) o.es[i]) ?_
  have hz2 : cmpE (o.es[((i : Int) - 1).toNat]'(by omega)) o.es[i] = cmpE (o.es[i - 1]'(by omega)) o.es[i] := by simp only [hz]
  rw [hz2]
  by_cases hc : cmpE (o.es[i - 1]'(by omega)) o.es[i] < 0
  ·refine' y1379
   (refine' ⟨i + 1, _, _, _⟩; rotate_right; (refine SubA.auto rfl rfl rfl rfl ?_ ?_ <;> refine' fin_); rotate_right; exact ar2_)
   refine ⟨by omega, fun k hk h0 hki => ?_⟩
   rcases Nat.lt_or_ge k i with h1 | h1
   ·exact hall k hk h0 h1
   ·have : k = i := by omega
    subst this; exact hc
  ·refine' y1379
   (refine' RetK.auto (.p (pI 12)) ([]) rfl rfl rfl rfl _ _ _ <;> refine' fin_)
   exact no 12 (by omega) fun h => hc (h.asc i hil (by omega))
 ·refine' y1379
  (refine' RetK.auto (.p (pI 0)) ([]) rfl rfl rfl rfl _ _ _ <;> refine' fin_)
  exact ⟨0, rfl, ⟨fun _ => ⟨h40, hbig, hn, hed, fun k hk h0 => hall k hk h0 (by omega)⟩, fun _ => rfl⟩, by omega, by omega⟩
open Go.Abs
set_option maxRecDepth 100000
def neE (x y : Ed) : Bool := !(x.k == y.k && (x.p.toList == y.p.toList && (x.n.toList == y.n.toList && (x.v.toList == y.v.toList && true))))
def clashE (x y : Ed) : Bool := decide (cmpE x y = 0) && !decide (x.n = ByteArray.empty) && neE x y
theorem clash_call (x y : Ed) : ACall Tryz.prog 112 [.p x.pv, .p y.pv] [] fun r H => r = .p (pB (clashE x y)) /\ H = [] := by
 refine acall_enter Tryz.func112 rfl rfl tabOK rfl ?_
 have e : clashE x y = (decide (cmpE x y = 0) && !decide (x.n = ByteArray.empty) && neE x y) := rfl
 have q := eq_emp2 x.n
 by_cases h0 : cmpE x y = 0
 ·rw [decide_eq_true h0] at e
  by_cases hn : x.n = ByteArray.empty
  ·rw [decide_eq_true hn] at e q
   (conv => whnf); repeat' ((first | refine' z1379 | (refine CallA.scalar (compare_call x y) ?_)) <;> (conv => whnf))
   (refine' RetK.auto (.p (pB false)) ([]) rfl rfl rfl rfl _ _ _ <;> refine' fin_)
   rw [e]; rfl
  ·rw [decide_eq_false hn] at e q
   (conv => whnf); repeat' ((first | refine' z1379 | (refine CallA.scalar (compare_call x y) ?_)) <;> (conv => whnf))
   (refine' RetK.auto (.p (pB (neE x y))) ([]) rfl rfl rfl rfl _ _ _ <;> refine' fin_)
   rw [e]; rfl
 ·rw [decide_eq_false h0] at e
  (conv => whnf); repeat' ((first | refine' z1379 | (refine CallA.scalar (compare_call x y) ?_)) <;> (conv => whnf))
  (refine' RetK.auto (.p (pB false)) ([]) rfl rfl rfl rfl _ _ _ <;> refine' fin_)
  rw [e]; rfl
theorem clash1_call (z y : Ed) : ACall Tryz.prog 111 [.p y.pv, .ptr 0 0] [some (.cells [.p (pI z.k), .p (pS z.p), .p (pS z.n), .p (pS z.v)])] fun r H => r = .p (pB (clashE z y)) /\ H = [some (.cells [.p (pI z.k), .p (pS z.p), .p (pS z.n), .p (pS z.v)])] := by
 refine acall_enter Tryz.func111 rfl rfl tabOK rfl ?_
 (conv => whnf); repeat' ((first | refine' z1379 | (refine CallA.scalar (clash_call z y) ?_)) <;> (conv => whnf))
 (refine' RetK.auto (.p (pB (clashE z y))) ([some (.cells [.p (pI z.k), .p (pS z.p), .p (pS z.n), .p (pS z.v)])]) rfl rfl rfl rfl _ _ _ <;> refine' fin_)
theorem clash_index (z : Ed) (nl : Bool) (xs : List _) : ACall Tryz.prog 24 [.p (.list nl (xs.map Ed.pv)), .clo (.func 111) [.ptr 0 0]] [some (.cells [.p (pI z.k), .p (pS z.p), .p (pS z.n), .p (pS z.v)])] fun r H => (∃ v : Int, r = .p (pI v) /\ (decide (0 <= v) = xs.any fun x => clashE z x)) /\ H = [some (.cells [.p (pI z.k), .p (pS z.p), .p (pS z.n), .p (pS z.v)])] := by
 refine acall_enter Tryz.func24 rfl rfl tabOK rfl ?_
 refine' y1379
 refine loop_rule (fun (c : Nat) => ⟨[(0, .p (.list nl (xs.map Ed.pv))), (1, .clo (.func 111) [.ptr 0 0]), (7, .p (pI xs.length)), (8, .p (pI c))], [some (.cells [.p (pI z.k), .p (pS z.p), .p (pS z.n), .p (pS z.v)])]⟩) (fun c => c <= xs.length /\ ∀ (k : Nat) (h : k < xs.length), k < c -> (clashE z xs[k]) = false) (fun c => xs.length - c) 0 ?_ ?_ ?_; (refine SubA.auto rfl rfl rfl rfl ?_ ?_ <;> refine' fin_)
 ·exact ⟨by omega, by omega⟩
 rintro c ⟨hc, hok⟩
 rcases Nat.lt_or_ge c xs.length with hlt | hge
 ·refine' y1379
  refine CallA.loc [0] [] rfl rfl ((clash1_call z xs[c]).mono ?_)
  rintro r H ⟨rfl, rfl⟩
  generalize hb : (clashE z xs[c]) = B
  cases B with
  | true =>
   refine' y1379
   (refine' RetK.auto (.p (pI c)) ([some (.cells [.p (pI z.k), .p (pS z.p), .p (pS z.n), .p (pS z.v)])]) rfl rfl rfl rfl _ _ _ <;> refine' fin_)
   refine ⟨c, rfl, ?_⟩
   rw [List.any_eq_true.2 ⟨xs[c], List.getElem_mem _, hb⟩]
   exact decide_eq_true (by omega)
  | false =>
   refine' y1379
   (refine' ⟨c + 1, _, _, _⟩; rotate_right; (refine SubA.auto rfl rfl rfl rfl ?_ ?_ <;> refine' fin_); rotate_right; exact ar2_)
   exact ⟨by omega, all_succ hok fun _ => hb⟩
 ·refine' y1379
  (refine' RetK.auto (.p (pI (-1))) ([some (.cells [.p (pI z.k), .p (pS z.p), .p (pS z.n), .p (pS z.v)])]) rfl rfl rfl rfl _ _ _ <;> refine' fin_)
  refine ⟨-1, rfl, ?_⟩
  rw [List.any_eq_false.2]
  ·rfl
  ·intro x hx
   obtain ⟨k, hk, rfl⟩ := List.getElem_of_mem hx
   exact Bool.eq_false_iff.1 (hok k hk (by omega))
theorem clash_contains (z : Ed) (nl : Bool) (xs : List _) : ACall Tryz.prog 55 [.p (.list nl (xs.map Ed.pv)), .clo (.func 111) [.ptr 0 0]] [some (.cells [.p (pI z.k), .p (pS z.p), .p (pS z.n), .p (pS z.v)])] fun r H => r = .p (pB (xs.any fun x => clashE z x)) /\ H = [some (.cells [.p (pI z.k), .p (pS z.p), .p (pS z.n), .p (pS z.v)])] := by
 refine acall_enter Tryz.func55 rfl rfl tabOK rfl ?_
 refine' y1379
 refine CallA.all ((clash_index z nl xs).mono ?_)
 rintro r H ⟨⟨v, rfl, hv⟩, rfl⟩
 refine' y1379
 (refine' RetK.auto (.p (pB (xs.any fun x => clashE z x))) ([some (.cells [.p (pI z.k), .p (pS z.p), .p (pS z.n), .p (pS z.v)])]) rfl rfl rfl rfl _ _ _ <;> refine' fin_)
 rw [<- hv]; rfl
theorem or0_call (nl : Bool) : ACall Tryz.prog 110 [.p (.list nl ([0, 0].map pI))] [] fun r H => r = .p (pI 0) /\ H = [] := by
 refine acall_enter Tryz.func110 rfl rfl tabOK rfl ?_
 (conv => whnf); repeat' ((first | refine' z1379 | (apply LoopA.unroll)) <;> (conv => whnf))
 (refine' RetK.auto (.p (pI 0)) ([]) rfl rfl rfl rfl _ _ _ <;> refine' fin_)
theorem OvOK.call {o : Ov} (h : OvOK o) (hm : Mo o) : ACall Tryz.prog 22 [.p o.pv] [] fun r H => r = .p (pI 0) /\ H = [] := (oCheck_call o hm).mono fun r H k => by
 obtain ⟨⟨e, h1, h2, _⟩, h3⟩ := k
 rw [h2.2 h] at h1
 exact ⟨h1, h3⟩
def clA : Sc := (.frz 0 (.frz 2 (.one 1 (.one 3 (.one 4 (.one 5 (.take 6 .done)))))))
def clF (es fs : List Ed) : Option Ed := es.find? fun x => fs.any fun y => clashE x y
theorem y3197 {P : Prop} (h : P := by
 ((conv => whnf); repeat' ((first | apply CondA.plain | refine' gC | refine' gpI | refine' gpS | refine' gpN | refine' gpB | refine' gEdpv | refine' gOvpv | refine' gE | fail) <;> (conv => whnf))) <;> (solve_by_elim (newGoals := .nonDependentOnly) (symm := false) (exfalso := false) (transparency := .reducible) only [rfl, park_])) : P := h
set_option maxHeartbeats 4000000 in
theorem Clash_call (a b : Ov) (ha : OvOK a) (hb : OvOK b) (hma : Mo a) (hmb : Mo b) : ACall Tryz.prog 66 [.p a.pv, .p b.pv] [] fun r H => r = (match clF a.es b.es with | some x => AV.tup [.p (pS x.p), .p (pS x.n), .p (pB true)] | none => .tup [.p (pS ⟨#[]⟩), .p (pS ⟨#[]⟩), .p (pB false)]) /\ H = [] := by
 refine acall_enter Tryz.func66 rfl rfl tabOK rfl ?_
 have hl := hma.l
 refine' y3197
 refine DrawA.retire 2 0 [pS a.nm, .list a.nl (a.es.map Ed.pv)] rfl rfl ?_
 refine DrawA.retire 3 1 [pS b.nm, .list b.nl (b.es.map Ed.pv)] rfl rfl ?_
 (conv => whnf); repeat' ((first | refine' z3197 | (apply DrawA.orders clA (by kernel_rfl) (by kernel_rfl) (by kernel_rfl)) | (refine CallA.scalar (ha.call hma) ?_) | (refine CallA.scalar (hb.call hmb) ?_)) <;> (conv => whnf))
 refine CallA.loc [] [2] rfl rfl ((or0_call false).mono ?_)
 rintro _ _ ⟨rfl, rfl⟩
 refine' y1379
 refine loop_rule (fun (c : Nat) => ⟨[(3, .rptr [pS b.nm, .list b.nl (b.es.map Ed.pv)]), (17, .p (.list a.nl (a.es.map Ed.pv))), (18, .p (pI a.es.length)), (19, .p (pI c))], []⟩) (fun c => c <= a.es.length /\ clF a.es b.es = (a.es.drop c).find? fun x => b.es.any fun y => clashE x y) (fun c => a.es.length - c) 0 ?_ ?_ ?_; (refine SubA.auto rfl rfl rfl rfl ?_ ?_ <;> refine' fin_)
 ·exact ⟨by omega, rfl⟩
 rintro c ⟨hc, hf⟩
 rcases Nat.lt_or_ge c a.es.length with hlt | hge
 ·have hB := clash_contains a.es[c] b.nl b.es
  rw [List.drop_eq_getElem_cons hlt] at hf
  cases hb2 : (b.es.any fun y => clashE a.es[c] y) with
  | true =>
   rw [hb2] at hB
   rw [List.find?_cons_of_pos (by exact hb2)] at hf
   rw [hf]
   refine' y1379
   refine CallA.loc [0] [] rfl rfl (hB.mono ?_)
   rintro _ _ ⟨rfl, rfl⟩
   refine' y1379
   (refine' RetK.auto (.tup [.p (pS a.es[c].p), .p (pS a.es[c].n), .p (pB true)]) ([]) rfl rfl rfl rfl _ _ _ <;> refine' fin_)
  | false =>
   rw [hb2] at hB
   rw [List.find?_cons_of_neg (by rw [hb2]; exact Bool.false_ne_true)] at hf
   refine' y1379
   refine CallA.loc [0] [] rfl rfl (hB.mono ?_)
   rintro _ _ ⟨rfl, rfl⟩
   refine' y1379
   (refine' ⟨c + 1, _, _, _⟩; rotate_right; (refine SubA.auto rfl rfl rfl rfl ?_ ?_ <;> refine' fin_); rotate_right; exact ar2_)
   exact ⟨by omega, hf⟩
 ·rw [List.drop_eq_nil_of_le hge] at hf
  rw [hf]
  refine' y1379
  (refine' RetK.auto (.tup [.p (pS ⟨#[]⟩), .p (pS ⟨#[]⟩), .p (pB false)]) ([]) rfl rfl rfl rfl _ _ _ <;> refine' fin_)
open Go.Abs
set_option maxRecDepth 100000
instance : Inhabited ByteArray := ⟨ByteArray.empty⟩
noncomputable def hdP (s : ByteArray) : ByteArray := Classical.epsilon fun q => ∃ n, NoSl n /\ s = q ++ (slS ++ n)
theorem hdP_join {q n : ByteArray} (hn : NoSl n) : hdP (q ++ (slS ++ n)) = q := by
 obtain ⟨m, hm, e⟩ := Classical.epsilon_spec (p := fun p => ∃ m, NoSl m /\ q ++ (slS ++ n) = p ++ (slS ++ m)) ⟨q, n, hn, rfl⟩
 exact (pth_join hn hm e).1.symm
noncomputable def needE (x : Ed) : ByteArray := if x.k = 1 then parP (hdP x.p) else x.p
theorem pcs_ne (l : List UInt8) : ∃ h t, pcs l = h :: t := by
 have := pcs_len l
 cases h : pcs l with
 | nil => rw [h] at this; simp at this
 | cons a t => exact ⟨a, t, rfl⟩
theorem pcs_app : ∀ a b : List UInt8, pcs (a ++ 47 :: b) = pcs a ++ pcs b
 | [], b => by simp [pcs]
 | c :: a, b => by
  have ih := pcs_app a b
  rw [List.cons_append]
  conv => lhs; unfold pcs
  conv => rhs; arg 1; unfold pcs
  by_cases hc : c = 47
  ·rw [decide_eq_true hc, ih]; rfl
  ·obtain ⟨h, t, e⟩ := pcs_ne a
   rw [decide_eq_false hc, ih, e]
   rfl
theorem last_cut : ∀ l : List UInt8, (47 : UInt8) ∉ l \/ ∃ a b, l = a ++ 47 :: b /\ (47 : UInt8) ∉ b
 | [] => .inl (by simp)
 | c :: r => by
  rcases last_cut r with h | ⟨a, b, h, hb⟩
  ·by_cases hc : c = 47
   ·exact .inr ⟨[], r, by rw [hc]; rfl, h⟩
   ·exact .inl fun hm => (List.mem_cons.1 hm).elim (fun e => hc e.symm) h
  ·exact .inr ⟨c :: a, b, by rw [h]; rfl, hb⟩
theorem nameOK_emp : nameOK (baL []) = false := by decide
theorem pathOK_join {s : ByteArray} (h : pathOK s = true) : s = slS \/ ∃ q n, s = q ++ (slS ++ n) /\ nameOK n = true /\ q ≠ slS := by
 unfold pathOK at h
 by_cases he : s = slS
 ·exact .inl he
 rw [decide_eq_false he, Bool.false_or, Bool.and_eq_true, Bool.not_eq_true', List.any_eq_false] at h
 obtain ⟨h1, h2⟩ := h
 have hd := of_decide_eq_true h1
 obtain ⟨b, r, hl, hb⟩ := bAt_zero hd.1
 have hb47 : b = 47 := UInt8.toNat_inj.1 (by rw [<- hb, hd.2])
 subst hb47
 have hr : (s.extract 1 s.size).data.toList = r := by
  rw [ByteArray.data_extract, Array.toList_extract, show s.data.toList.extract 1 s.size = (s.data.toList.drop 1).take (s.size - 1) from rfl, hl, ba_size, hl]
  simp
 have hnm : ∀ p ∈ pcs r, nameOK (baL p) = true := fun p hp => by
  have := h2 (baL p) (by rw [pcB, hr]; exact List.mem_map_of_mem hp)
  simpa using this
 refine .inr ?_
 rcases last_cut r with hn | ⟨x, y, hxy, hy⟩
 ·refine ⟨ByteArray.empty, baL r, ba_ext ?_, hnm r (by rw [pcs_none r hn]; simp), by decide⟩
  rw [join_list, hl, baL_list]; rfl
 ·rw [hxy, pcs_app, pcs_none y hy] at hnm
  refine ⟨slS ++ baL x, baL y, ba_ext ?_, hnm y (by simp), fun e => ?_⟩
  ·rw [join_list, hl, app_list, baL_list, baL_list, slS_list, hxy]; rfl
  ·have e1 := congrArg (fun s => s.data.toList) e
   simp only [app_list, baL_list, slS_list, List.singleton_append, List.cons.injEq, true_and] at e1
   subst e1
   have := hnm [] (by simp [pcs])
   rw [nameOK_emp] at this
   cases this
theorem validE_path {x : Ed} (h : validE x = true) : pathOK x.p = true /\ (x.k = 1 -> x.p ≠ slS) := by
 unfold validE at h
 rw [Bool.and_eq_true, Bool.and_eq_true] at h
 refine ⟨h.1.1, fun hk => ?_⟩
 have := h.2
 rw [if_pos hk, Bool.and_eq_true, Bool.not_eq_true', decide_eq_false_iff_not] at this
 exact this.2
theorem needed_call (x : Ed) (hv : validE x = true) (hs : SmE x) : ACall Tryz.prog 26 [.p x.pv] [] fun r H => r = .p (pS (needE x)) /\ H = [] := by
 refine acall_enter Tryz.func26 rfl rfl tabOK rfl ?_
 by_cases h1 : x.k = 1
 rotate_left
 ·rw [show needE x = x.p from if_neg h1]
  refine' y8bcb
  (refine' RetK.auto (.p (pS x.p)) ([]) rfl rfl rfl rfl _ _ _ <;> refine' fin_)
 ·obtain ⟨q, n, hp, hn, hq⟩ := (pathOK_join (validE_path hv).1).resolve_left ((validE_path hv).2 h1)
  have hS := wSplit_call q n (nameOK_nosl hn).1 (by rw [<- hp]; have := hs.1; omega)
  rw [<- hp] at hS
  have hNE : needE x = parP q := by rw [show needE x = parP (hdP x.p) from if_pos h1, hp, hdP_join (nameOK_nosl hn).1]
  rw [hNE]
  refine' y8bcb
  refine CallA.loc [] [] rfl rfl (hS.mono ?_)
  rintro _ _ ⟨rfl, rfl⟩
  refine' y8bcb
  (refine' RetK.auto (.p (pS (parP q))) ([]) rfl rfl rfl rfl _ _ _ <;> refine' fin_)
def ptE (ns : List Nd) (c : Nat) : List (Value × Value) := (List.range c).map fun i => (.string (pathOf ns i), .int .i64 i)
theorem ptE_key (ns : List Nd) (c : Nat) : ∀ e ∈ ptE ns c, MapKept.IsKey .string e.1 := fun e he => by
 obtain ⟨i, _, rfl⟩ := List.mem_map.1 he
 exact trivial
theorem ptE_succ (ns : List Nd) (c : Nat) : ptE ns (c + 1) = ptE ns c ++ [(.string (pathOf ns c), .int .i64 c)] := by simp [ptE, List.range_succ]
theorem paths_call (nl : Bool) (ns : List Nd) (hv : Val ns) : ACall Tryz.prog 67 [.p (.agg [.list nl (ns.map Nd.pv)])] [] fun r H => r = .mp 0 /\ H = [some (AO.map (ptE ns ns.length))] := by
 refine acall_enter Tryz.func67 rfl rfl tabOK rfl ?_
 have hl := hv.few.1
 refine' y8bcb
 refine loop_rule (fun (c : Nat) => ⟨[(1, .rptr [.list nl (ns.map Nd.pv)]), (3, .mp 0), (8, .p (pI ns.length)), (9, .p (pI c))], [some (AO.map (ptE ns c))]⟩) (fun c => c <= ns.length) (fun c => ns.length - c) 0 ?_ ?_ ?_; (refine SubA.ret _ 1 0 [.list nl (ns.map Nd.pv)] rfl rfl ?_; refine SubA.auto rfl rfl rfl rfl ?_ ?_ <;> refine' fin_)
 ·omega
 rintro c hc
 rcases Nat.lt_or_ge c ns.length with hlt | hge
 ·have hnk : ∀ e ∈ ptE ns c, e.1 ≠ .string (pathOf ns c) := fun e he h => by
   obtain ⟨i, hi, rfl⟩ := List.mem_map.1 he
   have hi := List.mem_range.1 hi
   have e1 : pathOf ns i = pathOf ns c := by simpa using h
   have := hv.inj (by omega) hlt e1
   omega
  refine' y8bcb
  refine CallA.loc [] [] rfl rfl ((Path_call nl ns hv c hlt).mono ?_)
  rintro _ _ ⟨rfl, rfl⟩
  (conv => whnf); repeat' ((first | (refine NewKey.mk trivial (ptE_key ns c) hnk ?_) | refine' z8bcb | fail) <;> (conv => whnf))
  rw [<- ptE_succ]
  (refine' ⟨c + 1, _, _, _⟩; rotate_right; (refine SubA.auto rfl rfl rfl rfl ?_ ?_ <;> refine' fin_); rotate_right; exact ar2_)
  omega
 ·obtain rfl : c = ns.length := by omega
  refine' y8bcb
  (refine' RetK.auto (.mp 0) ([some (AO.map (ptE ns ns.length))]) rfl rfl rfl rfl _ _ _ <;> refine' fin_)
open Go.Abs
set_option maxRecDepth 100000
def memB (s : ByteArray) (xs : List ByteArray) : Bool := xs.any fun x => decide (x = s)
theorem memB_iff {s : ByteArray} {xs : List ByteArray} : memB s xs = true ↔ s ∈ xs := by
 unfold memB
 rw [List.any_eq_true]
 exact ⟨fun ⟨x, hx, h⟩ => of_decide_eq_true h ▸ hx, fun h => ⟨s, h, decide_eq_true rfl⟩⟩
theorem sIndex_call (nl : Bool) (xs : List ByteArray) (s : ByteArray) : ACall Tryz.prog 63 [.p (.list nl (xs.map pS)), .p (pS s)] [] fun r H => (∃ v : Int, r = .p (pI v) /\ (decide (0 <= v) = memB s xs)) /\ H = [] := by
 refine acall_enter Tryz.func63 rfl rfl tabOK rfl ?_
 refine' y8bcb
 refine loop_rule (fun (c : Nat) => ⟨[(0, .p (.list nl (xs.map pS))), (1, .p (pS s)), (7, .p (pI xs.length)), (8, .p (pI c))], []⟩) (fun c => c <= xs.length /\ ∀ k (h : k < xs.length), k < c -> xs[k] ≠ s) (fun c => xs.length - c) 0 ?_ ?_ ?_; (refine SubA.auto rfl rfl rfl rfl ?_ ?_ <;> refine' fin_)
 ·exact ⟨by omega, fun k _ h => by omega⟩
 rintro c ⟨hc, hall⟩
 rcases Nat.lt_or_ge c xs.length with hlt | hge
 ·have q := seqS s xs[c]
  have q2 := seqS xs[c] s
  by_cases he : xs[c] = s
  ·rw [decide_eq_true he] at q2
   rw [decide_eq_true he.symm] at q
   refine' y8bcb
   (refine' RetK.auto (.p (pI c)) ([]) rfl rfl rfl rfl _ _ _ <;> refine' fin_)
   refine ⟨c, rfl, ?_⟩
   rw [decide_eq_true (by omega)]
   exact (memB_iff.2 (he ▸ List.getElem_mem hlt)).symm
  ·rw [decide_eq_false he] at q2
   rw [decide_eq_false fun e => he e.symm] at q
   refine' y8bcb
   (refine' ⟨c + 1, _, _, _⟩; rotate_right; (refine SubA.auto rfl rfl rfl rfl ?_ ?_ <;> refine' fin_); rotate_right; exact ar2_)
   refine ⟨by omega, fun k hk hkc => ?_⟩
   rcases Nat.lt_or_ge k c with h1 | h1
   ·exact hall k hk h1
   ·have : k = c := by omega
    subst this; exact he
 ·refine' y8bcb
  (refine' RetK.auto (.p (pI (-1))) ([]) rfl rfl rfl rfl _ _ _ <;> refine' fin_)
  refine ⟨-1, rfl, ?_⟩
  rw [decide_eq_false (by omega)]
  refine (Bool.eq_false_iff.2 fun hm => ?_).symm
  obtain ⟨k, hk, e⟩ := List.getElem_of_mem (memB_iff.1 hm)
  exact hall k hk (by omega) e
theorem sContains_call (nl : Bool) (xs : List ByteArray) (s : ByteArray) : ACall Tryz.prog 28 [.p (.list nl (xs.map pS)), .p (pS s)] [] fun r H => r = .p (pB (memB s xs)) /\ H = [] := by
 refine acall_enter Tryz.func28 rfl rfl tabOK rfl ?_
 refine' y8bcb
 refine CallA.all ((sIndex_call nl xs s).mono ?_)
 rintro r H ⟨⟨v, rfl, hv⟩, rfl⟩
 refine' y8bcb
 (refine' RetK.auto (.p (pB (memB s xs))) ([]) rfl rfl rfl rfl _ _ _ <;> refine' fin_)
 rw [<- hv]; rfl
def hasP (ns : List Nd) (s : ByteArray) : Bool := (List.range ns.length).any fun i => decide (pathOf ns i = s)
theorem hasP_iff {ns : List Nd} {s : ByteArray} : hasP ns s = true ↔ ∃ i, i < ns.length /\ pathOf ns i = s := by
 unfold hasP
 rw [List.any_eq_true]
 exact ⟨fun ⟨i, hi, h⟩ => ⟨i, List.mem_range.1 hi, of_decide_eq_true h⟩, fun ⟨i, hi, h⟩ => ⟨i, List.mem_range.2 hi, decide_eq_true h⟩⟩
theorem pt_some {ns : List Nd} (hv : Val ns) {i : Nat} (hi : i < ns.length) : HasK (.string (pathOf ns i)) (ptE ns ns.length) (some (.int .i64 i)) := by
 refine ⟨⟨_, List.mem_map_of_mem (List.mem_range.2 hi), rfl⟩, fun e he hk => ?_⟩
 obtain ⟨j, hj, rfl⟩ := List.mem_map.1 he
 have e1 : pathOf ns j = pathOf ns i := by simpa using hk
 rw [hv.inj (List.mem_range.1 hj) hi e1]
theorem pt_none {ns : List Nd} {s : ByteArray} (h : hasP ns s = false) : HasK (.string s) (ptE ns ns.length) none := fun e he hk => by
 obtain ⟨j, hj, rfl⟩ := List.mem_map.1 he
 have e1 : pathOf ns j = s := by simpa using hk
 rw [hasP_iff.2 ⟨j, List.mem_range.1 hj, e1⟩] at h
 cases h
noncomputable def msF (ns : List Nd) (R : List ByteArray) (es : List Ed) : Option Ed := es.find? fun x => !hasP ns (needE x) && !memB (needE x) R
def emE : Ed := ⟨0, ⟨#[]⟩, ⟨#[]⟩, ⟨#[]⟩⟩
theorem missing_call (ns : List Nd) (hv : Val ns) (nr : Bool) (R : List ByteArray) (o : Ov) (ho : Mo o) (hok : ∀ x ∈ o.es, validE x = true) : ACall Tryz.prog 68 [.mp 0, .p (.list nr (R.map pS)), .p o.pv] [some (AO.map (ptE ns ns.length))] fun r H => r = .tup [.p ((msF ns R o.es).getD emE).pv, .p (pB (msF ns R o.es).isSome)] /\ H = [some (AO.map (ptE ns ns.length))] := by
 refine acall_enter Tryz.func68 rfl rfl tabOK rfl ?_
 have hl := ho.l
 refine' y8bcb
 refine loop_rule (fun (c : Nat) => ⟨[(0, .mp 0), (1, .p (.list nr (R.map pS))), (6, .ptr 1 0), (14, .p (.list o.nl (o.es.map Ed.pv))), (15, .p (pI o.es.length)), (16, .p (pI c))], [some (AO.map (ptE ns ns.length)), some (.cells [.p (pI 0), .p (pS ⟨#[]⟩), .p (pS ⟨#[]⟩), .p (pS ⟨#[]⟩)])]⟩) (fun c => c <= o.es.length /\ msF ns R o.es = (o.es.drop c).find? fun x => !hasP ns (needE x) && !memB (needE x) R) (fun c => o.es.length - c) 0 ?_ ?_ ?_; (refine SubA.auto rfl rfl rfl rfl ?_ ?_ <;> refine' fin_)
 ·exact ⟨by omega, rfl⟩
 rintro c ⟨hc, hf⟩
 rcases Nat.lt_or_ge c o.es.length with hlt | hge
 ·have hx := List.getElem_mem hlt
  have hN := needed_call o.es[c] (hok _ hx) (ho.s _ hx)
  rw [List.drop_eq_getElem_cons hlt] at hf
  have hS := sContains_call nr R (needE o.es[c])
  cases hp : hasP ns (needE o.es[c]) with
  | true =>
   rw [List.find?_cons_of_neg (by rw [hp]; exact Bool.false_ne_true)] at hf
   obtain ⟨i, hi, e⟩ := hasP_iff.1 hp
   have hk := pt_some hv hi
   rw [e] at hk
   (conv => whnf); repeat' ((first | refine' z8bcb | (refine CallA.scalar (hN) ?_) | ((refine LookA.mk _ trivial (ptE_key ns _) hk ?_))) <;> (conv => whnf))
   (refine' ⟨c + 1, _, _, _⟩; rotate_right; (refine SubA.auto rfl rfl rfl rfl ?_ ?_ <;> refine' fin_); rotate_right; exact ar2_)
   exact ⟨by omega, hf⟩
  | false =>
   have hk := pt_none hp
   cases hr : memB (needE o.es[c]) R with
   | true =>
    rw [hr] at hS
    rw [List.find?_cons_of_neg (by rw [hp, hr]; exact Bool.false_ne_true)] at hf
    (conv => whnf); repeat' ((first | refine' z8bcb | (refine CallA.scalar (hN) ?_) | ((refine LookA.mk _ trivial (ptE_key ns _) hk ?_)) | (refine CallA.scalar (hS) ?_)) <;> (conv => whnf))
    (refine' ⟨c + 1, _, _, _⟩; rotate_right; (refine SubA.auto rfl rfl rfl rfl ?_ ?_ <;> refine' fin_); rotate_right; exact ar2_)
    exact ⟨by omega, hf⟩
   | false =>
    rw [hr] at hS
    rw [List.find?_cons_of_pos (by rw [hp, hr]; rfl)] at hf
    rw [hf]
    (conv => whnf); repeat' ((first | refine' z8bcb | (refine CallA.scalar (hN) ?_) | ((refine LookA.mk _ trivial (ptE_key ns _) hk ?_)) | (refine CallA.scalar (hS) ?_)) <;> (conv => whnf))
    (refine' RetK.auto (.tup [.p (Ed.pv o.es[c]), .p (pB true)]) ([some (AO.map (ptE ns ns.length))]) rfl rfl rfl rfl _ _ _ <;> refine' fin_)
 ·rw [List.drop_eq_nil_of_le hge] at hf
  rw [hf]
  refine' y8bcb
  (refine' RetK.auto (.tup [.p (Ed.pv emE), .p (pB false)]) ([some (AO.map (ptE ns ns.length))]) rfl rfl rfl rfl _ _ _ <;> refine' fin_)
open Go.Abs
set_option maxRecDepth 100000
structure FormOK (ns : List Nd) (os : List Ov) : Prop where
 val : Val ns
 len : os.length <= 8
 ov : ∀ o ∈ os, OvOK o
 asc : ∀ i (h : i < os.length), 0 < i -> bless (os[i - 1]'(by omega)).nm os[i].nm = true
theorem form_call (nl no : Bool) (ns : List Nd) (os : List Ov) (hs : Sm ns) (hf : Few ns) (ho : ∀ o ∈ os, Mo o) (hl : os.length <= 1000) : ACall Tryz.prog 30 [.p (.agg [.list nl (ns.map Nd.pv)]), .p (.list no (os.map Ov.pv))] [] fun r H => (∃ e : Int, r = .p (pI e) /\ (e = 0 ↔ FormOK ns os) /\ e ≠ 4 /\ e ≠ 8) /\ H = [] := by
 refine acall_enter Tryz.func30 rfl rfl tabOK rfl ?_
 have no' : ∀ e : Int, e ≠ 0 -> e ≠ 4 -> e ≠ 8 -> ¬ FormOK ns os -> ∃ e', AV.p (pI e) = .p (pI e') /\ (e' = 0 ↔ FormOK ns os) /\ e' ≠ 4 /\ e' ≠ 8 := fun e h0 h4 h8 h => ⟨e, rfl, ⟨fun k => absurd k h0, fun k => absurd k h⟩, h4, h8⟩
 refine' y8bcb
 refine CallA.loc [] [] rfl rfl ((Check_call nl ns hs hf).mono ?_)
 rintro _ _ ⟨⟨e, rfl, he, he4, he8⟩, rfl⟩
 by_cases h0 : e = 0
 rotate_left
 ·refine' y8bcb
  (refine' RetK.auto (.p (pI e)) ([]) rfl rfl rfl rfl _ _ _ <;> refine' fin_)
  exact no' e h0 he4 he8 fun h => h0 (he.2 h.val)
 have hv := he.1 h0
 subst h0
 by_cases h8 : os.length <= 8
 rotate_left
 ·refine' y8bcb
  (refine' RetK.auto (.p (pI 3)) ([]) rfl rfl rfl rfl _ _ _ <;> refine' fin_)
  exact no' 3 (by omega) (by omega) (by omega) fun h => h8 h.len
 refine' y8bcb
 refine loop_rule (fun (c : Nat) => ⟨[(1, .p (.list no (os.map Ov.pv))), (18, .p (.list no (os.map Ov.pv))), (19, .p (pI os.length)), (20, .p (pI c))], []⟩) (fun c => c <= os.length /\ ∀ i (h : i < os.length), i < c -> OvOK os[i]) (fun c => os.length - c) 0 ?_ ?_ ?_; (refine SubA.auto rfl rfl rfl rfl ?_ ?_ <;> refine' fin_)
 ·exact ⟨by omega, fun i _ h => by omega⟩
 rintro c ⟨hc, hall⟩
 rcases Nat.lt_or_ge c os.length with hlt | hge
 ·refine' y8bcb
  refine CallA.loc [] [] rfl rfl ((oCheck_call os[c] (ho _ (List.getElem_mem hlt))).mono ?_)
  rintro _ _ ⟨⟨e, rfl, he, he4, he8⟩, rfl⟩
  by_cases h0 : e = 0
  ·have hk := he.1 h0
   subst h0
   refine' y8bcb
   (refine' ⟨c + 1, _, _, _⟩; rotate_right; (refine SubA.auto rfl rfl rfl rfl ?_ ?_ <;> refine' fin_); rotate_right; exact ar2_)
   refine ⟨by omega, fun i hi hic => ?_⟩
   rcases Nat.lt_or_ge i c with h1 | h1
   ·exact hall i hi h1
   ·have : i = c := by omega
    subst this; exact hk
  ·refine' y8bcb
   (refine' RetK.auto (.p (pI e)) ([]) rfl rfl rfl rfl _ _ _ <;> refine' fin_)
   exact no' e h0 he4 he8 fun h => h0 (he.2 (h.ov _ (List.getElem_mem hlt)))
 have hov : ∀ o ∈ os, OvOK o := fun o h => by
  obtain ⟨i, hi, rfl⟩ := List.getElem_of_mem h
  exact hall i hi (by omega)
 refine' y8bcb
 refine loop_rule (fun (i : Nat) => ⟨[(1, .p (.list no (os.map Ov.pv))), (9, .p (pI i))], []⟩) (fun i => 1 <= i /\ ∀ k (h : k < os.length), 0 < k -> k < i -> bless (os[k - 1]'(by omega)).nm os[k].nm = true) (fun i => os.length - i) 1 ?_ ?_ ?_; (refine SubA.auto rfl rfl rfl rfl ?_ ?_ <;> refine' fin_)
 ·exact ⟨by omega, fun k _ _ _ => by omega⟩
 rintro i ⟨hi, hasc⟩
 rcases Nat.lt_or_ge i os.length with hil | hig
 ·have hz : ((i : Int) - 1).toNat = i - 1 := by omega
  have hb : bless (os[((i : Int) - 1).toNat]'(by omega)).nm os[i].nm = bless (os[i - 1]'(by omega)).nm os[i].nm := by simp only [hz]
  have hb2 : Op.bytesLess (os[((i : Int) - 1).toNat]'(by omega)).nm.toList os[i].nm.toList = bless (os[i - 1]'(by omega)).nm os[i].nm := hb
  cases hB : bless (os[i - 1]'(by omega)).nm os[i].nm with
  | true =>
   rw [hB] at hb2
   refine' y8bcb
   (refine' ⟨i + 1, _, _, _⟩; rotate_right; (refine SubA.auto rfl rfl rfl rfl ?_ ?_ <;> refine' fin_); rotate_right; exact ar2_)
   refine ⟨by omega, fun k hk h0 hki => ?_⟩
   rcases Nat.lt_or_ge k i with h1 | h1
   ·exact hasc k hk h0 h1
   ·have : k = i := by omega
    subst this; exact hB
  | false =>
   rw [hB] at hb2
   refine' y8bcb
   (refine' RetK.auto (.p (pI 12)) ([]) rfl rfl rfl rfl _ _ _ <;> refine' fin_)
   exact no' 12 (by omega) (by omega) (by omega) fun h => by have := h.asc i hil (by omega); rw [hB] at this; cases this
 ·refine' y8bcb
  (refine' RetK.auto (.p (pI 0)) ([]) rfl rfl rfl rfl _ _ _ <;> refine' fin_)
  exact ⟨0, rfl, ⟨fun _ => ⟨hv, h8, hov, fun k hk h0 => hasc k hk h0 (by omega)⟩, fun _ => rfl⟩, by omega, by omega⟩
open Go.Abs
set_option maxRecDepth 100000
def AscN (l : List ByteArray) : Prop := ∀ i j (hi : i < j) (hj : j < l.length), bless l[i] l[j] = true
structure At (l : List ByteArray) (t : ByteArray) (i : Nat) (b : Bool) : Prop where
 le : i <= l.length
 lo : ∀ k (h : k < l.length), k < i -> bless l[k] t = true
 hi : ∀ k (h : k < l.length), i <= k -> bless l[k] t = false
 yes : b = true -> ∃ h : i < l.length, l[i] = t
 no : b = false -> ∀ k (h : k < l.length), l[k] ≠ t
theorem cmpI_zero {a b : ByteArray} : cmpI a b = 0 ↔ a = b := by
 unfold cmpI
 constructor
 ·intro h
  split at h
  ·omega
  ·split at h
   ·omega
   ·rename_i h1 h2
    exact bless_total (by simpa using h1) (by simpa using h2)
 ·rintro rfl
  rw [bless_irrefl]; rfl
theorem BSOv_call (fn : FuncId) (t : ByteArray) (nl : Bool) (ps : List _) (hc : ∀ p ∈ ps, ACall Tryz.prog fn [.p (Ov.pv p), .p (pS t)] [] fun r H => r = .p (pI (cmpI (Ov.nm p) t)) /\ H = []) (hl : ps.length <= 1000) (ha : AscN (ps.map Ov.nm)) : ACall Tryz.prog 14 [.p (.list nl (ps.map Ov.pv)), .p (pS t), .clo (.func fn) []] [] fun r H => ∃ (i : Nat) (b : Bool), At (ps.map Ov.nm) t i b /\ r = .tup [.p (pI i), .p (pB b)] /\ H = [] := by
 refine acall_enter Tryz.func14 rfl rfl tabOK rfl ?_
 have hll : (ps.map Ov.nm).length = ps.length := by simp
 refine' y8bcb
 refine loop_rule (fun (⟨i, j⟩ : Nat × Nat) => ⟨[(0, .p (.list nl (ps.map Ov.pv))), (1, .p (pS t)), (2, .clo (.func fn) []), (8, .p (pI ps.length)), (9, .p (pI i)), (10, .p (pI j))], []⟩) (fun ⟨i, j⟩ => i <= j /\ j <= ps.length /\ (∀ k (h : k < (ps.map Ov.nm).length), k < i -> bless (ps.map Ov.nm)[k] t = true) /\ ∀ k (h : k < (ps.map Ov.nm).length), j <= k -> bless (ps.map Ov.nm)[k] t = false) (fun ⟨i, j⟩ => j - i) (0, ps.length) ?_ ?_ ?_; (refine SubA.auto rfl rfl rfl rfl ?_ ?_ <;> refine' fin_)
 ·exact ⟨by omega, by omega, fun k _ h => by omega, fun k h h2 => by omega⟩
 rintro ⟨i, j⟩ ⟨hij, hj, h1, h2⟩
 try simp only at hij hj h1 h2
 rcases Nat.lt_or_ge i j with hlt | hge
 ·obtain ⟨m, hm⟩ : ∃ m : Nat, m = (i + j) / 2 := ⟨_, rfl⟩
  have hm1 : i <= m /\ m < j := by omega
  have e1 : ((i : Int) + j).fdiv (2 ^ (min (1 : Int).toNat 64)) = (m : Int) := by
   show ((i : Int) + j).fdiv 2 = m
   rw [Int.fdiv_eq_ediv_of_nonneg _ (by omega)]; omega
  have hmm : m < (ps.map Ov.nm).length := by omega
  have hN : (ps.map Ov.nm)[m] = Ov.nm ps[m] := by simp
  have hcm := hc ps[m] (List.getElem_mem _)
  cases hb : bless (Ov.nm ps[m]) t with
  | true =>
   have hci : cmpI (Ov.nm ps[m]) t < 0 := by rw [cmpI, if_pos hb]; omega
   generalize cmpI (Ov.nm ps[m]) t = z at hcm hci
   (conv => whnf); repeat' ((first | refine' z8bcb | (refine CallA.scalar (hcm) ?_)) <;> (conv => whnf))
   (refine' ⟨(m + 1, j), _, _, _⟩; rotate_right; (refine SubA.auto rfl rfl rfl rfl ?_ ?_ <;> refine' fin_); rotate_right; exact ar2_)
   refine ⟨by omega, by omega, fun k hk hkm => ?_, h2⟩
   rcases Nat.lt_or_ge k m with h3 | h3
   ·exact bless_trans (ha k m h3 hmm) (by rw [hN]; exact hb)
   ·have : k = m := by omega
    subst this
    rw [hN]; exact hb
  | false =>
   have hci : ¬ cmpI (Ov.nm ps[m]) t < 0 := by
    rw [cmpI, if_neg (by rw [hb]; exact Bool.false_ne_true)]
    split <;> omega
   generalize cmpI (Ov.nm ps[m]) t = z at hcm hci
   (conv => whnf); repeat' ((first | refine' z8bcb | (refine CallA.scalar (hcm) ?_)) <;> (conv => whnf))
   (refine' ⟨(i, m), _, _, _⟩; rotate_right; (refine SubA.auto rfl rfl rfl rfl ?_ ?_ <;> refine' fin_); rotate_right; exact ar2_)
   refine ⟨by omega, by omega, h1, fun k hk hkm => ?_⟩
   rcases Nat.lt_or_ge m k with h3 | h3
   ·cases e : bless (ps.map Ov.nm)[k] t with
    | false => rfl
    | true =>
     have := bless_trans (ha m k h3 hk) e
     rw [hN, hb] at this
     cases this
   ·have : k = m := by omega
    subst this
    rw [hN]; exact hb
 ·obtain rfl : j = i := by omega
  rcases Nat.lt_or_ge j ps.length with hjl | hjl
  ·have hjm : j < (ps.map Ov.nm).length := by omega
   have hN : (ps.map Ov.nm)[j] = Ov.nm ps[j] := by simp
   have hcm := hc ps[j] (List.getElem_mem _)
   have hz : cmpI (Ov.nm ps[j]) t = 0 ↔ Ov.nm ps[j] = t := cmpI_zero
   by_cases he : Ov.nm ps[j] = t
   ·have hci := hz.2 he
    generalize cmpI (Ov.nm ps[j]) t = z at hcm hci
    (conv => whnf); repeat' ((first | refine' z8bcb | (refine CallA.scalar (hcm) ?_)) <;> (conv => whnf))
    (refine' RetK.auto (.tup [.p (pI j), .p (pB _)]) ([]) rfl rfl rfl rfl _ _ _ <;> try refine' fin_)
    refine ⟨j, true, ⟨by omega, h1, h2, fun _ => ⟨hjm, by rw [hN]; exact he⟩, fun h => by cases h⟩, ?_, rfl⟩
    rw [hci]; rfl
   ·have hci : ¬ cmpI (Ov.nm ps[j]) t = 0 := fun h => he (hz.1 h)
    generalize cmpI (Ov.nm ps[j]) t = z at hcm hci
    (conv => whnf); repeat' ((first | refine' z8bcb | (refine CallA.scalar (hcm) ?_)) <;> (conv => whnf))
    (refine' RetK.auto (.tup [.p (pI j), .p (pB _)]) ([]) rfl rfl rfl rfl _ _ _ <;> try refine' fin_)
    refine ⟨j, false, ⟨by omega, h1, h2, fun h => (by cases h), fun _ k hk e => ?_⟩, ?_, rfl⟩
    ·rcases Nat.lt_trichotomy k j with h3 | h3 | h3
     ·have := h1 k hk h3
      rw [e, bless_irrefl] at this; cases this
     ·subst h3; rw [hN] at e; exact he e
     ·have h4 := ha j k h3 hk
      rw [e] at h4
      have h5 := h2 j hjm (Nat.le_refl _)
      rw [h5] at h4; cases h4
    ·have hzz : (z == 0) = false := by simpa using hci
     simp [hzz]
  ·refine' y8bcb
   (refine' RetK.auto (.tup [.p (pI j), .p (pB false)]) ([]) rfl rfl rfl rfl _ _ _ <;> refine' fin_)
   refine ⟨j, false, ⟨by omega, h1, h2, fun h => (by cases h), fun _ k hk e => ?_⟩, rfl, rfl⟩
   have := h1 k hk (by omega)
   rw [e, bless_irrefl] at this; cases this
theorem BSPr_call (fn : FuncId) (t : ByteArray) (nl : Bool) (ps : List _) (hc : ∀ p ∈ ps, ACall Tryz.prog fn [.p (Pr.pv p), .p (pS t)] [] fun r H => r = .p (pI (cmpI (Prod.fst p) t)) /\ H = []) (hl : ps.length <= 1000) (ha : AscN (ps.map Prod.fst)) : ACall Tryz.prog 118 [.p (.list nl (ps.map Pr.pv)), .p (pS t), .clo (.func fn) []] [] fun r H => ∃ (i : Nat) (b : Bool), At (ps.map Prod.fst) t i b /\ r = .tup [.p (pI i), .p (pB b)] /\ H = [] := by
 refine acall_enter Tryz.func118 rfl rfl tabOK rfl ?_
 have hll : (ps.map Prod.fst).length = ps.length := by simp
 refine' y8bcb
 refine loop_rule (fun (⟨i, j⟩ : Nat × Nat) => ⟨[(0, .p (.list nl (ps.map Pr.pv))), (1, .p (pS t)), (2, .clo (.func fn) []), (8, .p (pI ps.length)), (9, .p (pI i)), (10, .p (pI j))], []⟩) (fun ⟨i, j⟩ => i <= j /\ j <= ps.length /\ (∀ k (h : k < (ps.map Prod.fst).length), k < i -> bless (ps.map Prod.fst)[k] t = true) /\ ∀ k (h : k < (ps.map Prod.fst).length), j <= k -> bless (ps.map Prod.fst)[k] t = false) (fun ⟨i, j⟩ => j - i) (0, ps.length) ?_ ?_ ?_; (refine SubA.auto rfl rfl rfl rfl ?_ ?_ <;> refine' fin_)
 ·exact ⟨by omega, by omega, fun k _ h => by omega, fun k h h2 => by omega⟩
 rintro ⟨i, j⟩ ⟨hij, hj, h1, h2⟩
 try simp only at hij hj h1 h2
 rcases Nat.lt_or_ge i j with hlt | hge
 ·obtain ⟨m, hm⟩ : ∃ m : Nat, m = (i + j) / 2 := ⟨_, rfl⟩
  have hm1 : i <= m /\ m < j := by omega
  have e1 : ((i : Int) + j).fdiv (2 ^ (min (1 : Int).toNat 64)) = (m : Int) := by
   show ((i : Int) + j).fdiv 2 = m
   rw [Int.fdiv_eq_ediv_of_nonneg _ (by omega)]; omega
  have hmm : m < (ps.map Prod.fst).length := by omega
  have hN : (ps.map Prod.fst)[m] = Prod.fst ps[m] := by simp
  have hcm := hc ps[m] (List.getElem_mem _)
  cases hb : bless (Prod.fst ps[m]) t with
  | true =>
   have hci : cmpI (Prod.fst ps[m]) t < 0 := by rw [cmpI, if_pos hb]; omega
   generalize cmpI (Prod.fst ps[m]) t = z at hcm hci
   (conv => whnf); repeat' ((first | refine' z8bcb | (refine CallA.scalar (hcm) ?_)) <;> (conv => whnf))
   (refine' ⟨(m + 1, j), _, _, _⟩; rotate_right; (refine SubA.auto rfl rfl rfl rfl ?_ ?_ <;> refine' fin_); rotate_right; exact ar2_)
   refine ⟨by omega, by omega, fun k hk hkm => ?_, h2⟩
   rcases Nat.lt_or_ge k m with h3 | h3
   ·exact bless_trans (ha k m h3 hmm) (by rw [hN]; exact hb)
   ·have : k = m := by omega
    subst this
    rw [hN]; exact hb
  | false =>
   have hci : ¬ cmpI (Prod.fst ps[m]) t < 0 := by
    rw [cmpI, if_neg (by rw [hb]; exact Bool.false_ne_true)]
    split <;> omega
   generalize cmpI (Prod.fst ps[m]) t = z at hcm hci
   (conv => whnf); repeat' ((first | refine' z8bcb | (refine CallA.scalar (hcm) ?_)) <;> (conv => whnf))
   (refine' ⟨(i, m), _, _, _⟩; rotate_right; (refine SubA.auto rfl rfl rfl rfl ?_ ?_ <;> refine' fin_); rotate_right; exact ar2_)
   refine ⟨by omega, by omega, h1, fun k hk hkm => ?_⟩
   rcases Nat.lt_or_ge m k with h3 | h3
   ·cases e : bless (ps.map Prod.fst)[k] t with
    | false => rfl
    | true =>
     have := bless_trans (ha m k h3 hk) e
     rw [hN, hb] at this
     cases this
   ·have : k = m := by omega
    subst this
    rw [hN]; exact hb
 ·obtain rfl : j = i := by omega
  rcases Nat.lt_or_ge j ps.length with hjl | hjl
  ·have hjm : j < (ps.map Prod.fst).length := by omega
   have hN : (ps.map Prod.fst)[j] = Prod.fst ps[j] := by simp
   have hcm := hc ps[j] (List.getElem_mem _)
   have hz : cmpI (Prod.fst ps[j]) t = 0 ↔ Prod.fst ps[j] = t := cmpI_zero
   by_cases he : Prod.fst ps[j] = t
   ·have hci := hz.2 he
    generalize cmpI (Prod.fst ps[j]) t = z at hcm hci
    (conv => whnf); repeat' ((first | refine' z8bcb | (refine CallA.scalar (hcm) ?_)) <;> (conv => whnf))
    (refine' RetK.auto (.tup [.p (pI j), .p (pB _)]) ([]) rfl rfl rfl rfl _ _ _ <;> try refine' fin_)
    refine ⟨j, true, ⟨by omega, h1, h2, fun _ => ⟨hjm, by rw [hN]; exact he⟩, fun h => by cases h⟩, ?_, rfl⟩
    rw [hci]; rfl
   ·have hci : ¬ cmpI (Prod.fst ps[j]) t = 0 := fun h => he (hz.1 h)
    generalize cmpI (Prod.fst ps[j]) t = z at hcm hci
    (conv => whnf); repeat' ((first | refine' z8bcb | (refine CallA.scalar (hcm) ?_)) <;> (conv => whnf))
    (refine' RetK.auto (.tup [.p (pI j), .p (pB _)]) ([]) rfl rfl rfl rfl _ _ _ <;> try refine' fin_)
    refine ⟨j, false, ⟨by omega, h1, h2, fun h => (by cases h), fun _ k hk e => ?_⟩, ?_, rfl⟩
    ·rcases Nat.lt_trichotomy k j with h3 | h3 | h3
     ·have := h1 k hk h3
      rw [e, bless_irrefl] at this; cases this
     ·subst h3; rw [hN] at e; exact he e
     ·have h4 := ha j k h3 hk
      rw [e] at h4
      have h5 := h2 j hjm (Nat.le_refl _)
      rw [h5] at h4; cases h4
    ·have hzz : (z == 0) = false := by simpa using hci
     simp [hzz]
  ·refine' y8bcb
   (refine' RetK.auto (.tup [.p (pI j), .p (pB false)]) ([]) rfl rfl rfl rfl _ _ _ <;> refine' fin_)
   refine ⟨j, false, ⟨by omega, h1, h2, fun h => (by cases h), fun _ k hk e => ?_⟩, rfl, rfl⟩
   have := h1 k hk (by omega)
   rw [e, bless_irrefl] at this; cases this
theorem names_call (o : Ov) (t : ByteArray) : ACall Tryz.prog 15 [.p o.pv, .p (pS t)] [] fun r H => r = .p (pI (cmpI o.nm t)) /\ H = [] := by
 refine acall_enter Tryz.func15 rfl rfl tabOK rfl ?_
 (conv => whnf); repeat' ((first | refine' z8bcb | (refine CallA.scalar (cmp_call o.nm t) ?_)) <;> (conv => whnf))
 (refine' RetK.auto (.p (pI (cmpI o.nm t))) ([]) rfl rfl rfl rfl _ _ _ <;> refine' fin_)
theorem edit1_call (p : Pr) (t : ByteArray) : ACall Tryz.prog 119 [.p (Pr.pv p), .p (pS t)] [] fun r H => r = .p (pI (cmpI p.1 t)) /\ H = [] := by
 refine acall_enter Tryz.func119 rfl rfl tabOK rfl ?_
 (conv => whnf); repeat' ((first | refine' z8bcb | (refine CallA.scalar (cmp_call p.1 t) ?_)) <;> (conv => whnf))
 (refine' RetK.auto (.p (pI (cmpI p.1 t))) ([]) rfl rfl rfl rfl _ _ _ <;> refine' fin_)
open Go.Abs
set_option maxRecDepth 100000
def isE (p n : ByteArray) (x : Ed) : Bool := (x.p.toList == p.toList) && (x.n.toList == n.toList)
theorem isE_call (a b : Int) (p n : ByteArray) (x : Ed) : ACall Tryz.prog 25 [.p x.pv, .ptr 0 0] [some (.cells [.p (pI a), .p (pI b), .p (pS p), .p (pS n)])] fun r H => r = .p (pB (isE p n x)) /\ H = [some (.cells [.p (pI a), .p (pI b), .p (pS p), .p (pS n)])] := by
 refine acall_enter Tryz.func25 rfl rfl tabOK rfl ?_
 have e : isE p n x = ((x.p.toList == p.toList) && (x.n.toList == n.toList)) := rfl
 cases h1 : (x.p.toList == p.toList) with
 | false =>
  rw [h1] at e
  refine' y8bcb
  (refine' RetK.auto (.p (pB false)) ([some (.cells [.p (pI a), .p (pI b), .p (pS p), .p (pS n)])]) rfl rfl rfl rfl _ _ _ <;> refine' fin_)
  rw [e]; rfl
 | true =>
  rw [h1] at e
  refine' y8bcb
  (refine' RetK.auto (.p (pB (x.n.toList == n.toList))) ([some (.cells [.p (pI a), .p (pI b), .p (pS p), .p (pS n)])]) rfl rfl rfl rfl _ _ _ <;> refine' fin_)
  rw [e]; rfl
theorem isE_index (a b : Int) (p n : ByteArray) (nl : Bool) (xs : List Ed) : ACall Tryz.prog 24 [.p (.list nl (xs.map Ed.pv)), .clo (.func 25) [.ptr 0 0]] [some (.cells [.p (pI a), .p (pI b), .p (pS p), .p (pS n)])] fun r H => (∃ v : Int, r = .p (pI v) /\ ((v = -1 /\ xs.find? (isE p n) = none) \/ ∃ k : Nat, v = k /\ ∃ h : k < xs.length, xs.find? (isE p n) = some xs[k])) /\ H = [some (.cells [.p (pI a), .p (pI b), .p (pS p), .p (pS n)])] := by
 refine acall_enter Tryz.func24 rfl rfl tabOK rfl ?_
 refine' y8bcb
 refine loop_rule (fun (c : Nat) => ⟨[(0, .p (.list nl (xs.map Ed.pv))), (1, .clo (.func 25) [.ptr 0 0]), (7, .p (pI xs.length)), (8, .p (pI c))], [some (.cells [.p (pI a), .p (pI b), .p (pS p), .p (pS n)])]⟩) (fun c => c <= xs.length /\ xs.find? (isE p n) = (xs.drop c).find? (isE p n)) (fun c => xs.length - c) 0 ?_ ?_ ?_; (refine SubA.auto rfl rfl rfl rfl ?_ ?_ <;> refine' fin_)
 ·exact ⟨by omega, rfl⟩
 rintro c ⟨hc, hf⟩
 rcases Nat.lt_or_ge c xs.length with hlt | hge
 ·rw [List.drop_eq_getElem_cons hlt] at hf
  refine' y8bcb
  refine CallA.loc [0] [] rfl rfl ((isE_call a b p n xs[c]).mono ?_)
  rintro r H ⟨rfl, rfl⟩
  cases hb : isE p n xs[c] with
  | true =>
   rw [List.find?_cons_of_pos hb] at hf
   refine' y8bcb
   (refine' RetK.auto (.p (pI c)) ([some (.cells [.p (pI a), .p (pI b), .p (pS p), .p (pS n)])]) rfl rfl rfl rfl _ _ _ <;> refine' fin_)
   exact ⟨c, rfl, .inr ⟨c, rfl, hlt, hf⟩⟩
  | false =>
   rw [List.find?_cons_of_neg (by rw [hb]; exact Bool.false_ne_true)] at hf
   refine' y8bcb
   (refine' ⟨c + 1, _, _, _⟩; rotate_right; (refine SubA.auto rfl rfl rfl rfl ?_ ?_ <;> refine' fin_); rotate_right; exact ar2_)
   exact ⟨by omega, hf⟩
 ·rw [List.drop_eq_nil_of_le hge] at hf
  refine' y8bcb
  (refine' RetK.auto (.p (pI (-1))) ([some (.cells [.p (pI a), .p (pI b), .p (pS p), .p (pS n)])]) rfl rfl rfl rfl _ _ _ <;> refine' fin_)
  exact ⟨-1, rfl, .inl ⟨rfl, hf⟩⟩
def fE (os : List Ov) (i : Int) (p n : ByteArray) : Option Ed := if h : 0 <= i /\ i.toNat < os.length then os[i.toNat].es.find? (isE p n) else none
theorem find23_call (no : Bool) (os : List Ov) (hl : os.length <= 1000) (ho : ∀ o ∈ os, Mo o) (a b : Int) (p n : ByteArray) (i : Int) : ACall Tryz.prog 23 [.p (pI i), .ptr 0 0, .ptr 1 0] [some (.cells [.p (.list no (os.map Ov.pv))]), some (.cells [.p (pI a), .p (pI b), .p (pS p), .p (pS n)])] fun r H => r = .tup [.p ((fE os i p n).getD emE).pv, .p (pB (fE os i p n).isSome)] /\ H = [some (.cells [.p (.list no (os.map Ov.pv))]), some (.cells [.p (pI a), .p (pI b), .p (pS p), .p (pS n)])] := by
 refine acall_enter Tryz.func23 rfl rfl tabOK rfl ?_
 rcases Int.lt_or_le i 0 with h0 | h0
 ·have e : fE os i p n = none := dif_neg fun h => by omega
  rw [e]
  refine' y8bcb
  (refine' RetK.auto (.tup [.p (Ed.pv emE), .p (pB false)]) ([some (.cells [.p (.list no (os.map Ov.pv))]), some (.cells [.p (pI a), .p (pI b), .p (pS p), .p (pS n)])]) rfl rfl rfl rfl _ _ _ <;> refine' fin_)
 obtain ⟨k, rfl⟩ := Int.eq_ofNat_of_zero_le h0
 rcases Nat.lt_or_ge k os.length with hk | hk
 rotate_left
 ·have e : fE os k p n = none := dif_neg fun h => by simp at h; omega
  rw [e]
  refine' y8bcb
  (refine' RetK.auto (.tup [.p (Ed.pv emE), .p (pB false)]) ([some (.cells [.p (.list no (os.map Ov.pv))]), some (.cells [.p (pI a), .p (pI b), .p (pS p), .p (pS n)])]) rfl rfl rfl rfl _ _ _ <;> refine' fin_)
 ·have e : fE os k p n = os[k].es.find? (isE p n) := dif_pos ⟨h0, by simpa using hk⟩
  have hm := ho _ (List.getElem_mem hk)
  have hml := hm.l
  refine' y8bcb
  refine CallA.loc [1] [] rfl rfl ((isE_index a b p n os[k].nl os[k].es).mono ?_)
  rintro r H ⟨⟨v, rfl, hv⟩, rfl⟩
  rcases hv with ⟨rfl, hv⟩ | ⟨j, rfl, hj, hv⟩
  ·rw [e, hv]
   refine' y8bcb
   (refine' RetK.auto (.tup [.p (Ed.pv emE), .p (pB false)]) ([some (.cells [.p (.list no (os.map Ov.pv))]), some (.cells [.p (pI a), .p (pI b), .p (pS p), .p (pS n)])]) rfl rfl rfl rfl _ _ _ <;> refine' fin_)
  ·rw [e, hv]
   refine' y8bcb
   (refine' RetK.auto (.tup [.p (Ed.pv os[k].es[j]), .p (pB true)]) ([some (.cells [.p (.list no (os.map Ov.pv))]), some (.cells [.p (pI a), .p (pI b), .p (pS p), .p (pS n)])]) rfl rfl rfl rfl _ _ _ <;> refine' fin_)
open Go.Abs
set_option maxRecDepth 100000
noncomputable def okOv (o : Ov) : Bool := @decide (OvOK o) (Classical.propDecidable _)
theorem okOv_iff {o : Ov} : okOv o = true ↔ OvOK o := @decide_eq_true_iff _ (Classical.propDecidable _)
theorem badO_call (o : Ov) (h : Mo o) : ACall Tryz.prog 21 [.p o.pv] [] fun r H => r = .p (pB (!okOv o)) /\ H = [] := by
 refine acall_enter Tryz.func21 rfl rfl tabOK rfl ?_
 refine' y8bcb
 refine CallA.loc [] [] rfl rfl ((oCheck_call o h).mono ?_)
 rintro _ _ ⟨⟨e, rfl, he, _⟩, rfl⟩
 by_cases h0 : e = 0
 ·have hk : okOv o = true := okOv_iff.2 (he.1 h0)
  subst h0
  refine' y8bcb
  (refine' RetK.auto (.p (pB false)) ([]) rfl rfl rfl rfl _ _ _ <;> refine' fin_)
  rw [hk]; rfl
 ·have hk : okOv o = false := Bool.eq_false_iff.2 fun h => h0 (he.2 (okOv_iff.1 h))
  have hz : (e != 0) = true := by simpa using h0
  refine' y8bcb
  (refine' RetK.auto (.p (pB _)) ([]) rfl rfl rfl rfl _ _ _ <;> try refine' fin_)
  rw [hk]
  first | rfl | (rw [hz]; rfl) | simp [hz]
theorem badO_index (nl : Bool) (xs : List _) (hx : ∀ x ∈ xs, Mo x) : ACall Tryz.prog 54 [.p (.list nl (xs.map Ov.pv)), .clo (.func 21) []] [] fun r H => (∃ v : Int, r = .p (pI v) /\ (decide (0 <= v) = xs.any fun x => !okOv x)) /\ H = [] := by
 refine acall_enter Tryz.func54 rfl rfl tabOK rfl ?_
 refine' y8bcb
 refine loop_rule (fun (c : Nat) => ⟨[(0, .p (.list nl (xs.map Ov.pv))), (1, .clo (.func 21) []), (7, .p (pI xs.length)), (8, .p (pI c))], []⟩) (fun c => c <= xs.length /\ ∀ (k : Nat) (h : k < xs.length), k < c -> (!okOv xs[k]) = false) (fun c => xs.length - c) 0 ?_ ?_ ?_; (refine SubA.auto rfl rfl rfl rfl ?_ ?_ <;> refine' fin_)
 ·exact ⟨by omega, by omega⟩
 rintro c ⟨hc, hok⟩
 rcases Nat.lt_or_ge c xs.length with hlt | hge
 ·refine' y8bcb
  refine CallA.loc [] [] rfl rfl ((badO_call xs[c] (hx _ (List.getElem_mem hlt))).mono ?_)
  rintro r H ⟨rfl, rfl⟩
  generalize hb : (!okOv xs[c]) = B
  cases B with
  | true =>
   refine' y8bcb
   (refine' RetK.auto (.p (pI c)) ([]) rfl rfl rfl rfl _ _ _ <;> refine' fin_)
   refine ⟨c, rfl, ?_⟩
   rw [List.any_eq_true.2 ⟨xs[c], List.getElem_mem _, hb⟩]
   exact decide_eq_true (by omega)
  | false =>
   refine' y8bcb
   (refine' ⟨c + 1, _, _, _⟩; rotate_right; (refine SubA.auto rfl rfl rfl rfl ?_ ?_ <;> refine' fin_); rotate_right; exact ar2_)
   exact ⟨by omega, all_succ hok fun _ => hb⟩
 ·refine' y8bcb
  (refine' RetK.auto (.p (pI (-1))) ([]) rfl rfl rfl rfl _ _ _ <;> refine' fin_)
  refine ⟨-1, rfl, ?_⟩
  rw [List.any_eq_false.2]
  ·rfl
  ·intro x hx
   obtain ⟨k, hk, rfl⟩ := List.getElem_of_mem hx
   exact Bool.eq_false_iff.1 (hok k hk (by omega))
theorem badO_contains (nl : Bool) (xs : List _) (hx : ∀ x ∈ xs, Mo x) : ACall Tryz.prog 20 [.p (.list nl (xs.map Ov.pv)), .clo (.func 21) []] [] fun r H => r = .p (pB (xs.any fun x => !okOv x)) /\ H = [] := by
 refine acall_enter Tryz.func20 rfl rfl tabOK rfl ?_
 refine' y8bcb
 refine CallA.all ((badO_index nl xs hx).mono ?_)
 rintro r H ⟨⟨v, rfl, hv⟩, rfl⟩
 refine' y8bcb
 (refine' RetK.auto (.p (pB (xs.any fun x => !okOv x))) ([]) rfl rfl rfl rfl _ _ _ <;> refine' fin_)
 rw [<- hv]; rfl
open Go.Abs
set_option maxRecDepth 100000
def ctA : Sc := (.take 0 (.take 1 (.take 2 (.frz 3 (.take 4 (.take 5 (.take 6 (.frz 7 (.one 8 (.take 9 (.take 10 (.take 11 (.take 12 (.take 13 (.take 14 (.take 15 .done))))))))))))))))
def NoCl (os : List Ov) : Prop := ∀ i k (hi : i < k) (hk : k < os.length), clF os[i].es os[k].es = none
def NoMs (ns : List Nd) (R : List ByteArray) (os : List Ov) : Prop := ∀ i (h : i < os.length), msF ns R os[i].es = none
def Con (ns : List Nd) (R : List ByteArray) (os : List Ov) (a b : Int) (p n : ByteArray) (e : Int) : Prop :=
 (e = 8 /\ ∃ i k : Nat, ∃ (hi : i < k) (hk : k < os.length), a = i /\ b = k /\ ∃ x, clF os[i].es os[k].es = some x /\ p = x.p /\ n = x.n) \/
 (e = 4 /\ NoCl os /\ b = -1 /\ ∃ i : Nat, ∃ hi : i < os.length, a = i /\ ∃ x, msF ns R os[i].es = some x /\ p = x.p /\ n = x.n) \/
 (e = 0 /\ NoCl os /\ NoMs ns R os)
set_option maxHeartbeats 4000000 in
theorem contra_call (nl no nr : Bool) (ns : List Nd) (os : List Ov) (R : List ByteArray) (hF : FormOK ns os) (ho : ∀ o ∈ os, Mo o) (hA : ACall Tryz.prog 29 [.p (.list no (os.map Ov.pv))] [] fun r H => r = .p (.list nr (R.map pS)) /\ H = []) : ACall Tryz.prog 31 [.p (.agg [.list nl (ns.map Nd.pv)]), .p (.list no (os.map Ov.pv))] [] fun r H => (∃ (a b : Int) (p n : ByteArray) (e : Int), r = .tup [.p (.agg [pI a, pI b, pS p, pS n]), .p (pI e)] /\ Con ns R os a b p n e) /\ H = [] := by
 refine acall_enter Tryz.func31 rfl rfl tabOK rfl ?_
 have hl := hF.len
 refine' y8bcb
 refine loop_rule (fun (i : Nat) => ⟨[(1, .p (.list no (os.map Ov.pv))), (2, .ptr 0 0), (4, .ptr 1 0), (18, .p (pI os.length)), (19, .p (pI i))], [some (.cells [.p (.list nl (ns.map Nd.pv))]), some (.cells [.p (pI 0), .p (pI 0), .p (pS ⟨#[]⟩), .p (pS ⟨#[]⟩)])]⟩) (fun i => i <= os.length /\ ∀ j k (hj : j < k) (hk : k < os.length), j < i -> clF os[j].es os[k].es = none) (fun i => os.length - i) 0 ?_ ?_ ?_; (refine SubA.auto rfl rfl rfl rfl ?_ ?_ <;> refine' fin_)
 ·exact ⟨by omega, fun j k _ _ h => by omega⟩
 rintro i ⟨hi, hcl⟩
 rcases Nat.lt_or_ge i os.length with hil | hig
 ·refine' y8bcb
  refine loop_rule (fun (k : Nat) => ⟨[(1, .p (.list no (os.map Ov.pv))), (2, .ptr 0 0), (4, .ptr 1 0), (6, .p (pI i)), (7, .p (pI k)), (18, .p (pI os.length)), (19, .p (pI i))], [some (.cells [.p (.list nl (ns.map Nd.pv))]), some (.cells [.p (pI 0), .p (pI 0), .p (pS ⟨#[]⟩), .p (pS ⟨#[]⟩)])]⟩) (fun k => i < k /\ ∀ j (hj : i < j) (hk : j < os.length), j < k -> clF os[i].es os[j].es = none) (fun k => os.length - k) (i + 1) ?_ ?_ ?_; (refine SubA.auto rfl rfl rfl rfl ?_ ?_ <;> refine' fin_)
  ·exact ⟨by omega, fun j _ _ h => by omega⟩
  rintro k ⟨hik, hck⟩
  rcases Nat.lt_or_ge k os.length with hkl | hkg
  ·have hC := Clash_call os[i] os[k] (hF.ov _ (List.getElem_mem _)) (hF.ov _ (List.getElem_mem _)) (ho _ (List.getElem_mem _)) (ho _ (List.getElem_mem _))
   cases hx : clF os[i].es os[k].es with
   | some x =>
    rw [hx] at hC
    (conv => whnf); repeat' ((first | refine' z668c | (apply DrawA.orders ctA (by kernel_rfl) (by kernel_rfl) (by kernel_rfl)) | ((refine CallA.loc [] [] rfl rfl (hC.mono ?_); rintro _ _ ⟨rfl, rfl⟩))) <;> (conv => whnf))
    (refine' RetK.auto (.tup [.p (.agg [pI i, pI k, pS x.p, pS x.n]), .p (pI 8)]) ([]) rfl rfl rfl rfl _ _ _ <;> refine' fin_)
    exact ⟨i, k, x.p, x.n, 8, rfl, .inl ⟨rfl, i, k, hik, hkl, rfl, rfl, x, hx, rfl, rfl⟩⟩
   | none =>
    rw [hx] at hC
    (conv => whnf); repeat' ((first | refine' z668c | (apply DrawA.orders ctA (by kernel_rfl) (by kernel_rfl) (by kernel_rfl)) | ((refine CallA.loc [] [] rfl rfl (hC.mono ?_); rintro _ _ ⟨rfl, rfl⟩))) <;> (conv => whnf))
    (refine' ⟨k + 1, _, _, _⟩; rotate_right; (refine SubA.auto rfl rfl rfl rfl ?_ ?_ <;> refine' fin_); rotate_right; exact ar2_)
    refine ⟨by omega, fun j hj hjl hjk => ?_⟩
    rcases Nat.lt_or_ge j k with h1 | h1
    ·exact hck j hj hjl h1
    ·have : j = k := by omega
     subst this; exact hx
  ·refine' y8bcb
   (refine' ⟨i + 1, _, _, _⟩; rotate_right; (refine SubA.auto rfl rfl rfl rfl ?_ ?_ <;> refine' fin_); rotate_right; exact ar2_)
   refine ⟨by omega, fun j k hj hk hji => ?_⟩
   rcases Nat.lt_or_ge j i with h1 | h1
   ·exact hcl j k hj hk h1
   ·have : j = i := by omega
    subst this; exact hck k hj hk (by omega)
 have hNC : NoCl os := fun j k hj hk => hcl j k hj hk (by omega)
 refine' y8bcb
 refine CallA.loc [] [] rfl rfl ((paths_call nl ns hF.val).mono ?_)
 rintro _ _ ⟨rfl, rfl⟩
 refine' y8bcb
 refine CallA.loc [] [] rfl rfl (hA.mono ?_)
 rintro _ _ ⟨rfl, rfl⟩
 refine' y8bcb
 refine loop_rule (fun (c : Nat) => ⟨[(4, .ptr 0 0), (11, .mp 1), (12, .p (.list nr (R.map pS))), (54, .p (.list no (os.map Ov.pv))), (55, .p (pI os.length)), (56, .p (pI c))], [some (.cells [.p (pI 0), .p (pI 0), .p (pS ⟨#[]⟩), .p (pS ⟨#[]⟩)]), some (AO.map (ptE ns ns.length))]⟩) (fun c => c <= os.length /\ ∀ j (h : j < os.length), j < c -> msF ns R os[j].es = none) (fun c => os.length - c) 0 ?_ ?_ ?_; (refine SubA.auto rfl rfl rfl rfl ?_ ?_ <;> refine' fin_)
 ·exact ⟨by omega, fun j _ h => by omega⟩
 rintro c ⟨hc, hms⟩
 rcases Nat.lt_or_ge c os.length with hlt | hge
 ·have hM := missing_call ns hF.val nr R os[c] (ho _ (List.getElem_mem hlt)) (hF.ov _ (List.getElem_mem hlt)).ed
  cases hx : msF ns R os[c].es with
  | some x =>
   rw [hx] at hM
   refine' y8bcb
   refine CallA.loc [1] [] rfl rfl (hM.mono ?_)
   rintro _ _ ⟨rfl, rfl⟩
   refine' y8bcb
   (refine' RetK.auto (.tup [.p (.agg [pI c, pI (-1), pS x.p, pS x.n]), .p (pI 4)]) ([]) rfl rfl rfl rfl _ _ _ <;> refine' fin_)
   exact ⟨c, -1, x.p, x.n, 4, rfl, .inr (.inl ⟨rfl, hNC, rfl, c, hlt, rfl, x, hx, rfl, rfl⟩)⟩
  | none =>
   rw [hx] at hM
   refine' y8bcb
   refine CallA.loc [1] [] rfl rfl (hM.mono ?_)
   rintro _ _ ⟨rfl, rfl⟩
   refine' y8bcb
   (refine' ⟨c + 1, _, _, _⟩; rotate_right; (refine SubA.auto rfl rfl rfl rfl ?_ ?_ <;> refine' fin_); rotate_right; exact ar2_)
   refine ⟨by omega, fun j hj hjc => ?_⟩
   rcases Nat.lt_or_ge j c with h1 | h1
   ·exact hms j hj h1
   ·have : j = c := by omega
    subst this; exact hx
 ·refine' y8bcb
  (refine' RetK.auto (.tup [.p (.agg [pI 0, pI 0, pS ⟨#[]⟩, pS ⟨#[]⟩]), .p (pI 0)]) ([]) rfl rfl rfl rfl _ _ _ <;> refine' fin_)
  exact ⟨0, 0, ⟨#[]⟩, ⟨#[]⟩, 0, rfl, .inr (.inr ⟨rfl, hNC, fun j hj => hms j hj (by omega)⟩)⟩
open Go.Abs
theorem cmpI_lt {a b : ByteArray} : cmpI a b < 0 ↔ bless a b = true := by
 unfold cmpI
 constructor
 ·intro h
  split at h
  ·assumption
  ·split at h <;> omega
 ·intro h
  rw [if_pos h]; omega
theorem befE_iff {x y : Ed} : befE x y = true ↔ bless x.p y.p = true \/ x.p = y.p /\ bless x.n y.n = true := by
 unfold befE
 rw [Bool.or_eq_true, Bool.and_eq_true, decide_eq_true_iff]
theorem cmpE_lt {x y : Ed} : cmpE x y < 0 ↔ befE x y = true := by
 rw [befE_iff]
 unfold cmpE
 by_cases h : cmpI x.p y.p = 0
 ·rw [if_pos h, cmpI_lt]
  have e := cmpI_zero.1 h
  rw [e, bless_irrefl]
  simp
 ·rw [if_neg h, cmpI_lt]
  have : x.p ≠ y.p := fun e => h (cmpI_zero.2 e)
  simp [this]
theorem cmpE_zero {x y : Ed} : cmpE x y = 0 ↔ x.p = y.p /\ x.n = y.n := by
 unfold cmpE
 by_cases h : cmpI x.p y.p = 0
 ·rw [if_pos h, cmpI_zero]
  exact ⟨fun k => ⟨cmpI_zero.1 h, k⟩, fun k => k.2⟩
 ·rw [if_neg h]
  exact ⟨fun k => absurd k h, fun k => cmpI_zero.2 k.1⟩
theorem befE_trans {x y z : Ed} (h : befE x y = true) (k : befE y z = true) : befE x z = true := by
 rw [befE_iff] at *
 rcases h with h | ⟨h1, h2⟩
 ·rcases k with k | ⟨k1, k2⟩
  ·exact .inl (bless_trans h k)
  ·rw [<- k1]; exact .inl h
 ·rcases k with k | ⟨k1, k2⟩
  ·rw [h1]; exact .inl k
  ·exact .inr ⟨h1.trans k1, bless_trans h2 k2⟩
theorem befE_irrefl {x y : Ed} (h1 : x.p = y.p) (h2 : x.n = y.n) : befE x y = false := by
 refine Bool.eq_false_iff.2 fun h => ?_
 rcases befE_iff.1 h with h | ⟨_, h⟩
 ·rw [h1, bless_irrefl] at h; cases h
 ·rw [h2, bless_irrefl] at h; cases h
theorem AscE.pair {es : List Ed} (h : AscE es) : ∀ (d i : Nat) (hj : i + d + 1 < es.length), befE (es[i]'(by omega)) (es[i + d + 1]'hj) = true
 | 0, i, hj => cmpE_lt.1 (h (i + 1) hj (by omega))
 | d + 1, i, hj => befE_trans (AscE.pair h d i (by omega)) (cmpE_lt.1 (h (i + d + 1 + 1) hj (by omega)))
theorem AscE.uniq {es : List Ed} (h : AscE es) {x y : Ed} (hx : x ∈ es) (hy : y ∈ es) (h1 : x.p = y.p) (h2 : x.n = y.n) : x = y := by
 obtain ⟨i, hi, rfl⟩ := List.getElem_of_mem hx
 obtain ⟨j, hj, rfl⟩ := List.getElem_of_mem hy
 rcases Nat.lt_trichotomy i j with h3 | h3 | h3
 ·obtain ⟨d, rfl⟩ : ∃ d, j = i + d + 1 := ⟨j - i - 1, by omega⟩
  have := h.pair d i hj
  rw [befE_irrefl h1 h2] at this; cases this
 ·subst h3; rfl
 ·obtain ⟨d, rfl⟩ : ∃ d, i = j + d + 1 := ⟨i - j - 1, by omega⟩
  have := h.pair d j hi
  rw [befE_irrefl h1.symm h2.symm] at this; cases this
theorem isE_iff {p n : ByteArray} {x : Ed} : isE p n x = true ↔ x.p = p /\ x.n = n := by
 unfold isE
 rw [Bool.and_eq_true, seqS, seqS, decide_eq_true_iff, decide_eq_true_iff]
theorem AscE.find {es : List Ed} (h : AscE es) {x : Ed} (hx : x ∈ es) : es.find? (isE x.p x.n) = some x := by
 cases e : es.find? (isE x.p x.n) with
 | none =>
  have := List.find?_eq_none.1 e x hx
  exact absurd (isE_iff.2 ⟨rfl, rfl⟩) this
 | some y =>
  have h1 := List.find?_some e
  have h2 := List.mem_of_find?_eq_some e
  obtain ⟨h3, h4⟩ := isE_iff.1 h1
  rw [h.uniq h2 hx h3 h4]
theorem neE_iff {x y : Ed} : neE x y = true ↔ x ≠ y := by
 unfold neE
 rw [seqS, seqS, seqS]
 cases x; cases y
 simp only [Bool.and_true, Bool.not_eq_true', Bool.and_eq_false_iff, beq_eq_false_iff_ne, decide_eq_false_iff_not, ne_eq, Ed.mk.injEq]
 constructor
 ·rintro h ⟨rfl, rfl, rfl, rfl⟩
  simp at h
 ·intro h
  refine Classical.byContradiction fun k => h ?_
  simp only [not_or, Classical.not_not] at k
  exact k
open Go.Abs
set_option maxRecDepth 100000
theorem fE_at {os : List Ov} {i : Nat} (hi : i < os.length) (ha : AscE os[i].es) {x : Ed} (hx : x ∈ os[i].es) : fE os i x.p x.n = some x := by
 unfold fE
 rw [dif_pos ⟨Int.natCast_nonneg i, by simpa using hi⟩]
 exact ha.find hx
theorem clF_spec {es fs : List Ed} {x : Ed} (h : clF es fs = some x) : x ∈ es /\ ∃ y ∈ fs, x.p = y.p /\ x.n = y.n /\ x.n ≠ ByteArray.empty /\ x ≠ y := by
 have h1 := List.find?_some h
 have h2 := List.mem_of_find?_eq_some h
 obtain ⟨y, hy, hc⟩ := List.any_eq_true.1 h1
 unfold clashE at hc
 rw [Bool.and_eq_true, Bool.and_eq_true, decide_eq_true_iff, Bool.not_eq_true', decide_eq_false_iff_not, cmpE_zero, neE_iff] at hc
 exact ⟨h2, y, hy, hc.1.1.1, hc.1.1.2, hc.1.2, hc.2⟩
theorem msF_spec {ns : List Nd} {R : List ByteArray} {es : List Ed} {x : Ed} (h : msF ns R es = some x) : x ∈ es /\ hasP ns (needE x) = false /\ memB (needE x) R = false := by
 have h1 := List.find?_some h
 have h2 := List.mem_of_find?_eq_some h
 rw [Bool.and_eq_true, Bool.not_eq_true', Bool.not_eq_true'] at h1
 exact ⟨h2, h1⟩
set_option maxHeartbeats 4000000 in
theorem stCheck_call (nl no nr : Bool) (ns : List Nd) (os : List Ov) (R : List ByteArray) (hF : FormOK ns os) (ho : ∀ o ∈ os, Mo o) (hA : ACall Tryz.prog 29 [.p (.list no (os.map Ov.pv))] [] fun r H => r = .p (.list nr (R.map pS)) /\ H = []) (a b : Int) (p n : ByteArray) (e : Int) (hc : Con ns R os a b p n e) (he : e = 8 \/ e = 4) : ACall Tryz.prog 7 [.p (.agg [.list nl (ns.map Nd.pv)]), .p (.list no (os.map Ov.pv)), .p (.agg [pI a, pI b, pS p, pS n])] [] fun r H => r = .p (pB true) /\ H = [] := by
 refine acall_enter Tryz.func7 rfl rfl tabOK rfl ?_
 have hl := hF.len
 have hC : ACall Tryz.prog 19 [.p (.agg [.list nl (ns.map Nd.pv)])] [] fun r H => r = .p (pI 0) /\ H = [] := (Check_call nl ns hF.val.sm hF.val.few).mono fun r H h => by
  obtain ⟨⟨e, h1, h2, _⟩, h3⟩ := h
  rw [h2.2 hF.val] at h1
  exact ⟨h1, h3⟩
 have hB := badO_contains no os ho
 rw [show (os.any fun x => !okOv x) = false from List.any_eq_false.2 fun o h => by rw [okOv_iff.2 (hF.ov o h)]; decide] at hB
 rcases hc with ⟨rfl, i, k, hik, hk, rfl, rfl, x, hx, rfl, rfl⟩ | ⟨rfl, hN, rfl, i, hi, rfl, x, hx, rfl, rfl⟩ | ⟨rfl, _⟩
 ·obtain ⟨hx1, y, hy, hp, hn, hne, hxy⟩ := clF_spec hx
  have f1 := fE_at (os := os) (i := i) (by omega) (hF.ov _ (List.getElem_mem _)).asc hx1
  have f2 : fE os k x.p x.n = some y := by rw [hp, hn]; exact fE_at hk (hF.ov _ (List.getElem_mem _)).asc hy
  have c1 := find23_call no os (by omega) ho i k x.p x.n i
  have c2 := find23_call no os (by omega) ho i k x.p x.n k
  rw [f1] at c1
  rw [f2] at c2
  have hnn := eq_emp2 x.n
  rw [decide_eq_false hne] at hnn
  have hxx : neE x y = true := neE_iff.2 hxy
  (conv => whnf); repeat' ((first | refine' z8bcb | (refine CallA.scalar (hC) ?_) | (refine CallA.scalar (hB) ?_)) <;> (conv => whnf))
  refine CallA.loc [1, 2] [] rfl rfl (c1.mono ?_)
  rintro _ _ ⟨rfl, rfl⟩
  refine' y8bcb
  refine CallA.loc [1, 2] [] rfl rfl (c2.mono ?_)
  rintro _ _ ⟨rfl, rfl⟩
  refine' y8bcb
  (refine' RetK.auto (.p (pB (neE x y))) ([]) rfl rfl rfl rfl _ _ _ <;> refine' fin_)
  rw [hxx]
 ·obtain ⟨hx1, hx2, hx3⟩ := msF_spec hx
  have f1 := fE_at (os := os) hi (hF.ov _ (List.getElem_mem _)).asc hx1
  have c1 := find23_call no os (by omega) ho i (-1) x.p x.n i
  rw [f1] at c1
  have hN := needed_call x ((hF.ov _ (List.getElem_mem hi)).ed x hx1) ((ho _ (List.getElem_mem hi)).s x hx1)
  have hS := sContains_call nr R (needE x)
  rw [hx3] at hS
  (conv => whnf); repeat' ((first | refine' z8bcb | (refine CallA.scalar (hC) ?_) | (refine CallA.scalar (hB) ?_)) <;> (conv => whnf))
  refine CallA.loc [1, 2] [] rfl rfl (c1.mono ?_)
  rintro _ _ ⟨rfl, rfl⟩
  (conv => whnf); repeat' ((first | refine' z8bcb | (refine CallA.scalar (hN) ?_)) <;> (conv => whnf))
  refine CallA.loc [] [] rfl rfl ((Find_call nl ns hF.val (needE x)).mono ?_)
  rintro _ _ ⟨⟨k, b, rfl, hk, _⟩, rfl⟩
  cases b with
  | true =>
   obtain ⟨h1, h2⟩ := hk rfl
   rw [hasP_iff.2 ⟨k, h1, h2⟩] at hx2
   cases hx2
  | false =>
   refine' y8bcb
   refine CallA.loc [] [] rfl rfl (hA.mono ?_)
   rintro _ _ ⟨rfl, rfl⟩
   (conv => whnf); repeat' ((first | refine' z8bcb | (refine CallA.scalar (hS) ?_)) <;> (conv => whnf))
   (refine' RetK.auto (.p (pB true)) ([]) rfl rfl rfl rfl _ _ _ <;> refine' fin_)
 ·omega
open Go.Abs
set_option maxRecDepth 100000
open Go.Abs
def AscP (ps : List Pr) : Prop := ps.Pairwise fun a b => bless a.1 b.1 = true
theorem PrA.ascP : ∀ {ps : List Pr}, PrA ps -> AscP ps
 | [], _ => .nil
 | [p], _ => List.pairwise_singleton ..
 | p :: q :: r, h => by
  have ih : AscP (q :: r) := PrA.ascP fun k hk h0 => by
   have := h (k + 1) (by simp at hk ⊢; omega) (by omega)
   obtain ⟨j, rfl⟩ : ∃ j, k = j + 1 := ⟨k - 1, by omega⟩
   simpa using this
  have h1 : bless p.1 q.1 = true := h 1 (by simp) (by omega)
  refine List.pairwise_cons.2 ⟨fun x hx => ?_, ih⟩
  rcases List.mem_cons.1 hx with rfl | hx
  ·exact h1
  ·exact bless_trans h1 ((List.pairwise_cons.1 ih).1 x hx)
theorem AscP.ascN {ps : List Pr} (h : AscP ps) : AscN (ps.map Prod.fst) := fun i j hi hj => by
 rw [List.length_map] at hj
 rw [List.getElem_map, List.getElem_map]
 exact List.pairwise_iff_getElem.1 h i j (by omega) hj hi
def putP (n v : ByteArray) : List Pr -> List Pr
 | [] => [(n, v)]
 | q :: r => if bless q.1 n = true then q :: putP n v r else if q.1 = n then (n, v) :: r else (n, v) :: q :: r
def delP (n : ByteArray) (ps : List Pr) : List Pr := ps.filter fun q => !decide (q.1 = n)
theorem putP_mem {n v : ByteArray} : ∀ {ps : List Pr} {q : Pr}, q ∈ putP n v ps -> q = (n, v) \/ q ∈ ps
 | [], q, h => .inl (by simpa [putP] using h)
 | p :: r, q, h => by
  unfold putP at h
  split at h
  ·rcases List.mem_cons.1 h with rfl | h
   ·exact .inr (List.mem_cons_self ..)
   ·rcases putP_mem h with h | h
    ·exact .inl h
    ·exact .inr (List.mem_cons_of_mem _ h)
  ·split at h
   ·rcases List.mem_cons.1 h with rfl | h
    ·exact .inl rfl
    ·exact .inr (List.mem_cons_of_mem _ h)
   ·rcases List.mem_cons.1 h with rfl | h
    ·exact .inl rfl
    ·exact .inr h
theorem putP_asc {n v : ByteArray} : ∀ {ps : List Pr}, AscP ps -> AscP (putP n v ps)
 | [], _ => List.pairwise_singleton ..
 | p :: r, h => by
  obtain ⟨h1, h2⟩ := List.pairwise_cons.1 h
  unfold putP
  split
  ·rename_i hb
   refine List.pairwise_cons.2 ⟨fun x hx => ?_, putP_asc h2⟩
   rcases putP_mem hx with rfl | hx
   ·exact hb
   ·exact h1 x hx
  ·split
   ·rename_i hb he
    refine List.pairwise_cons.2 ⟨fun x hx => ?_, h2⟩
    show bless n x.1 = true
    rw [<- he]; exact h1 x hx
   ·rename_i hb he
    have hnp : bless n p.1 = true := by
     cases e : bless n p.1 with
     | true => rfl
     | false => exact absurd (bless_total (by simpa using hb) e) he
    refine List.pairwise_cons.2 ⟨fun x hx => ?_, h⟩
    rcases List.mem_cons.1 hx with rfl | hx
    ·exact hnp
    ·exact bless_trans hnp (h1 x hx)
theorem delP_asc {n : ByteArray} {ps : List Pr} (h : AscP ps) : AscP (delP n ps) := List.Pairwise.filter _ h
theorem putP_len {n v : ByteArray} : ∀ (ps : List Pr), (putP n v ps).length <= ps.length + 1
 | [] => by simp [putP]
 | p :: r => by
  have := putP_len (n := n) (v := v) r
  unfold putP
  split
  ·simp; omega
  ·split <;> simp
theorem delP_len (n : ByteArray) (ps : List Pr) : (delP n ps).length <= ps.length := List.length_filter_le _ _
theorem ofP_putP {n v s : ByteArray} : ∀ {ps : List Pr}, AscP ps -> ofP s (putP n v ps) = if s = n then some v else ofP s ps
 | [], _ => by
  unfold putP ofP ofP
  by_cases h : n = s
  ·simp [h]
  ·have : ¬ s = n := fun e => h e.symm
   simp [h, this]
 | p :: r, h => by
  obtain ⟨h1, h2⟩ := List.pairwise_cons.1 h
  have ih := ofP_putP (n := n) (v := v) (s := s) h2
  unfold putP
  split
  ·rename_i hb
   have hne : p.1 ≠ n := fun e => by rw [e, bless_irrefl] at hb; cases hb
   rw [ofP, ih]
   conv => rhs; rw [ofP]
   by_cases hs : p.1 = s
   ·have : ¬ s = n := fun e => hne (hs.trans e)
    simp [hs, this]
   ·simp [hs]
  ·split
   ·rename_i hb he
    rw [ofP]
    conv => rhs; rw [ofP]
    by_cases hs : n = s
    ·simp [hs]
    ·have h3 : ¬ s = n := fun e => hs e.symm
     have h4 : ¬ p.1 = s := fun e => hs (he.symm.trans e)
     simp [hs, h3, h4]
   ·rw [ofP]
    by_cases hs : n = s
    ·simp [hs]
    ·have h3 : ¬ s = n := fun e => hs e.symm
     simp [hs, h3]
theorem ofP_delP {n s : ByteArray} : ∀ {ps : List Pr}, ofP s (delP n ps) = if s = n then none else ofP s ps
 | [] => by unfold delP ofP; simp
 | p :: r => by
  have ih := ofP_delP (n := n) (s := s) (ps := r)
  unfold delP at ih ⊢
  by_cases hp : p.1 = n
  ·rw [List.filter_cons_of_neg (by simp [hp]), ih]
   conv => rhs; rw [ofP]
   by_cases hs : s = n
   ·simp [hs]
   ·have : ¬ p.1 = s := fun e => hs (e.symm.trans hp)
    simp [hs, this]
  ·rw [List.filter_cons_of_pos (by simp [hp]), ofP, ih]
   conv => rhs; rw [ofP]
   by_cases hs : p.1 = s
   ·have : ¬ s = n := fun e => hp (hs.trans e)
    simp [hs, this]
   ·simp [hs]
theorem At.tail {p : Pr} {r : List Pr} {n : ByteArray} {i : Nat} {b : Bool} (h : At ((p :: r).map Prod.fst) n (i + 1) b) : At (r.map Prod.fst) n i b := by
 refine ⟨?_, fun k hk hki => ?_, fun k hk hki => ?_, fun hb => ?_, fun hb k hk => ?_⟩
 ·have := h.le; simp at this ⊢; omega
 ·simpa using h.lo (k + 1) (by simp at hk ⊢; omega) (by omega)
 ·simpa using h.hi (k + 1) (by simp at hk ⊢; omega) (by omega)
 ·obtain ⟨h1, h2⟩ := h.yes hb
  exact ⟨by simp at h1 ⊢; omega, by simpa using h2⟩
 ·simpa using h.no hb (k + 1) (by simp at hk ⊢; omega)
theorem At.put_set {n v : ByteArray} : ∀ {ps : List Pr} {i : Nat}, At (ps.map Prod.fst) n i true -> putP n v ps = ps.set i (n, v)
 | [], i, h => by obtain ⟨h1, _⟩ := h.yes rfl; simp at h1
 | p :: r, 0, h => by
  obtain ⟨_, h2⟩ := h.yes rfl
  have hb := h.hi 0 (by simp) (Nat.le_refl _)
  simp only [List.map_cons, List.getElem_cons_zero] at h2 hb
  unfold putP
  rw [if_neg (by rw [hb]; exact Bool.false_ne_true), if_pos h2]; rfl
 | p :: r, i + 1, h => by
  have hb := h.lo 0 (by simp) (by omega)
  simp only [List.map_cons, List.getElem_cons_zero] at hb
  unfold putP
  rw [if_pos hb, At.put_set h.tail]; rfl
theorem At.put_ins {n v : ByteArray} : ∀ {ps : List Pr} {i : Nat}, At (ps.map Prod.fst) n i false -> putP n v ps = ps.take i ++ (n, v) :: ps.drop i
 | [], i, h => by simp [putP]
 | p :: r, 0, h => by
  have h2 := h.no rfl 0 (by simp)
  have hb := h.hi 0 (by simp) (Nat.le_refl _)
  simp only [List.map_cons, List.getElem_cons_zero] at h2 hb
  unfold putP
  rw [if_neg (by rw [hb]; exact Bool.false_ne_true), if_neg h2]; rfl
 | p :: r, i + 1, h => by
  have hb := h.lo 0 (by simp) (by omega)
  simp only [List.map_cons, List.getElem_cons_zero] at hb
  unfold putP
  rw [if_pos hb, At.put_ins h.tail]; rfl
theorem At.del_none {n : ByteArray} {ps : List Pr} {i : Nat} (h : At (ps.map Prod.fst) n i false) : delP n ps = ps := by
 refine List.filter_eq_self.2 fun q hq => ?_
 obtain ⟨k, hk, rfl⟩ := List.getElem_of_mem hq
 have := h.no rfl k (by simpa using hk)
 rw [List.getElem_map] at this
 simpa using this
theorem At.del_at {n : ByteArray} : ∀ {ps : List Pr} {i : Nat}, AscP ps -> At (ps.map Prod.fst) n i true -> delP n ps = ps.take i ++ ps.drop (i + 1)
 | [], i, _, h => by obtain ⟨h1, _⟩ := h.yes rfl; simp at h1
 | p :: r, 0, ha, h => by
  obtain ⟨_, h2⟩ := h.yes rfl
  simp only [List.map_cons, List.getElem_cons_zero] at h2
  unfold delP
  rw [List.filter_cons_of_neg (by simp [h2])]
  show r.filter _ = r
  refine List.filter_eq_self.2 fun q hq => ?_
  have h3 := (List.pairwise_cons.1 ha).1 q hq
  have : ¬ q.1 = n := fun e => by rw [e, h2, bless_irrefl] at h3; cases h3
  simpa using this
 | p :: r, i + 1, ha, h => by
  have hb := h.lo 0 (by simp) (by omega)
  simp only [List.map_cons, List.getElem_cons_zero] at hb
  have hne : p.1 ≠ n := fun e => by rw [e, bless_irrefl] at hb; cases hb
  have ih := At.del_at (List.pairwise_cons.1 ha).2 h.tail
  unfold delP at ih ⊢
  rw [List.filter_cons_of_pos (by simp [hne]), ih]; rfl
open Go.Abs
def addPs (os : List Ov) : List ByteArray := os.flatMap fun o => (o.es.filter fun x => decide (x.k = 1)).map Ed.p
theorem addPs_mem {os : List Ov} {s : ByteArray} : s ∈ addPs os ↔ ∃ o ∈ os, ∃ x ∈ o.es, x.k = 1 /\ x.p = s := by
 unfold addPs
 simp only [List.mem_flatMap, List.mem_map, List.mem_filter, decide_eq_true_iff]
 constructor
 ·rintro ⟨o, ho, x, ⟨hx, hk⟩, rfl⟩; exact ⟨o, ho, x, hx, hk, rfl⟩
 ·rintro ⟨o, ho, x, hx, hk, rfl⟩; exact ⟨o, ho, x, ⟨hx, hk⟩, rfl⟩
def ixP (ns : List Nd) (s : ByteArray) : Nat := ((List.range ns.length).find? fun i => decide (pathOf ns i = s)).getD 0
theorem ixP_spec {ns : List Nd} {s : ByteArray} (h : hasP ns s = true) : ixP ns s < ns.length /\ pathOf ns (ixP ns s) = s := by
 obtain ⟨i, hi, e⟩ := hasP_iff.1 h
 unfold ixP
 cases hf : (List.range ns.length).find? fun i => decide (pathOf ns i = s) with
 | none =>
  have := List.find?_eq_none.1 hf i (List.mem_range.2 hi)
  exact absurd (decide_eq_true e) this
 | some j =>
  have h1 := List.find?_some hf
  exact ⟨List.mem_range.1 (List.mem_of_find?_eq_some hf), of_decide_eq_true h1⟩
noncomputable def tlP (s : ByteArray) : ByteArray := Classical.epsilon fun n => ∃ q, NoSl n /\ s = q ++ (slS ++ n)
theorem tlP_join {q n : ByteArray} (hn : NoSl n) : tlP (q ++ (slS ++ n)) = n := by
 obtain ⟨m, hm, e⟩ := Classical.epsilon_spec (p := fun m => ∃ p, NoSl m /\ q ++ (slS ++ n) = p ++ (slS ++ m)) ⟨n, q, hn, rfl⟩
 exact (pth_join hn hm e).2.symm
noncomputable def newN (ns : List Nd) (s : ByteArray) : Nd := ⟨(ixP ns (parP (hdP s)) : Nat), tlP s, true, []⟩
noncomputable def addN (ns : List Nd) (s : ByteArray) : List Nd := if hasP ns s = true then ns else ns ++ [newN ns s]
structure Bt (ns : List Nd) : Prop where
 par : Par ns
 sib : Sib ns
 nsl : NSl ns
 pos : 0 < ns.length
 root : ∀ h : 0 < ns.length, ns[0].par = -1
 asc : ∀ n ∈ ns, AscP n.ps
 nms : ∀ n ∈ ns, n.nm.size <= 31
theorem Val.bt {ns : List Nd} (h : Val ns) : Bt ns where
 par := h.par
 sib := h.sib
 nsl := h.nam.nsl
 pos := h.len.1
 root := fun h0 => ((h.nam 0 h0).1 rfl).1
 asc := fun n hn => by
  obtain ⟨i, hi, rfl⟩ := List.getElem_of_mem hn
  exact (h.wk i hi).1.ascP
 nms := fun n hn => by
  obtain ⟨i, hi, rfl⟩ := List.getElem_of_mem hn
  rcases Nat.eq_zero_or_pos i with rfl | h0
  ·rw [((h.nam 0 hi).1 rfl).2]; decide
  ·exact nameOK_size ((h.nam i hi).2.1 h0).2.2
theorem Bt.inj {ns : List Nd} (h : Bt ns) {i j : Nat} (hi : i < ns.length) (hj : j < ns.length) (he : pathOf ns i = pathOf ns j) : i = j := pathOf_inj h.par h.sib h.nsl hi hj he
theorem pth_ne_sl {ns : List Nd} (h : Bt ns) {j : Nat} (h0 : 0 < j) (hj : j < ns.length) : pth ns j ≠ slS := fun he => by
 rw [pth_succ h.par h0 hj] at he
 have h1 := congrArg (fun s => s.data.toList.length) he
 simp only [app_list, slS_list, List.length_append, List.length_cons, List.length_nil] at h1
 have h2 : (nmf ns j).data.toList = [] := List.eq_nil_of_length_eq_zero (by omega)
 exact (h.nsl j h0 hj).2 (ba_ext h2)
theorem Bt.head {ns : List Nd} (h : Bt ns) {q : ByteArray} (hq : q ≠ slS) {i : Nat} (hi : i < ns.length) (he : pathOf ns i = parP q) : pth ns i = q := by
 unfold parP at he
 by_cases hq0 : q = ByteArray.empty
 ·rw [decide_eq_true hq0] at he
  rcases Nat.eq_zero_or_pos i with rfl | h0
  ·rw [hq0]; rfl
  ·rw [pathOf_pos h0] at he
   exact absurd he (pth_ne_sl h h0 hi)
 ·rw [decide_eq_false hq0] at he
  rcases Nat.eq_zero_or_pos i with rfl | h0
  ·exact absurd he.symm hq
  ·rw [pathOf_pos h0] at he
   exact he
structure AddS (ns : List Nd) (s : ByteArray) : Prop where
 bt : Bt (addN ns s)
 has : hasP (addN ns s) s = true
 old : ∀ t, hasP ns t = true -> hasP (addN ns s) t = true
 len : (addN ns s).length <= ns.length + 1
 new : hasP ns s = false -> ((newN ns s).par = (ixP ns (parP (hdP s)) : Nat)) /\ pathOf (ns ++ [newN ns s]) ns.length = s
theorem add_step {ns : List Nd} (h : Bt ns) {q n : ByteArray} (hn : nameOK n = true) (hq : q ≠ slS) (hp : hasP ns (parP q) = true) : AddS ns (q ++ (slS ++ n)) := by
 obtain ⟨hns, hne⟩ := nameOK_nosl hn
 generalize hs : q ++ (slS ++ n) = s
 have hhd : hdP s = q := by rw [<- hs]; exact hdP_join hns
 have htl : tlP s = n := by rw [<- hs]; exact tlP_join hns
 cases hh : hasP ns s with
 | true =>
  have e : addN ns s = ns := if_pos hh
  exact ⟨by rw [e]; exact h, by rw [e]; exact hh, fun t ht => by rw [e]; exact ht, by rw [e]; omega, fun h => by rw [hh] at h; cases h⟩
 | false =>
  have e : addN ns s = ns ++ [newN ns s] := if_neg (by rw [hh]; exact Bool.false_ne_true)
  obtain ⟨hi, hpi⟩ := ixP_spec hp
  have hx : (newN ns s).par = (ixP ns (parP q) : Nat) := by unfold newN; rw [hhd]
  have hxn : (newN ns s).nm = n := htl
  have hpar : Par (ns ++ [newN ns s]) := h.par.app (by rw [hx]; omega) (by rw [hx]; omega)
  have hpt : pth (ns ++ [newN ns s]) ns.length = s := by
   rw [pth_succ hpar h.pos (by simp), pf_new, nmf_new, hx, hxn, Int.toNat_natCast, pth_app h.par _ _ hi, h.head hq hi hpi, hs]
  have hpo : pathOf (ns ++ [newN ns s]) ns.length = s := by rw [pathOf_pos h.pos]; exact hpt
  have hold : ∀ t, hasP ns t = true -> hasP (ns ++ [newN ns s]) t = true := fun t ht => by
   obtain ⟨i, hi, he⟩ := hasP_iff.1 ht
   exact hasP_iff.2 ⟨i, by simp; omega, by rw [pathOf_app h.par _ hi]; exact he⟩
  have hnew : ∀ j, j < ns.length -> pathOf ns j ≠ s := fun j hj he => by rw [hasP_iff.2 ⟨j, hj, he⟩] at hh; cases hh
  have hsib : ∀ j, 0 < j -> j < ns.length -> pf (ns ++ [newN ns s]) j = pf (ns ++ [newN ns s]) ns.length -> nmf (ns ++ [newN ns s]) j = nmf (ns ++ [newN ns s]) ns.length -> False := fun j h0 hj h1 h2 => by
   refine hnew j hj ?_
   rw [pathOf_pos h0, <- pth_app h.par (newN ns s) j hj, pth_succ hpar h0 (by simp; omega), h1, h2, <- pth_succ hpar h.pos (by simp), hpt]
  refine ⟨?_, ?_, fun t ht => by rw [e]; exact hold t ht, by rw [e]; simp, fun _ => ⟨by rw [hx, hhd], hpo⟩⟩
  ·rw [e]
   refine ⟨hpar, fun i j hi0 hj0 hi' hj' h1 h2 => ?_, fun j h0 hj => ?_, by simp, fun h0 => ?_, fun m hm => ?_, fun m hm => ?_⟩
   ·rw [List.length_append, List.length_singleton] at hi' hj'
    by_cases hil : i < ns.length
    ·by_cases hjl : j < ns.length
     ·rw [pf_app hil, pf_app hjl] at h1
      rw [nmf_app hil, nmf_app hjl] at h2
      exact h.sib i j hi0 hj0 hil hjl h1 h2
     ·obtain rfl : j = ns.length := by omega
      exact (hsib i hi0 hil h1 h2).elim
    ·obtain rfl : i = ns.length := by omega
     by_cases hjl : j < ns.length
     ·exact (hsib j hj0 hjl h1.symm h2.symm).elim
     ·omega
   ·rw [List.length_append, List.length_singleton] at hj
    by_cases hjl : j < ns.length
    ·rw [nmf_app hjl]; exact h.nsl j h0 hjl
    ·obtain rfl : j = ns.length := by omega
     rw [nmf_new, hxn]
     exact ⟨hns, hne⟩
   ·rw [List.getElem_append_left h.pos]; exact h.root h.pos
   ·rcases List.mem_append.1 hm with hm | hm
    ·exact h.asc m hm
    ·rw [List.mem_singleton.1 hm]; exact .nil
   ·rcases List.mem_append.1 hm with hm | hm
    ·exact h.nms m hm
    ·rw [List.mem_singleton.1 hm, hxn]; exact nameOK_size hn
  ·rw [e]
   exact hasP_iff.2 ⟨ns.length, by simp, hpo⟩
noncomputable def addAll (ns : List Nd) (R : List ByteArray) : List Nd := R.foldl addN ns
def Grown (ns : List Nd) (R : List ByteArray) : Prop := ∀ s ∈ R, ∃ q n, s = q ++ (slS ++ n) /\ nameOK n = true /\ q ≠ slS /\ (hasP ns (parP q) = true \/ parP q ∈ R)
theorem slS_front {q : ByteArray} {n : ByteArray} : bless q (q ++ (slS ++ n)) = true := by
 rw [bless_iff, ByteArray.toList_eq, ByteArray.toList_eq]
 show q.data.toList < (q ++ (slS ++ n)).data.toList
 rw [join_list]
 generalize q.data.toList = l
 induction l with
 | nil => exact List.nil_lt_cons ..
 | cons a l ih => rw [List.cons_append, List.cons_lt_cons_iff]; exact .inr ⟨rfl, ih⟩
structure AddK (ns : List Nd) (R : List ByteArray) (k : Nat) : Prop where
 bt : Bt (addAll ns (R.take k))
 has : ∀ j (h : j < R.length), j < k -> hasP (addAll ns (R.take k)) R[j] = true
 old : ∀ t, hasP ns t = true -> hasP (addAll ns (R.take k)) t = true
 len : (addAll ns (R.take k)).length <= ns.length + k
theorem addAll_succ (ns : List Nd) (R : List ByteArray) {k : Nat} (hk : k < R.length) : addAll ns (R.take (k + 1)) = addN (addAll ns (R.take k)) R[k] := by
 unfold addAll
 rw [List.take_succ_eq_append_getElem hk, List.foldl_append]; rfl
theorem add_par {ns : List Nd} {R : List ByteArray} (ha : AscN R) {k : Nat} (hk : k < R.length) (h : AddK ns R k) {q n : ByteArray} (hs : R[k] = q ++ (slS ++ n)) (hp : hasP ns (parP q) = true \/ parP q ∈ R) : hasP (addAll ns (R.take k)) (parP q) = true := by
 rcases hp with hp | hp
 ·exact h.old _ hp
 ·by_cases hq0 : q = ByteArray.empty
  ·unfold parP
   rw [decide_eq_true hq0]
   exact hasP_iff.2 ⟨0, h.bt.pos, rfl⟩
  ·have e : parP q = q := by unfold parP; rw [decide_eq_false hq0]
   rw [e] at hp ⊢
   obtain ⟨j, hj, hjq⟩ := List.getElem_of_mem hp
   have hlt : j < k := by
    rcases Nat.lt_trichotomy j k with h1 | h1 | h1
    ·exact h1
    ·subst h1
     have h2 := slS_front (q := q) (n := n)
     rw [<- hs, hjq, bless_irrefl] at h2; cases h2
    ·have h2 := ha k j h1 hj
     have h3 := slS_front (q := q) (n := n)
     rw [<- hs, <- hjq, bless_asymm h2] at h3; cases h3
   rw [<- hjq]
   exact h.has j hj hlt
theorem add_at {ns : List Nd} {R : List ByteArray} (hg : Grown ns R) (ha : AscN R) {k : Nat} (hk : k < R.length) (h : AddK ns R k) : AddS (addAll ns (R.take k)) R[k] := by
 obtain ⟨q, n, hs, hn, hq, hp⟩ := hg _ (List.getElem_mem hk)
 have := add_par ha hk h hs hp
 rw [hs]
 exact add_step h.bt hn hq this
theorem add_all {ns : List Nd} {R : List ByteArray} (hb : Bt ns) (hg : Grown ns R) (ha : AscN R) : ∀ k, k <= R.length -> AddK ns R k
 | 0, _ => ⟨hb, fun j _ h => by omega, fun t h => h, by simp [addAll]⟩
 | k + 1, hk => by
  have ih := add_all hb hg ha k (by omega)
  have hs := add_at hg ha (by omega : k < R.length) ih
  have e := addAll_succ ns R (k := k) (by omega)
  refine ⟨by rw [e]; exact hs.bt, fun j hj hjk => ?_, fun t ht => by rw [e]; exact hs.old t (ih.old t ht), by have := hs.len; have := ih.len; rw [e]; omega⟩
  rw [e]
  rcases Nat.lt_or_ge j k with h1 | h1
  ·exact hs.old _ (ih.has j hj h1)
  ·have : j = k := by omega
   subst this; exact hs.has
def edN (n : Nd) (x : Ed) : Nd := if x.k = 3 then { n with ps := delP x.n n.ps } else { n with nl := false, ps := putP x.n x.v n.ps }
def edS (ns : List Nd) (x : Ed) : List Nd := if x.k = 1 then ns else ns.set (ixP ns x.p) (edN ((ns[ixP ns x.p]?).getD default) x)
def edL (ns : List Nd) (l : List Ed) : List Nd := l.foldl edS ns
theorem edN_par (n : Nd) (x : Ed) : (edN n x).par = n.par := by unfold edN; split <;> rfl
theorem edN_nm (n : Nd) (x : Ed) : (edN n x).nm = n.nm := by unfold edN; split <;> rfl
theorem edS_same (ns : List Nd) (x : Ed) : SameT ns (edS ns x) := by
 unfold edS
 split
 ·exact SameT.refl _
 ·exact SameT.set (edN_par _ _) (edN_nm _ _)
theorem SameT.ixP {ns ms : List Nd} (h : SameT ns ms) (s : ByteArray) : ixP ms s = ixP ns s := by
 unfold Proofs.YtnhifaofkndclaaGreatDoor.ixP
 rw [h.1]
 have : (fun i => decide (Proofs.YtnhifaofkndclaaGreatDoor.pathOf ms i = s)) = fun i => decide (Proofs.YtnhifaofkndclaaGreatDoor.pathOf ns i = s) := by funext i; rw [h.pathOf]
 rw [this]
theorem SameT.hasP {ns ms : List Nd} (h : SameT ns ms) (s : ByteArray) : hasP ms s = hasP ns s := by
 unfold Proofs.YtnhifaofkndclaaGreatDoor.hasP
 rw [h.1]
 have : (fun i => decide (Proofs.YtnhifaofkndclaaGreatDoor.pathOf ms i = s)) = fun i => decide (Proofs.YtnhifaofkndclaaGreatDoor.pathOf ns i = s) := by funext i; rw [h.pathOf]
 rw [this]
theorem SameT.bt {ns ms : List Nd} (h : SameT ns ms) (hb : Bt ns) (ha : ∀ n ∈ ms, AscP n.ps) : Bt ms where
 par := h.par hb.par
 sib := h.sib hb.sib
 nsl := fun j h0 hj => by rw [h.nmf]; exact hb.nsl j h0 (by rw [<- h.1]; exact hj)
 pos := by rw [h.1]; exact hb.pos
 root := fun h0 => by
  have := (h.2 0).1
  rw [List.getElem?_eq_getElem h0, List.getElem?_eq_getElem hb.pos] at this
  exact this.trans (hb.root hb.pos)
 asc := ha
 nms := fun n hn => by
  obtain ⟨i, hi, rfl⟩ := List.getElem_of_mem hn
  have hi2 : i < ns.length := by rw [<- h.1]; exact hi
  have := (h.2 i).2
  rw [List.getElem?_eq_getElem hi, List.getElem?_eq_getElem hi2] at this
  rw [show ms[i].nm = ns[i].nm from this]
  exact hb.nms _ (List.getElem_mem hi2)
theorem edN_asc {n : Nd} (h : AscP n.ps) (x : Ed) : AscP (edN n x).ps := by
 unfold edN
 split
 ·exact delP_asc h
 ·exact putP_asc h
theorem edS_bt {ns : List Nd} (hb : Bt ns) (x : Ed) : Bt (edS ns x) := by
 refine (edS_same ns x).bt hb fun n hn => ?_
 unfold edS at hn
 split at hn
 ·exact hb.asc n hn
 ·rcases List.mem_or_eq_of_mem_set hn with h | rfl
  ·exact hb.asc n h
  ·refine edN_asc ?_ x
   cases e : ns[ixP ns x.p]? with
   | none => exact .nil
   | some m => exact hb.asc m (List.mem_of_getElem? e)
theorem edL_same : ∀ (l : List Ed) (ns : List Nd), SameT ns (edL ns l)
 | [], ns => SameT.refl ns
 | x :: l, ns => (edS_same ns x).trans (edL_same l (edS ns x))
theorem edL_bt : ∀ (l : List Ed) {ns : List Nd}, Bt ns -> Bt (edL ns l)
 | [], _, h => h
 | x :: l, _, h => edL_bt l (edS_bt h x)
theorem edL_app (ns : List Nd) (a b : List Ed) : edL ns (a ++ b) = edL (edL ns a) b := List.foldl_append ..
def Says (ns : List Nd) (x : Ed) : Prop := x.k = 1 \/ ofP x.n ((ns[ixP ns x.p]?).getD default).ps = if x.k = 3 then none else some x.v
theorem edN_of {n : Nd} (h : AscP n.ps) (x : Ed) (s : ByteArray) : ofP s (edN n x).ps = if s = x.n then (if x.k = 3 then none else some x.v) else ofP s n.ps := by
 unfold edN
 split
 ·rw [ofP_delP]
 ·rw [ofP_putP h]
theorem asc_at {ns : List Nd} (hb : Bt ns) (i : Nat) : AscP ((ns[i]?).getD default).ps := by
 cases e : ns[i]? with
 | none => exact .nil
 | some m => exact hb.asc m (List.mem_of_getElem? e)
theorem says_new {ns : List Nd} (hb : Bt ns) {x : Ed} (hp : hasP ns x.p = true) : Says (edS ns x) x := by
 by_cases hk : x.k = 1
 ·exact .inl hk
 ·refine .inr ?_
  rw [(edS_same ns x).ixP]
  unfold edS
  rw [if_neg hk, List.getElem?_set_self (ixP_spec hp).1]
  show ofP x.n (edN _ x).ps = _
  rw [edN_of (asc_at hb _), if_pos rfl]
theorem says_old {ns : List Nd} (hb : Bt ns) {x y : Ed} (hpx : hasP ns x.p = true) (hpy : hasP ns y.p = true) (h : Says ns x) (hxy : x.k ≠ 1 -> y.k ≠ 1 -> x.p = y.p -> x.n = y.n -> x = y) : Says (edS ns y) x := by
 rcases h with h | h
 ·exact .inl h
 by_cases hkx : x.k = 1
 ·exact .inl hkx
 refine .inr ?_
 rw [(edS_same ns y).ixP]
 unfold edS
 split
 ·exact h
 ·rename_i hky
  rw [List.getElem?_set]
  by_cases hi : ixP ns y.p = ixP ns x.p
  ·have hpp : x.p = y.p := by rw [<- (ixP_spec hpx).2, <- (ixP_spec hpy).2, hi]
   rw [if_pos hi, if_pos (ixP_spec hpy).1]
   show ofP x.n (edN _ y).ps = _
   rw [edN_of (asc_at hb _), hi]
   by_cases hn : x.n = y.n
   ·obtain rfl := hxy hkx hky hpp hn
    rw [if_pos rfl]
   ·rw [if_neg hn]; exact h
  ·rw [if_neg hi]; exact h
theorem says_all {ns : List Nd} {E : List Ed} (hu : ∀ x ∈ E, ∀ y ∈ E, x.k ≠ 1 -> y.k ≠ 1 -> x.p = y.p -> x.n = y.n -> x = y) : ∀ (l : List Ed), (∀ x ∈ l, x ∈ E) -> (∀ x ∈ l, hasP ns x.p = true) -> Bt ns -> ∀ (d : List Ed), (∀ x ∈ d, x ∈ E /\ hasP ns x.p = true /\ Says ns x) -> ∀ x, x ∈ d ++ l -> Says (edL ns l) x := by
 intro l
 induction l generalizing ns with
 | nil => intro _ _ _ d hd x hx; exact (hd x (by simpa using hx)).2.2
 | cons y l ih =>
  intro hl hp hb d hd x hx
  have hs := edS_same ns y
  refine ih (ns := edS ns y) (fun x hx => hl x (List.mem_cons_of_mem _ hx)) (fun x hx => by rw [hs.hasP]; exact hp x (List.mem_cons_of_mem _ hx)) (edS_bt hb y) (d ++ [y]) (fun z hz => ?_) x (by simpa using hx)
  rw [hs.hasP]
  rcases List.mem_append.1 hz with hz | hz
  ·obtain ⟨h1, h2, h3⟩ := hd z hz
   exact ⟨h1, h2, says_old hb h2 (hp y (List.mem_cons_self ..)) h3 (hu z h1 y (hl y (List.mem_cons_self ..)))⟩
  ·rw [List.mem_singleton.1 hz]
   exact ⟨hl y (List.mem_cons_self ..), hp y (List.mem_cons_self ..), says_new hb (hp y (List.mem_cons_self ..))⟩
open Go.Abs
def allE (os : List Ov) : List Ed := os.flatMap Ov.es
theorem allE_mem {os : List Ov} {x : Ed} : x ∈ allE os ↔ ∃ o ∈ os, x ∈ o.es := List.mem_flatMap
noncomputable def preB (ns : List Nd) (R : List ByteArray) (os : List Ov) : List Nd := edL (addAll ns R) (allE os)
noncomputable def bldR (ns : List Nd) (R : List ByteArray) (os : List Ov) : List Nd := srt (preB ns R os)
structure IsAdd (os : List Ov) (R : List ByteArray) : Prop where
 asc : AscN R
 mem : ∀ s, s ∈ R ↔ s ∈ addPs os
structure Fits (ns : List Nd) (R : List ByteArray) (os : List Ov) : Prop where
 form : FormOK ns os
 add : IsAdd os R
 nocl : NoCl os
 noms : NoMs ns R os
section
variable {ns : List Nd} {R : List ByteArray} {os : List Ov}
theorem NoMs.need (h : NoMs ns R os) {x : Ed} (hx : x ∈ allE os) : hasP ns (needE x) = true \/ needE x ∈ R := by
 obtain ⟨o, ho, hx⟩ := allE_mem.1 hx
 obtain ⟨i, hi, rfl⟩ := List.getElem_of_mem ho
 have h1 := h i hi
 unfold msF at h1
 have := List.find?_eq_none.1 h1 x hx
 cases h2 : hasP ns (needE x) with
 | true => exact .inl rfl
 | false =>
  rw [h2] at this
  refine .inr (memB_iff.1 ?_)
  simpa using this
theorem FormOK.valid (h : FormOK ns os) {x : Ed} (hx : x ∈ allE os) : validE x = true := by
 obtain ⟨o, ho, hx⟩ := allE_mem.1 hx
 exact (h.ov o ho).ed x hx
theorem need_join {q n : ByteArray} {x : Ed} (hk : x.k = 1) (hn : nameOK n = true) (e : x.p = q ++ (slS ++ n)) : needE x = parP q := by
 unfold needE
 rw [if_pos hk, e, hdP_join (nameOK_nosl hn).1]
theorem Fits.grown (h : Fits ns R os) : Grown ns R := fun s hs => by
 obtain ⟨o, ho, x, hx, hk, rfl⟩ := addPs_mem.1 ((h.add.mem s).1 hs)
 have hxE : x ∈ allE os := allE_mem.2 ⟨o, ho, hx⟩
 have hv := validE_path (h.form.valid hxE)
 rcases pathOK_join hv.1 with e | ⟨q, n, e, hn, hq⟩
 ·exact absurd e (hv.2 hk)
 ·refine ⟨q, n, e, hn, hq, ?_⟩
  rw [<- need_join hk hn e]
  exact h.noms.need hxE
theorem Fits.addK (h : Fits ns R os) (k : Nat) (hk : k <= R.length) : AddK ns R k := add_all h.form.val.bt h.grown h.add.asc k hk
theorem Fits.addA (h : Fits ns R os) : AddK ns R R.length := h.addK _ (Nat.le_refl _)
theorem addAll_full (ns : List Nd) (R : List ByteArray) : addAll ns (R.take R.length) = addAll ns R := by rw [List.take_length]
theorem Fits.bt (h : Fits ns R os) : Bt (addAll ns R) := by have := h.addA.bt; rwa [addAll_full] at this
theorem Fits.has (h : Fits ns R os) {x : Ed} (hx : x ∈ allE os) : hasP (addAll ns R) x.p = true := by
 have hA := h.addA
 have h1 : ∀ s ∈ R, hasP (addAll ns R) s = true := fun s hs => by
  obtain ⟨j, hj, rfl⟩ := List.getElem_of_mem hs
  have := hA.has j hj hj
  rwa [addAll_full] at this
 have h2 : ∀ t, hasP ns t = true -> hasP (addAll ns R) t = true := fun t ht => by have := hA.old t ht; rwa [addAll_full] at this
 by_cases hk : x.k = 1
 ·obtain ⟨o, ho, hx⟩ := allE_mem.1 hx
  exact h1 _ ((h.add.mem _).2 (addPs_mem.2 ⟨o, ho, x, hx, hk, rfl⟩))
 ·have e : needE x = x.p := if_neg hk
  rcases h.noms.need hx with h3 | h3
  ·rw [e] at h3; exact h2 _ h3
  ·rw [e] at h3; exact h1 _ h3
theorem propOK_emp : propOK ByteArray.empty = false := by decide
theorem valid_prop {x : Ed} (h : validE x = true) (hk : x.k ≠ 1) : propOK x.n = true /\ (x.k = 2 \/ x.k = 3) := by
 unfold validE at h
 rw [Bool.and_eq_true, if_neg hk] at h
 have h2 := h.2
 split at h2
 ·rename_i h3
  exact ⟨h2, h3.imp id fun h => h.1⟩
 ·cases h2
theorem clF_none {es fs : List Ed} (h : clF es fs = none) {x y : Ed} (hx : x ∈ es) (hy : y ∈ fs) (h1 : x.p = y.p) (h2 : x.n = y.n) (h3 : x.n ≠ ByteArray.empty) : x = y := by
 have h4 := List.find?_eq_none.1 h x hx
 refine Classical.byContradiction fun hne => h4 ?_
 refine List.any_eq_true.2 ⟨y, hy, ?_⟩
 unfold clashE
 rw [decide_eq_true (cmpE_zero.2 ⟨h1, h2⟩), decide_eq_false h3, neE_iff.2 hne]
 rfl
theorem Fits.uniq (h : Fits ns R os) {x y : Ed} (hx : x ∈ allE os) (hy : y ∈ allE os) (hkx : x.k ≠ 1) (h1 : x.p = y.p) (h2 : x.n = y.n) : x = y := by
 have hne : x.n ≠ ByteArray.empty := fun e => by
  have := (valid_prop (h.form.valid hx) hkx).1
  rw [e, propOK_emp] at this; cases this
 obtain ⟨o, ho, hxo⟩ := allE_mem.1 hx
 obtain ⟨o', ho', hyo⟩ := allE_mem.1 hy
 obtain ⟨i, hi, rfl⟩ := List.getElem_of_mem ho
 obtain ⟨j, hj, rfl⟩ := List.getElem_of_mem ho'
 rcases Nat.lt_trichotomy i j with h3 | h3 | h3
 ·exact clF_none (h.nocl i j h3 hj) hxo hyo h1 h2 hne
 ·subst h3
  exact (h.form.ov _ ho).asc.uniq hxo hyo h1 h2
 ·exact (clF_none (h.nocl j i h3 hi) hyo hxo h1.symm h2.symm (by rw [<- h2]; exact hne)).symm
theorem Fits.pre_bt (h : Fits ns R os) : Bt (preB ns R os) := edL_bt _ h.bt
theorem Fits.says (h : Fits ns R os) {x : Ed} (hx : x ∈ allE os) : Says (preB ns R os) x :=
 says_all (E := allE os) (fun a ha b hb hka _ h1 h2 => h.uniq ha hb hka h1 h2) (allE os) (fun _ h => h) (fun a ha => h.has ha) h.bt [] (fun _ h => by cases h) x (by simpa using hx)
theorem bt_srt_at (hb : Bt ns) (hq : Par (srt ns)) {i : Nat} (hi : i < ns.length) : ∃ j, ∃ h : j < (srt ns).length, pathOf (srt ns) j = pathOf ns i /\ (srt ns)[j].ps = ((ns[i]?).getD default).ps := by
 have h1 := srt_at hb.par hb.pos hi
 obtain ⟨h2, h3⟩ := List.getElem?_eq_some_iff.1 h1
 exact ⟨posO ns i, h2, srt_pathOf hb.par hb.pos hq hi, by rw [h3]; rfl⟩
theorem Fits.kept (h : Fits ns R os) (hq : Par (bldR ns R os)) {x : Ed} (hx : x ∈ allE os) : ∃ j, ∃ hj : j < (bldR ns R os).length, pathOf (bldR ns R os) j = x.p /\ (x.k = 1 \/ ofP x.n (bldR ns R os)[j].ps = if x.k = 3 then none else some x.v) := by
 have hh : hasP (preB ns R os) x.p = true := by unfold preB; rw [(edL_same _ _).hasP]; exact h.has hx
 obtain ⟨hi, hpi⟩ := ixP_spec hh
 obtain ⟨j, hj, h1, h2⟩ := bt_srt_at h.pre_bt hq hi
 refine ⟨j, hj, h1.trans hpi, ?_⟩
 rcases h.says hx with h3 | h3
 ·exact .inl h3
 ·refine .inr ?_
  rw [<- h3]
  exact congrArg (ofP x.n) h2
theorem edN_size {n : Nd} {x : Ed} (h : ∀ p ∈ n.ps, p.1.size <= 1000000) (hx : x.n.size <= 1000000) : ∀ p ∈ (edN n x).ps, p.1.size <= 1000000 := fun p hp => by
 unfold edN at hp
 split at hp
 ·exact h p (List.mem_filter.1 hp).1
 ·rcases putP_mem hp with rfl | hp
  ·exact hx
  ·exact h p hp
theorem edN_len (n : Nd) (x : Ed) : (edN n x).ps.length <= n.ps.length + 1 := by
 unfold edN
 split
 ·have := delP_len x.n n.ps
  show (delP x.n n.ps).length <= _
  omega
 ·exact putP_len n.ps
theorem dflt_ps : (default : Nd).ps = [] := rfl
theorem edS_mem {x : Ed} {m : Nd} (h : m ∈ edS ns x) : m ∈ ns \/ ∃ n, (n ∈ ns \/ n = default) /\ m = edN n x := by
 unfold edS at h
 split at h
 ·exact .inl h
 ·rcases List.mem_or_eq_of_mem_set h with h | rfl
  ·exact .inl h
  ·refine .inr ⟨_, ?_, rfl⟩
   cases e : ns[ixP ns x.p]? with
   | none => exact .inr rfl
   | some m => exact .inl (List.mem_of_getElem? e)
theorem edS_sm {x : Ed} (h : Sm ns) (hx : x.n.size <= 1000000) : Sm (edS ns x) := fun m hm => by
 rcases edS_mem hm with h1 | ⟨n, h1 | rfl, rfl⟩
 ·exact h m h1
 ·exact edN_size (h n h1) hx
 ·exact edN_size (by rw [dflt_ps]; simp) hx
def FewK (ns : List Nd) (a b : Nat) : Prop := ns.length <= a /\ ∀ n ∈ ns, n.ps.length <= b
theorem edS_few {x : Ed} {a b : Nat} (h : FewK ns a b) : FewK (edS ns x) a (b + 1) := by
 refine ⟨by rw [(edS_same ns x).1]; exact h.1, fun m hm => ?_⟩
 rcases edS_mem hm with h1 | ⟨n, h1 | rfl, rfl⟩
 ·have := h.2 m h1; omega
 ·have := h.2 n h1; have := edN_len n x; omega
 ·have := edN_len default x; rw [dflt_ps] at this; simp at this; omega
end
theorem edL_sm : ∀ (l : List Ed) {ns : List Nd}, Sm ns -> (∀ x ∈ l, x.n.size <= 1000000) -> Sm (edL ns l)
 | [], _, h, _ => h
 | x :: l, _, h, hl => edL_sm l (edS_sm h (hl x (List.mem_cons_self ..))) fun y hy => hl y (List.mem_cons_of_mem _ hy)
theorem edL_few : ∀ (l : List Ed) {ns : List Nd} {a b : Nat}, FewK ns a b -> FewK (edL ns l) a (b + l.length)
 | [], _, _, _, h => h
 | x :: l, _, a, b, h => by
  have := edL_few l (edS_few (x := x) h)
  rw [List.length_cons, show b + (l.length + 1) = b + 1 + l.length by omega]
  exact this
theorem allE_len : ∀ (os : List Ov), (∀ o ∈ os, o.es.length <= 40) -> (allE os).length <= 40 * os.length
 | [], _ => by simp [allE]
 | o :: os, h => by
  have h1 := allE_len os fun o h' => h o (List.mem_cons_of_mem _ h')
  have h2 := h o (List.mem_cons_self ..)
  show (o.es ++ allE os).length <= _
  rw [List.length_append, List.length_cons]
  omega
theorem addPs_len : ∀ (os : List Ov), (addPs os).length <= (allE os).length
 | [] => by simp [addPs]
 | o :: os => by
  have h1 := addPs_len os
  show (((o.es.filter _).map Ed.p) ++ addPs os).length <= (o.es ++ allE os).length
  have := List.length_filter_le (fun x => decide (x.k = 1)) o.es
  rw [List.length_append, List.length_append, List.length_map]
  omega
theorem nodup_le {α : Type} [DecidableEq α] : ∀ {a b : List α}, a.Nodup -> (∀ x ∈ a, x ∈ b) -> a.length <= b.length
 | [], _, _, _ => Nat.zero_le _
 | x :: r, b, h, hs => by
  obtain ⟨h1, h2⟩ := List.nodup_cons.1 h
  have hx := hs x (List.mem_cons_self ..)
  have := nodup_le (b := b.erase x) h2 fun y hy => (List.mem_erase_of_ne (fun e : y = x => h1 (by rw [<- e]; exact hy))).2 (hs y (List.mem_cons_of_mem _ hy))
  rw [List.length_erase_of_mem hx] at this
  have := List.length_pos_of_mem hx
  rw [List.length_cons]; omega
section
variable {ns : List Nd} {R : List ByteArray} {os : List Ov}
theorem AscN.nodup (h : AscN R) : R.Nodup := by
 refine List.pairwise_iff_getElem.2 fun i j hi hj hij he => ?_
 have := h i j hij hj
 rw [he, bless_irrefl] at this; cases this
theorem IsAdd.len (h : IsAdd os R) (hl : ∀ o ∈ os, o.es.length <= 40) (h8 : os.length <= 8) : R.length <= 320 := by
 have h1 := nodup_le h.asc.nodup fun s hs => (h.mem s).1 hs
 have h2 := addPs_len os
 have h3 := allE_len os hl
 omega
theorem addN_mem {s : ByteArray} {m : Nd} (h : m ∈ addN ns s) : m ∈ ns \/ m.ps = [] := by
 unfold addN at h
 split at h
 ·exact .inl h
 ·rcases List.mem_append.1 h with h | h
  ·exact .inl h
  ·rw [List.mem_singleton.1 h]; exact .inr rfl
theorem addAll_mem : ∀ (R : List ByteArray) {ns : List Nd} {m : Nd}, m ∈ addAll ns R -> m ∈ ns \/ m.ps = []
 | [], _, _, h => .inl h
 | s :: R, _, _, h => by
  rcases addAll_mem R h with h | h
  ·exact addN_mem h
  ·exact .inr h
theorem Fits.few (h : Fits ns R os) : FewK (preB ns R os) 440 344 := by
 have hl : ∀ o ∈ os, o.es.length <= 40 := fun o ho => (h.form.ov o ho).len
 have hR := h.add.len hl h.form.len
 have hE := allE_len os hl
 have h8 := h.form.len
 have hA := h.addA.len
 rw [addAll_full] at hA
 have hv := h.form.val.lim
 have h1 : FewK (addAll ns R) 440 24 := ⟨by have := hv.2.1; omega, fun m hm => by
  rcases addAll_mem R hm with h2 | h2
  ·exact (hv.2.2 m h2).1
  ·rw [h2]; simp⟩
 have h2 := edL_few (allE os) h1
 exact ⟨h2.1, fun m hm => by have := h2.2 m hm; omega⟩
theorem Fits.sm (h : Fits ns R os) : Sm (preB ns R os) := by
 refine edL_sm _ (fun m hm p hp => ?_) fun x hx => ?_
 ·rcases addAll_mem R hm with h2 | h2
  ·exact h.form.val.sm m h2 p hp
  ·rw [h2] at hp; cases hp
 ·have hv := h.form.valid hx
  by_cases hk : x.k = 1
  ·unfold validE at hv
   rw [Bool.and_eq_true, if_pos hk, Bool.and_eq_true, Bool.and_eq_true] at hv
   have h3 := of_decide_eq_true (Bool.and_eq_true _ _ ▸ hv.2.1 : decide (x.n = ByteArray.empty) = true /\ _).1
   rw [h3]
   decide
  ·have := propOK_size (valid_prop hv hk).1
   omega
theorem srt_mem (hb : Bt ns) {m : Nd} (h : m ∈ srt ns) : ∃ n ∈ ns, m.ps = n.ps := by
 unfold srt at h
 obtain ⟨i, hi, rfl⟩ := List.mem_map.1 h
 have := (ord_mem hb.par hb.pos).1 hi
 refine ⟨ns[i], List.getElem_mem _, ?_⟩
 unfold srtN
 rw [List.getElem?_eq_getElem this]
 rfl
theorem Fits.bld_few (h : Fits ns R os) : Few (bldR ns R os) := by
 have hf := h.few
 have hb := h.pre_bt
 refine ⟨by unfold bldR; rw [srt_length hb.par hb.pos]; have := hf.1; omega, fun m hm => ?_⟩
 obtain ⟨n, hn, e⟩ := srt_mem hb hm
 rw [e]; have := hf.2 n hn; omega
theorem Fits.bld_sm (h : Fits ns R os) : Sm (bldR ns R os) := fun m hm p hp => by
 obtain ⟨n, hn, e⟩ := srt_mem h.pre_bt hm
 rw [e] at hp
 exact h.sm n hn p hp
end
open Go.Abs Go.RowKit
set_option maxRecDepth 100000
section
variable {P : Program} {H : AH} {m : Nat -> Value} {S : Nat -> Prop} {w w' : World}
theorem stp_reown (hp : Hp P H m S w) {id : Nat} {e : TypeId} {nl nl' : Bool} {xs zs : List PV} (hl : live H id (.buf e nl xs)) (hlen : xs.length <= zs.length) (hok : Keeps S w w' -> OKb P S w' (m id) e nl' zs) (hg : w.grownBy w' (m id).ownBlock) :
  Stp P H m S w (H.set id (some (.buf e nl' zs))) m S w' := by
 have hold : Older H (H.set id (some (.buf e nl' zs))) m m := older_set hl fun e' nl1 xs1 h => by
  injection h with h2 h3 h4
  subst h2; subst h4
  exact ⟨nl, xs, rfl, hlen⟩
 refine Stp.at_ (fun j => j = id) hp hold (fun j p hj hl' => ?_) hg.os hg.tape hg.output hg.size (fun b hlt hn => ?_) (fun j p hj hl' hk => ?_) (fun j p b hj hl' hbb => ?_) (fun i j _ _ _ hi hj _ _ _ _ => hi.trans hj.symm)
 ·rcases live_set hl' with ⟨h, _⟩ | ⟨_, h⟩
  ·exact absurd h hj
  ·exact ⟨h, rfl⟩
 ·exact hg.block b hlt fun he => hn id _ rfl hl (.inl he.symm)
 ·subst hj
  rcases live_set hl' with ⟨_, h⟩ | ⟨h, _⟩
  ·injection h with h; subst h; exact hok hk
  ·exact absurd rfl h
 ·subst hj
  rcases live_set hl' with ⟨_, h⟩ | ⟨h, _⟩
  ·injection h with h; subst h
   have hb2 : (m j).ownBlock = some b := (own_iff (w := w') (o := .buf e nl' zs) rfl).1 hbb
   exact .inl ⟨_, _, rfl, hl, .inl hb2⟩
  ·exact absurd rfl h
theorem stp_renew (hp : Hp P H m S w) {e : TypeId} {ob : Option Nat} {v v' : Value} {nl nl' : Bool} {xs zs : List PV} (hb : Base H m e ob v nl xs) (hok : Keeps S w w' -> OKb P S w' v' e nl' zs) (hg : w.grownBy w' v.ownBlock) (hat : ∀ b, v'.ownBlock = some b -> v.ownBlock = some b \/ w.heap.size <= b) :
  Stp P H m S w (kill H ob ++ [some (.buf e nl' zs)]) (upd m H.length v') S w' /\ Rd P (kill H ob ++ [some (.buf e nl' zs)]) (upd m H.length v') S w' (.buf H.length) v' := by
 have hlenk := kill_length H ob
 have hliveN : ∀ {p : AO}, live (kill H ob ++ [some (.buf e nl' zs)]) H.length p -> p = .buf e nl' zs := by
  intro p hl
  rw [<- hlenk] at hl
  rcases live_push hl with ⟨_, h⟩ | ⟨h, _⟩
  ·exact h
  ·omega
 have hupd : upd m H.length v' H.length = v' := if_pos rfl
 have hold : Older H (kill H ob ++ [some (.buf e nl' zs)]) m (upd m H.length v') := by
  refine ⟨by simp [hlenk], fun j hj p hl => ?_⟩
  rcases live_push hl with ⟨h, _⟩ | ⟨_, hl'⟩
  ·omega
  ·exact ⟨if_neg (by omega), p, (live_kill hl').2, fun e nl xs he => ⟨nl, xs, he, Nat.le_refl _⟩, fun _ _ l he => ⟨l, he⟩, fun _ h => h⟩
 have hblkv : ∀ b, v.ownBlock = some b -> ∃ id, ob = some id /\ live H id (.buf e nl xs) /\ Abs.Own w (m id) (.buf e nl xs) b := by
  intro b hbv
  rcases hb with ⟨_, rfl, _⟩ | ⟨id, h1, h2, rfl⟩
  ·cases hbv
  ·exact ⟨id, h1, h2, .inl hbv⟩
 have hS : Stp P H m S w (kill H ob ++ [some (.buf e nl' zs)]) (upd m H.length v') S w' := by
  refine Stp.at_ (fun j => j = H.length \/ ob = some j) hp hold (fun j p hj hl => ?_) hg.os hg.tape hg.output hg.size (fun b hlt hn => ?_) (fun j p hj hl hk => ?_) (fun j p b hj hl hbb => ?_) (fun i j oi oj b hi' hj' hli hlj _ _ => ?_)
  ·rcases live_push hl with ⟨h, _⟩ | ⟨hlt, hl'⟩
   ·rw [hlenk] at h; exact absurd (.inl h) hj
   ·rw [hlenk] at hlt
    exact ⟨(live_kill hl').2, if_neg (by omega)⟩
  ·refine hg.block b hlt fun he => ?_
   obtain ⟨id, h1, h2, h3⟩ := hblkv b he.symm
   exact hn id _ (.inr h1) h2 h3
  ·rcases live_push hl with ⟨h, hpe⟩ | ⟨hlt, hl'⟩
   ·rw [hlenk] at h
    subst h
    have := hliveN hl
    subst this
    rw [hupd]
    exact hok hk
   ·rw [hlenk] at hlt
    rcases hj with rfl | hj
    ·omega
    ·exact absurd hj (live_kill hl').1
  ·rcases live_push hl with ⟨h, hpe⟩ | ⟨hlt, hl'⟩
   ·rw [hlenk] at h
    subst h
    subst hpe
    rw [hupd] at hbb
    replace hbb := (own_iff rfl).1 hbb
    rcases hat b hbb with h | h
    ·obtain ⟨id, h1, h2, h3⟩ := hblkv b h
     exact .inl ⟨id, _, .inr h1, h2, h3⟩
    ·exact .inr h
   ·rw [hlenk] at hlt
    rcases hj with rfl | hj
    ·omega
    ·exact absurd hj (live_kill hl').1
  ·have key : ∀ {j p}, (j = H.length \/ ob = some j) -> live (kill H ob ++ [some (.buf e nl' zs)]) j p -> j = H.length := by
    intro j p hj hl
    rcases live_push hl with ⟨h, _⟩ | ⟨hlt, hl'⟩
    ·rw [hlenk] at h; exact h
    ·rcases hj with h | h
     ·exact h
     ·exact absurd h (live_kill hl').1
   exact (key hi' hli).trans (key hj' hlj).symm
 refine ⟨hS, ?_⟩
 have hN : live (kill H ob ++ [some (.buf e nl' zs)]) H.length (.buf e nl' zs) := by unfold live; rw [<- hlenk]; simp
 have h1 := hS.hp.obj _ _ hN
 rw [hupd] at h1
 obtain ⟨i, us, _, _, ho, _⟩ := h1
 have hform : ∃ a l c, v' = .slice a l c := by
  rcases ho.2 with ⟨h, _⟩ | ⟨g, cap, cur, h, _⟩
  ·exact ⟨_, _, _, h⟩
  ·exact ⟨_, _, _, h⟩
 obtain ⟨a, l, c, rfl⟩ := hform
 exact .buf _ _ _ _ (by simp [hlenk]) fun o hl => hupd
theorem flat_v {α : Type} (f : α -> Value) : ∀ xs : List α, flat (xs.map fun a => PV.v (f a)) = xs.map fun a => PV.v (f a)
 | [] => rfl
 | a :: r => by
  have := flat_v f r
  simp only [flat, List.map_cons, List.flatMap_cons] at this ⊢
  rw [this]; rfl
theorem okb_vals {α : Type} {mv : Value} {e : TypeId} {nl : Bool} {i : TypeInfo} {xs : List α} {f : α -> Value} (hi : P.info? e = some i) (h1 : i.size = 1) (h : OKb P S w mv e nl (xs.map fun a => .v (f a))) : w.ownsRow 0 e 1 mv xs.length (xs.map f) /\ (nl = true ↔ mv = .slice none 0 0) := by
 obtain ⟨i', us, hi', _, ho, hz, hr, hn⟩ := h
 rw [hi] at hi'
 injection hi' with hi'
 subst hi'
 rw [h1, List.length_map] at ho
 refine ⟨?_, hn⟩
 have e1 : us = xs.map f := by
  have hul : us.length = xs.length := by have := ho.1; omega
  refine List.ext_getElem? fun k => ?_
  by_cases hk : k < xs.length
  ·rw [List.getElem?_map, List.getElem?_eq_getElem hk]
   obtain ⟨u, hu, hru, _⟩ := hr k (.v (f xs[k])) (by rw [flat_v, List.getElem?_map, List.getElem?_eq_getElem hk]; rfl)
   rw [hu]
   cases hru
   rfl
  ·rw [List.getElem?_eq_none (by omega), List.getElem?_eq_none (by simp; omega)]
 rw [<- e1]; exact ho
theorem okb_of {α : Type} {mv : Value} {e : TypeId} {nl : Bool} {i : TypeInfo} {xs : List α} {f : α -> Value} (hi : P.info? e = some i) (h1 : i.size = 1) (ho : w.ownsRow 0 e 1 mv xs.length (xs.map f)) (hf : ∀ a, (f a).oneCell' = true) (hn : nl = true ↔ mv = .slice none 0 0) : OKb P S w mv e nl (xs.map fun a => .v (f a)) := by
 refine ⟨i, xs.map f, hi, by omega, by rw [h1, List.length_map]; exact ho, fun x hx => ?_, fun k c hk => ?_, hn⟩
 ·obtain ⟨a, _, rfl⟩ := List.mem_map.1 hx
  exact h1.symm
 ·rw [flat_v, List.getElem?_map] at hk
  cases e1 : xs[k]? with
  | none => rw [e1] at hk; cases hk
  | some a =>
   rw [e1] at hk
   injection hk with hk
   subst hk
   exact ⟨f a, by rw [List.getElem?_map, e1]; rfl, .v _ (hf a), hf a⟩
theorem rd_buf {id : Nat} {v : Value} {o : AO} (h : Rd P H m S w (.buf id) v) (hl : live H id o) : v = m id := by
 cases h with | buf _ a l c _ hm => exact (hm _ hl).symm
theorem one_val {vals : Array Value} (h : vals.size = 1) : vals = #[vals.getD 0 undef] := by
 apply Array.ext (by simp [h])
 intro i h1 h2
 have : i = 0 := by omega
 subst this
 simp [Array.getD, h1]
end
end Go.Proofs.YtnhifaofkndclaaGreatDoor
