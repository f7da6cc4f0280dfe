/- For TopSupplies: part 6 of 9. -/
import Derived.Test.YtaocnijlcgohnaaGreatDoorM5
import Derived.Test.YtaocnijlcgohnaaGreatDoorM4
set_option linter.unusedSimpArgs false
set_option linter.unusedVariables false
set_option linter.unnecessarySimpa false
set_option maxHeartbeats 8000000
namespace Go.Proofs.YtaocnijlcgohnaaGreatDoor
open Go.Abs
set_option maxRecDepth 100000
theorem FV.wv {ns : List Nd} (h : FV ns) : (oL (ns.map Nd.b)).length <= 5000 := by
 have := h.BG
 unfold oL
 rw [ir]
 omega
theorem t_ (nl : Bool) (ns : List Nd) (h : FV ns) : ao Tryz.prog 7 [.p (.agg [.list nl (ns.map Nd.pv)])] [] fun r H => ∃ nb, r = .tup [.buf 0, .p (pI 0)] /\ H = [some (AO.buf 5 nb ((oL (ns.map Nd.b)).map pU8))] := by
 refine aa Tryz.func7 rfl rfl au rfl ?_
 have hl := h.wv
 refine' y1d11
 refine ab.scalar (cb nl ns h) ?_
 refine' y1d11
 refine ab.loc [] [] rfl rfl ((mi nl ns h).mono ?_)
 rintro _ _ ⟨nb, rfl, rfl⟩
 generalize oL (ns.map Nd.b) = E at hl ⊢
 refine' y1d11
 (refine' ay.auto (.tup [.buf 0, .p (pI 0)]) ([some (AO.buf 5 nb (E.map pU8))]) rfl rfl rfl rfl _ _ _ <;> refine' aj)
 exact ⟨nb, rfl, rfl⟩
def dc4 : Ln := (.lazy 0 (.lazy 1 (.lazy 2 (.lazy 3 (.lazy 4 (.lazy 5 (.lazy 6 (.lazy 7 (.lazy 8 (.one 9 (.lazy 10 .done)))))))))))
def Ez : Ln := (.lazy 0 (.lazy 1 (.lazy 2 (.lazy 3 (.lazy 4 (.lazy 5 (.lazy 6 (.lazy 7 (.lazy 8 .done)))))))))
theorem Bv {P : Program} {f : FuncId} {args : List AV} {H : AH} {K : AV -> AH -> Prop} {e : TypeId} {xs : List Int} (h : ao P f (bo H [] true args) [] fun r H' => ∃ b : Bool, r = .buf 0 /\ H' = [some (AO.buf e b (xs.map pU8))])
  (hk : ∀ b, K (.buf H.length) (H ++ [some (AO.buf e b (xs.map pU8))])) : ab P f args H K :=
 ab.pure h fun r H' ⟨b, h1, h2⟩ => by
  subst h1; subst h2
  refine ⟨trivial, ?_, ?_⟩
  ·simp [oe, AO.flat]
   intro a _
   exact trivial
  ·have e0 : backρ [] H.length 0 = H.length := rfl
   simpa [db, AV.ren, dP, e0, AO.ren] using hk b
theorem yl {H : AH} {g : Nat} {e : TypeId} {nl : Bool} {ns : List Nd} {n : Nd} (h : live H g (.buf e nl ((ns ++ [n]).map Nd.pv))) : live H g (.buf e nl (ns.map Nd.pv ++ [Nd.pv n])) := by simpa using h
inductive DF
 | B (n1 : Bool) (ns : List Nd)
 | L (ns : List Nd) (par : Int) (nm : ByteArray) (n4 : Bool) (ps : List bf)
def DF.nb : DF -> List bD
 | .B _ ns => ns.map Nd.b
 | .L ns par nm _ ps => ns.map Nd.b ++ [(par, nm, ps)]
def DF.h (nb : Bool) (bs : List Int) (nz : Bool) (ss : List Int) (at_ : Nat) (n2 : Bool) (op : List Int) (n3 : Bool) (ch : List Bool) : DF -> AH
 | .B n1 ns => rB nb bs nz ss at_ n1 ns n2 op n3 ch
 | .L ns par nm n4 ps => rL nb bs nz ss at_ ns par nm n2 op n3 ch n4 ps
def DF.n : DF -> Nat
 | .B _ _ => 4
 | .L _ _ _ _ _ => 5
def DF.ok (ts : List Tok) : DF -> Prop
 | .B _ _ => isP ts = false
 | .L _ _ _ _ ps => isP ts = true /\ ps.length + ts.length <= 90
theorem ua (nl : Bool) (ns : List Nd) (h : FV ns) : ao Tryz.prog 8 [.p (.list nl ((oL (ns.map Nd.b)).map pU8))] [] fun r H => ∃ (n1 : Bool) (ms : List Nd), ms.map Nd.b = ns.map Nd.b /\ r = .tup [.agg [.buf 0], .p (pI 0), .p (pI 0)] /\ H = [some (AO.buf 64 n1 (ms.map Nd.pv))] := by
 refine aa Tryz.func8 rfl rfl au rfl ?_
 have hl := h.wv
 obtain ⟨h1, h2⟩ := h.BG
 obtain ⟨L, hL⟩ : ∃ L, L = cr (b6 0 [] (ns.map Nd.b)) := ⟨_, rfl⟩
 obtain ⟨st, hst⟩ : ∃ st, st = aR L (b6 0 [] (ns.map Nd.b)) := ⟨_, rfl⟩
 have hE : oL (ns.map Nd.b) = dk st (strs L) := by rw [hst, hL]; rfl
 rw [<- hL, <- hst] at h1
 rw [<- hL] at h2
 have hm4 : st.length % 4 = 0 := by rw [hst]; exact m8 _ _
 have hbs : ∀ b ∈ st, 0 <= b /\ b < 256 := by rw [hst]; exact jW _ _
 have hss := nf L
 rw [hE] at hl ⊢
 have hlen := ir st (strs L)
 have g0 := wx st (strs L)
 have g28 : (dk st (strs L)).drop 28 = _ := aV (aV (aV (aV (aV (aV (aV g0))))))
 have gss : (dk st (strs L)).drop (28 + st.length) = _ := aV g28
 have hEr : ∀ b ∈ dk st (strs L), 0 <= b /\ b < 256 := fun b hb => by
  unfold dk at hb
  rcases List.mem_append.1 hb with hb | hb
  ·rcases List.mem_append.1 hb with hb | hb
   ·rcases List.mem_append.1 hb with hb | hb
    ·exact dI _ b hb
    ·exact dI _ b hb
   ·exact hbs b hb
  ·exact hss b hb
 have hhead := yp nl st (strs L) hbs hss h1 h2 hm4
 generalize hX : dk st (strs L) = E at *
 have hb28 : E.take (28 + st.length) = E.take 28 ++ st := by
  rw [List.take_add, g28]
  congr 1
  exact List.take_left' rfl
 obtain ⟨bs, hbs0⟩ : ∃ bs, bs = E.take (28 + st.length) := ⟨_, rfl⟩
 obtain ⟨ts0, ht1, ht2, ht3⟩ := DI.start h (bs := bs) (H := E.take 28) (by rw [List.length_take]; omega) (by rw [hbs0, hb28, hst, hL])
 rw [<- hL] at ht3
 have hbl : bs.length = 28 + st.length := by rw [hbs0, List.length_take]; omega
 have hbr : ∀ b ∈ bs, 0 <= b /\ b < 256 := fun b hb => hEr b (by rw [hbs0] at hb; exact List.mem_of_mem_take hb)
 refine' y1d11
 refine ab.loc [] [] rfl rfl (hhead.mono ?_)
 rintro _ _ ⟨rfl, rfl⟩
 refine' ye42c
 apply ax.lin dc4 (by kernel_rfl) (by decide +kernel)
 (conv => whnf); repeat' ((first | (apply PdC.same; · with_reducible rfl) | apply PdC.chk | apply PdA.mk | (apply EqA.mk; rfl) | (apply LzA.mk; · ((conv => whnf); repeat' ((first | (apply EqA.mk; rfl) | ((apply SzA.map; (intro _; rfl))) | ((apply aX.hi; omega)) | ((apply aX.lo; omega)) | refine' zedca | fail) <;> (conv => whnf)))) | ((apply SzA.map; (intro _; rfl))) | ((apply aX.hi; omega)) | ((apply aX.lo; omega)) | refine' ze42c | (fail "DrawA.lin")) <;> (conv => whnf))
 have e1 : List.drop (Int.toNat 0) (List.take (28 + (st.length : Int)).toNat E) = bs := by
  rw [hbs0, show (28 + (st.length : Int)).toNat = 28 + st.length by omega]
  rfl
 have e2 : List.drop (28 + (st.length : Int)).toNat E = strs L := by
  rw [show (28 + (st.length : Int)).toNat = 28 + st.length by omega]
  exact gss
 rw [e1, e2]
 refine ai (fun (⟨f, at_, n2, op, n3, ch, ts⟩ : DF × Nat × Bool × List Int × Bool × List Bool × List Tok) => ⟨[(0, .p (.list nl (E.map pU8))), (2, .ptr f.n 0), (6, .ptr 0 0)], f.h nl bs nl (strs L) at_ n2 op n3 ch ++ [some (.cells [.p (.list true [])])]⟩) (fun ⟨f, at_, n2, op, n3, ch, ts⟩ => f.ok ts /\ DI bs L (ns.map Nd.b) at_ f.nb op ch ts) (fun ⟨f, at_, n2, op, n3, ch, ts⟩ => ts.length) (.B true [], 28, true, [], true, [], ts0) ?_ ?_ ?_; (refine aq.cell _ 1 3 64 _ _ _ _ _ rfl rfl rfl ?_; refine aq.cell _ 1 4 3 _ _ _ _ _ rfl rfl rfl ?_; refine aq.cell _ 1 5 4 _ _ _ _ _ rfl rfl rfl ?_; refine aq.of [1, 2, 3, 4, 0] rfl ?_ ?_ rfl rfl <;> refine' aj)
 ·exact ⟨ht2, ht3⟩
 rintro ⟨f, at_, n2, op, n3, ch, ts⟩ ⟨hf, hD⟩
 try simp only at hf hD
 cases f with
 | B n1 ms =>
  cases ts with
  | nil =>
   obtain ⟨k1, rfl, rfl, k4⟩ := hD.fin
   have k5 : FV ms := h.same k1
   refine' ye42c
   refine ab.loc [0, 1, 2, 3] [] rfl rfl ((zi nl bs nl (strs L) at_ n1 ms n2 n3 k4 hbr (by omega) k5.l1 (by have := k5.l8; omega)).mono ?_)
   rintro _ _ ⟨rfl, rfl⟩
   refine' ye42c
   refine ab.scalar (cb n1 ms k5) ?_
   refine' ye42c
   have hw := mi n1 ms k5
   have k6 : oL (ms.map Nd.b) = E := by rw [<- hE, <- k1]; rfl
   rw [k6] at hw
   refine Bv hw ?_
   intro nw
   refine' ye42c
   refine ai (fun (c : Nat) => ⟨[(0, .p (.list nl (E.map pU8))), (2, .ptr 4 0), (6, .ptr 0 0), (10, .buf 5), (68, .p (pI E.length)), (69, .p (pI c))], rB nl bs nl (strs L) (at_ + 4) n1 ms n2 [] n3 [] ++ [some (.cells [.p (.list true [])]), some (AO.buf 5 nw (E.map pU8))]⟩) (fun c => c <= E.length) (fun c => E.length - c) 0 ?_ ?_ ?_; (refine aq.auto rfl rfl rfl rfl ?_ ?_ <;> refine' aj)
   ·omega
   rintro c hc
   rcases Nat.lt_or_ge c E.length with hlt | hge
   ·(conv => whnf); repeat' ((first | (apply PdC.same; · with_reducible rfl) | apply PdC.chk | apply PdA.mk | (apply EqA.mk; rfl) | (apply LzA.mk; · ((conv => whnf); repeat' ((first | (apply EqA.mk; rfl) | refine' zedca | fail) <;> (conv => whnf)))) | refine' ze42c | (apply ax.lin Ez (by kernel_rfl) (by decide +kernel))) <;> (conv => whnf))
    (refine' ⟨c + 1, _, _, _⟩; rotate_right; (refine aq.of [0, 1, 2, 3, 4, 5] rfl ?_ ?_ rfl rfl <;> refine' aj); rotate_right; exact aw)
    omega
   ·refine' ye42c
    (refine' ay.mk _ _ _ [1] (.tup [.agg [.buf 0], .p (pI 0), .p (pI 0)]) ([some (AO.buf 64 n1 (ms.map Nd.pv))]) rfl rfl _ rfl rfl _ <;> refine' aj)
    exact ⟨n1, ms, k1, rfl, rfl⟩
  | cons t ts =>
   cases t with
   | beg s =>
    obtain ⟨hv1, hv2⟩ := hD.ok _ (List.mem_cons_self ..)
    have hX := (ey hD.byt).1
    have hXX : bs.drop at_ = aU 1 ++ ((bl s ++ aY (4 - s.size % 4)) ++ aR L (ts ++ [.fin])) := by rw [hX]; simp [Tok.bytes]
    rcases iA hD.len with ⟨rfl, rfl⟩ | ⟨o, p, c, x, rfl, rfl, hc⟩
    ·obtain ⟨k1, k2⟩ := hD.EE
     obtain rfl : ms = [] := List.map_eq_nil_iff.1 k1
     refine' ye42c
     refine ab.loc [0, 1, 2, 3] [] rfl rfl ((wV nl bs nl (strs L) at_ n1 n2 n3 s hv1 hv2 _ hXX hbr (by omega)).mono ?_)
     rintro _ _ ⟨rfl, rfl⟩
     refine' ye42c
     cases hp : isP ts with
     | false =>
      (refine' ⟨(.B false [⟨-1, s, true, []⟩], at_ + 4 + (s.size + (4 - s.size % 4)), false, [0], false, [false], ts), _, _, _⟩; rotate_right; (refine aq.of [0, 7, 5, 6, 4] rfl ?_ ?_ rfl rfl <;> refine' aj); rotate_right; exact aw)
      exact ⟨hp, k2⟩
     | true =>
      (refine' ⟨(.L [] (-1) s true [], at_ + 4 + (s.size + (4 - s.size % 4)), false, [0], false, [false], ts), _, _, _⟩; rotate_right; (refine aq.nM _ 0 3 7 _ _ [] (Nd.pv ⟨-1, s, true, []⟩) _ rfl rfl rfl (by decide) ?_; refine aq.An _ 8 2 _ 97 _ _ _ _ _ _ rfl rfl rfl ?_; refine aq.of [0, 8, 5, 6, 9, 4] rfl ?_ ?_ rfl rfl <;> refine' aj); rotate_right; exact aw)
      exact ⟨⟨hp, by have := k2.cnt; simp at this ⊢; omega⟩, k2⟩
    ·have k1 := DI.ED hc hD
     have hcnt := hD.cnt
     have hopl := hD.opl
     simp only [DF.nb, List.length_map, List.length_append, List.length_cons, List.length_nil] at hcnt hopl
     refine' ye42c
     refine ab.loc [0, 1, 2, 3] [] rfl rfl ((wU nl bs nl (strs L) at_ n1 ms n2 n3 o p c x s hv1 hv2 _ hXX hbr (by omega) (by omega) (by omega) hc).mono ?_)
     rintro _ _ ⟨rfl, rfl⟩
     have k3 : (DF.B n1 ms).nb.length = ms.length := by simp [DF.nb]
     rw [k3] at k1
     refine' ye42c
     cases hp : isP ts with
     | false =>
      (refine' ⟨(.B false (ms ++ [⟨p, s, true, []⟩]), at_ + 4 + (s.size + (4 - s.size % 4)), false, o ++ [p] ++ [(ms.length : Int)], false, c ++ [true] ++ [false], ts), _, _, _⟩; rotate_right; (refine aq.of [0, 7, 5, 6, 4] rfl ?_ ?_ rfl rfl <;> refine' aj); rotate_right; exact aw)
      refine ⟨hp, ?_⟩
      have k4 : (DF.B false (ms ++ [⟨p, s, true, []⟩])).nb = (DF.B n1 ms).nb ++ [(p, s, [])] := by simp [DF.nb]; rfl
      rw [k4]
      exact k1
     | true =>
      (refine' ⟨(.L ms p s true [], at_ + 4 + (s.size + (4 - s.size % 4)), false, o ++ [p] ++ [(ms.length : Int)], false, c ++ [true] ++ [false], ts), _, _, _⟩; rotate_right; (refine aq.nM _ 0 3 7 _ _ (ms.map Nd.pv) (Nd.pv ⟨p, s, true, []⟩) _ rfl rfl (yl rfl) (by decide) ?_; refine aq.An _ 8 2 _ 97 _ _ _ _ _ _ rfl rfl rfl ?_; refine aq.of [0, 8, 5, 6, 9, 4] rfl ?_ ?_ rfl rfl <;> refine' aj); rotate_right; exact aw)
      exact ⟨⟨hp, by have := k1.cnt; simp at this ⊢; omega⟩, k1⟩
   | prop n v => exact absurd hf (by simp [DF.ok, isP])
   | leave =>
    obtain ⟨o, p, c, x, rfl, rfl, hc, ho8, k1, k2⟩ := hD.leave
    have hX : bs.drop at_ = aU 2 ++ aR L (ts ++ [.fin]) := (ey hD.byt).1
    refine' ye42c
    refine ab.loc [0, 1, 2, 3] [] rfl rfl ((ur nl bs nl (strs L) at_ n1 ms n2 n3 o p c x _ hX hbr (by omega) ho8 hc).mono ?_)
    rintro _ _ ⟨rfl, rfl⟩
    refine' ye42c
    (refine' ⟨(.B n1 ms, at_ + 4, n2, o, n3, c, ts), _, _, _⟩; rotate_right; (refine aq.of [0, 1, 5, 6, 4] rfl ?_ ?_ rfl rfl <;> refine' aj); rotate_right; exact aw)
    exact ⟨k2, k1⟩
   | fin => exact hD.Ds.elim
 | L ms par nm n4 ps =>
  cases ts with
  | nil => exact absurd hf.1 (by simp [isP])
  | cons t ts =>
   cases t with
   | beg s => exact absurd hf.1 (by simp [isP])
   | leave => exact absurd hf.1 (by simp [isP])
   | fin => exact absurd hf.1 (by simp [isP])
   | prop n v =>
    have hf2 := hf.2
    rw [List.length_cons] at hf2
    obtain ⟨hv0, hv1, hv2, hv3⟩ := hD.ok _ (List.mem_cons_self ..)
    obtain ⟨A, B, p1, p2, p3⟩ := uE hv0
    have hX := (ey hD.byt).1
    have hXX : bs.drop at_ = aU 3 ++ (aU v.size ++ (aU A.length ++ ((bl v ++ aY ((4 - v.size % 4) % 4)) ++ aR L (ts ++ [.fin])))) := by rw [hX, p2]; simp [Tok.bytes]
    have hcnt := hD.cnt
    simp only [DF.nb, List.length_append, List.length_map, List.length_cons, List.length_nil] at hcnt
    obtain ⟨o, c, rfl, rfl, hc, ho8, k1⟩ := DI.prop (nb := ms.map Nd.b) (y := (par, nm, ps)) hD
    rw [List.length_map] at k1 hD
    rw [List.length_map]
    refine' ye42c
    refine ab.loc [0, 1, 2, 3, 4] [] rfl rfl ((wT nl bs nl (strs L) at_ ms par nm n2 n3 n4 ps o c n v A B _ p1 p3 hv1 hv2 hv3 hss (by omega) hbr (by omega) hXX (by omega) (by omega) ho8 hc).mono ?_)
    rintro _ _ ⟨rfl, rfl⟩
    refine' ye42c
    cases hp : isP ts with
    | false =>
     (refine' ⟨(.B false (ms ++ [⟨par, nm, false, ps ++ [(n, v)]⟩]), at_ + 4 + 4 + 4 + (v.size + (4 - v.size % 4) % 4), n2, o ++ [(ms.length : Int)], n3, c ++ [false], ts), _, _, _⟩; rotate_right; (refine aq.ez _ [6] [] ?_; refine aq.ly _ 0 3 1 _ (ms.map Nd.pv) _ _ (Nd.pv ⟨par, nm, false, ps ++ [(n, v)]⟩) _ rfl rfl rfl rfl rfl (by decide) ?_; refine aq.of [0, 7, 2, 3, 5] rfl ?_ ?_ rfl rfl <;> refine' aj); rotate_right; exact aw)
     ·rw [List.map_append]
      rfl
     refine ⟨hp, ?_⟩
     have k4 : (DF.B false (ms ++ [⟨par, nm, false, ps ++ [(n, v)]⟩])).nb = ms.map Nd.b ++ [(par, nm, ps ++ [(n, v)])] := by simp [DF.nb]; rfl
     rw [k4]
     exact k1
    | true =>
     (refine' ⟨(.L ms par nm false (ps ++ [(n, v)]), at_ + 4 + 4 + 4 + (v.size + (4 - v.size % 4) % 4), n2, o ++ [(ms.length : Int)], n3, c ++ [false], ts), _, _, _⟩; rotate_right; (refine aq.of [0, 1, 2, 3, 6, 5] rfl ?_ ?_ rfl rfl <;> refine' aj); rotate_right; exact aw)
     exact ⟨⟨hp, by simp; omega⟩, k1⟩
def rV (x y : ByteArray) : Int := if Op.bytesLess x.toList y.toList = true then -1 else if (x.toList == y.toList) = true then 0 else 1
theorem Bs {x y : ByteArray} (h : rV x y = 0) : x = y := by
 unfold rV at h
 split at h
 ·omega
 ·split at h
  ·rename_i he
   rw [mn] at he
   exact of_decide_eq_true he
  ·omega
theorem yabc4 {P : Prop} (h : P := by
 ((conv => whnf); repeat' ((first | apply aB.plain | refine' gC | refine' gpI | refine' gpB | refine' gpS | refine' bh | refine' bj | refine' gE | (apply ax.quiet (by kernel_rfl) (by kernel_rfl); (conv => whnf); fail_if_success (show False))) <;> (conv => whnf))) <;> (solve_by_elim (newGoals := .nonDependentOnly) -symm -exfalso (transparency := .reducible) only [rfl, aC])) : P := h
theorem oP (x : ByteArray) : ao Tryz.prog 229 [.p (pS x)] [] fun r H => r = .p (pB false) /\ H = [] := by
 refine aa Tryz.func229 rfl rfl au rfl ?_
 refine' yabc4
 refine ay.p ⟨?_, rfl⟩
 simp [pB]
theorem zabc4 {P : Prop} (h : P := by
 ((first | apply aB.plain | refine' gC | refine' gpI | refine' gpB | refine' gpS | refine' bh | refine' bj | refine' gE | (apply ax.quiet (by kernel_rfl) (by kernel_rfl); (conv => whnf); fail_if_success (show False))) <;> (conv => whnf)) <;> (solve_by_elim (newGoals := .nonDependentOnly) -symm -exfalso (transparency := .reducible) only [rfl, aC])) : P := h
theorem jh (x y : ByteArray) : ao Tryz.prog 188 [.p (pS x), .p (pS y)] [] fun r H => r = .p (pI (rV x y)) /\ H = [] := by
 refine aa Tryz.func188 rfl rfl au rfl ?_
 (conv => whnf); repeat' ((first | refine' zabc4 | (refine ab.scalar (oP x) ?_) | (refine ab.scalar (oP y) ?_)) <;> (conv => whnf))
 ·refine ay.p ⟨?_, rfl⟩
  rw [rV, if_pos h0]
  rfl
 ·rename_i h1
  rw [h1, Bool.false_or] at h0
  refine ay.p ⟨?_, rfl⟩
  rw [rV, if_neg (by rw [h1]; simp), if_neg (by rw [h0]; simp)]
  rfl
 ·rename_i h1
  rw [h1, Bool.false_or] at h0
  refine ay.p ⟨?_, rfl⟩
  rw [rV, if_neg (by rw [h1]; simp), if_pos h0]
  rfl
theorem za (p : bf) (t : ByteArray) : ao Tryz.prog 187 [.p (Pr.pv p), .p (pS t)] [] fun r H => r = .p (pI (rV p.1 t)) /\ H = [] := by
 refine aa Tryz.func187 rfl rfl au rfl ?_
 (conv => whnf); repeat' ((first | refine' zabc4 | (refine ab.scalar (jh p.1 t) ?_)) <;> (conv => whnf))
 (refine ay.p ?_ <;> refine' aj; all_goals try first | refine Et ?_ | refine Dq ?_)
theorem Ak (p : bf) (t : ByteArray) : ao Tryz.prog 222 [.p (Pr.pv p), .p (pS t)] [] fun r H => r = .p (pI (rV p.1 t)) /\ H = [] := by
 refine aa Tryz.func222 rfl rfl au rfl ?_
 (conv => whnf); repeat' ((first | refine' zabc4 | (refine ab.scalar (jh p.1 t) ?_)) <;> (conv => whnf))
 (refine ay.p ?_ <;> refine' aj; all_goals try first | refine Et ?_ | refine Dq ?_)
def Fnd (ps : List bf) (t : ByteArray) (i : Nat) (b : Bool) : Prop := i <= ps.length /\ (b = true -> ∃ h : i < ps.length, ps[i].1 = t)
theorem ji (fn : FuncId) (t : ByteArray) (hc : ∀ p : bf, ao Tryz.prog fn [.p (Pr.pv p), .p (pS t)] [] fun r H => r = .p (pI (rV p.1 t)) /\ H = []) (nl : Bool) (ps : List bf) (hl : ps.length <= 100) : ao Tryz.prog 186 [.p (.list nl (ps.map Pr.pv)), .p (pS t), .clo (.func fn) []] [] fun r H => ∃ (i : Nat) (b : Bool), Fnd ps t i b /\ r = .tup [.p (pI i), .p (pB b)] /\ H = [] := by
 refine aa Tryz.func186 rfl rfl au rfl ?_
 refine' yabc4
 refine ai (fun (⟨i, j⟩ : Nat × Nat) => ⟨[(0, .p (.list nl (ps.map Pr.pv))), (1, .p (pS t)), (2, .clo (.func fn) []), (8, .p (pI ps.length)), (9, .p (pI i)), (10, .p (pI j))], []⟩) (fun ⟨i, j⟩ => i <= j /\ j <= ps.length) (fun ⟨i, j⟩ => j - i) (0, ps.length) ?_ ?_ ?_; (refine aq.auto rfl rfl rfl rfl ?_ ?_ <;> refine' aj)
 ·exact ⟨by omega, by omega⟩
 rintro ⟨i, j⟩ ⟨hij, hj⟩
 try simp only at hij hj
 rcases Nat.lt_or_ge i j with hlt | hge
 ·obtain ⟨m, hm⟩ : ∃ m : Nat, m = (i + j) / 2 := ⟨_, rfl⟩
  have hm1 : i <= m /\ m < j := by omega
  have e1 : ((i : Int) + j).fdiv (2 ^ (min (1 : Int).toNat 64)) = (m : Int) := by
   show ((i : Int) + j).fdiv 2 = m
   rw [Int.fdiv_eq_ediv_of_nonneg _ (by omega)]; omega
  (conv => whnf); repeat' ((first | refine' zabc4 | (refine ab.scalar (hc ps[m]) ?_)) <;> (conv => whnf))
  ·(refine' ⟨(m + 1, j), _, _, _⟩; rotate_right; (refine aq.auto rfl rfl rfl rfl ?_ ?_ <;> refine' aj); rotate_right; exact aw)
   exact ⟨by omega, by omega⟩
  ·(refine' ⟨(i, m), _, _, _⟩; rotate_right; (refine aq.auto rfl rfl rfl rfl ?_ ?_ <;> refine' aj); rotate_right; exact aw)
   exact ⟨by omega, by omega⟩
 ·obtain rfl : j = i := by omega
  rcases Nat.lt_or_ge j ps.length with hjl | hjl
  ·(conv => whnf); repeat' ((first | refine' zabc4 | (refine ab.scalar (hc ps[j]) ?_)) <;> (conv => whnf))
   (refine' ay.auto (.tup [.p (pI j), .p (pB _)]) ([]) rfl rfl rfl rfl _ _ _ <;> try refine' aj)
   exact ⟨j, _, ⟨by omega, fun h => ⟨hjl, Bs (by simpa using h)⟩⟩, rfl, rfl⟩
  ·refine' yabc4
   (refine' ay.auto (.tup [.p (pI j), .p (pB false)]) ([]) rfl rfl rfl rfl _ _ _ <;> refine' aj)
   exact ⟨j, false, ⟨by omega, by simp⟩, rfl, rfl⟩
theorem um (n : Nd) (t : ByteArray) (hl : n.ps.length <= 100) : ao Tryz.prog 143 [.p n.pv, .p (pS t)] [] fun r H => ∃ (i : Nat) (b : Bool), Fnd n.ps t i b /\ r = .tup [.p (pI i), .p (pB b)] /\ H = [] := by
 refine aa Tryz.func143 rfl rfl au rfl ?_
 refine' yabc4
 refine ab.loc [] [] rfl rfl ((ji _ t (fun p => za p t) n.nl n.ps hl).mono ?_)
 rintro _ _ ⟨i, b, hF, rfl, rfl⟩
 refine' yabc4
 (refine' ay.auto (.tup [.p (pI i), .p (pB b)]) ([]) rfl rfl rfl rfl _ _ _ <;> refine' aj)
 exact ⟨i, b, hF, rfl, rfl⟩
def wI (ps : List bf) (t v : ByteArray) (b : Bool) : Prop := (b = false /\ v = ByteArray.empty) \/ (b = true /\ (t, v) ∈ ps)
theorem wI.size {ps : List bf} {t v : ByteArray} {b : Bool} (h : wI ps t v b) (hp : PsV ps) : v.size <= 20 := by
 rcases h with ⟨_, rfl⟩ | ⟨_, h⟩
 ·exact Nat.zero_le _
 ·exact (hp.2 _ h).2.1
theorem dD (nl : Bool) (ns : List Nd) (h : FV ns) (t : ByteArray) (k : Nat) (hk : k < ns.length) : ao Tryz.prog 92 [.p (.agg [.list nl (ns.map Nd.pv)]), .p (pI k), .p (pS t)] [] fun r H => ∃ (v : ByteArray) (b : Bool), wI ns[k].ps t v b /\ r = .tup [.p (pS v), .p (pB b)] /\ H = [] := by
 refine aa Tryz.func92 rfl rfl au rfl ?_
 have h8 := h.l8
 have h7 := (h.fG hk).len
 (conv => whnf); repeat' ((first | refine' zabc4 | (refine ab.scalar (cb nl ns h) ?_)) <;> (conv => whnf))
 refine ab.loc [] [] rfl rfl ((um ns[k] t (by omega)).mono ?_)
 rintro _ _ ⟨i, b, hF, rfl, rfl⟩
 cases b with
 | false =>
  refine' yabc4
  (refine' ay.auto (.tup [.p (pS ByteArray.empty), .p (pB false)]) ([]) rfl rfl rfl rfl _ _ _ <;> refine' aj)
  exact ⟨_, _, .inl ⟨rfl, rfl⟩, rfl, rfl⟩
 | true =>
  obtain ⟨hi, he⟩ := hF.2 rfl
  refine' yabc4
  (refine' ay.auto (.tup [.p (pS ns[k].ps[i].2), .p (pB true)]) ([]) rfl rfl rfl rfl _ _ _ <;> refine' aj)
  refine ⟨_, _, .inr ⟨rfl, ?_⟩, rfl, rfl⟩
  rw [<- he]
  exact List.getElem_mem hi
def pc6 : Ln := (.lazy 0 (.lazy 1 (.lazy 2 (.lazy 3 (.lazy 4 (.lazy 5 (.lazy 6 (.lazy 7 (.lazy 8 (.lazy 9 (.lazy 10 (.lazy 11 (.lazy 12 (.lazy 13 (.lazy 14 (.lazy 15 (.lazy 16 (.lazy 17 (.lazy 18 (.lazy 19 (.one 20 (.lazy 21 .done))))))))))))))))))))))
theorem y6c3f {P : Prop} (h : P := by
 ((conv => whnf); repeat' ((first | apply aB.plain | refine' gC | refine' gpI | refine' ia | refine' gpB | refine' gpS | refine' gE | fail) <;> (conv => whnf))) <;> (solve_by_elim (newGoals := .nonDependentOnly) -symm -exfalso (transparency := .reducible) only [rfl, aC])) : P := h
theorem fe (s : ByteArray) (hs : s.size <= 20) : ao Tryz.prog 93 [.p (pS s)] [] fun r H => ∃ (nb : Bool) (l : List Int) (ok : Bool), (∀ x ∈ l, 0 <= x /\ x < 4294967296) /\ l.length <= 5 /\ r = .tup [.p (.list nb (l.map pI)), .p (pB ok)] /\ H = [] := by
 refine aa Tryz.func93 rfl rfl au rfl ?_
 refine' y6c3f
 ·(refine' ay.auto (.tup [.p (.list true []), .p (pB false)]) ([]) rfl rfl rfl rfl _ _ _ <;> refine' aj)
  exact ⟨true, [], false, by simp, by simp, rfl, rfl⟩
 ·(refine' ay.auto (.tup [.p (.list true []), .p (pB false)]) ([]) rfl rfl rfl rfl _ _ _ <;> refine' aj)
  exact ⟨true, [], false, by simp, by simp, rfl, rfl⟩
 have hm : s.size % 4 = 0 := by
  rw [Int.tmod_eq_emod_of_nonneg (by omega)] at h0
  omega
 refine ai (fun (⟨z, l, nb⟩ : ByteArray × List Int × Bool) => ⟨[(0, .p (pS z)), (4, .buf 0)], [some (AO.buf 3 nb (l.map pI))]⟩) (fun ⟨z, l, nb⟩ => z.size % 4 = 0 /\ z.size + 4 * l.length <= 20 /\ ∀ x ∈ l, 0 <= x /\ x < 4294967296) (fun ⟨z, l, nb⟩ => z.size) (s, [], true) ?_ ?_ ?_; (refine aq.kM (3, 4) rfl rfl rfl rfl rfl ?_ ?_ <;> refine' aj)
 ·exact ⟨hm, by simp; omega, by simp⟩
 rintro ⟨z, l, nb⟩ ⟨hz, hzl, hx⟩
 try simp only at hz hzl hx
 rcases Nat.eq_zero_or_pos z.size with hz0 | hz0
 ·have he : (z.toList == (⟨#[]⟩ : ByteArray).toList) = true := by
   rw [mn]
   exact decide_eq_true (ByteArray.ext (Array.eq_empty_of_size_eq_zero hz0))
  refine' y6c3f
  (refine ay.frz _ _ _ [0] ?_; refine' ay.auto (.tup [.p (.list nb (l.map pI)), .p (pB true)]) ([]) rfl rfl rfl rfl _ _ _ <;> refine' aj)
  exact ⟨nb, l, true, hx, by omega, rfl, rfl⟩
 ·have he : (z.toList == (⟨#[]⟩ : ByteArray).toList) = false := by
   rw [mn]
   exact decide_eq_false fun e => by rw [e] at hz0; exact absurd hz0 (by decide)
  have hbt : ∀ i, i < z.size -> ∃ b : UInt8, z[i]? = some b /\ 0 <= ((b.toNat : Nat) : Int) /\ ((b.toNat : Nat) : Int) < 256 := fun i hi => ⟨z[i], getElem?_pos z i hi, by omega, by have := z[i].toNat_lt; omega⟩
  obtain ⟨b0, g0, r0⟩ := hbt 0 (by omega)
  obtain ⟨b1, g1, r1⟩ := hbt 1 (by omega)
  obtain ⟨b2, g2, r2⟩ := hbt 2 (by omega)
  obtain ⟨b3, g3, r3⟩ := hbt 3 (by omega)
  have s0 := (pZ r0).1
  have s1 := (pZ r1).2.1
  have s2 := (pZ r2).2.2
  obtain ⟨o1, o2, o3⟩ := we r0 r1 r2 r3
  refine' y6c3f
  apply ax.lin pc6 (by kernel_rfl) (by decide +kernel)
  (conv => whnf); repeat' ((first | (apply PdC.same; · with_reducible rfl) | apply PdC.chk | apply PdA.mk | (apply EqA.mk; rfl) | (apply LzA.mk; · ((conv => whnf); repeat' ((first | (apply EqA.mk; rfl) | (apply And.intro; omega) | ((first | apply NW.as | apply fA.as); with_reducible assumption) | ((first | apply NW.i64 | apply NW.u32 | apply NW.u64 | apply NW.u8 | apply aX.hi | apply aX.lo); omega) | (apply SzA.map; (intro _; rfl)) | (refine ⟨b0, by omega, g0, ?_⟩) | (refine ⟨b1, by omega, g1, ?_⟩) | (refine ⟨b2, by omega, g2, ?_⟩) | (refine ⟨b3, by omega, g3, ?_⟩) | refine' z2386 | fail) <;> (conv => whnf)))) | (refine ⟨b0, by omega, g0, ?_⟩) | (refine ⟨b1, by omega, g1, ?_⟩) | (refine ⟨b2, by omega, g2, ?_⟩) | (refine ⟨b3, by omega, g3, ?_⟩) | refine' z6c3f | (fail "DrawA.lin")) <;> (conv => whnf))
  (refine' ⟨(z.extract 4 z.size, l ++ [yr b0.toNat b1.toNat b2.toNat b3.toNat], false), _, _, _⟩; rotate_right; (refine aq.auto rfl rfl rfl rfl ?_ ?_ <;> refine' aj); rotate_right; exact aw)
  have h5 : (z.extract 4 z.size).size = z.size - 4 := by simp
  refine ⟨by omega, by simp only [List.length_append, List.length_cons, List.length_nil]; omega, fun x hxx => ?_⟩
  rcases List.mem_append.1 hxx with h1 | h1
  ·exact hx x h1
  ·simp at h1
   subst h1
   unfold yr
   omega
def ph1 : Ln := (.lazy 0 (.lazy 1 (.lazy 2 (.one 3 (.lazy 4 (.one 5 (.lazy 6 .done)))))))
theorem uP (k : Int) (h : 0 <= k /\ k <= 4294967296) : ao Tryz.prog 228 [.p (pI k)] [] fun r H => ∃ s : ByteArray, r = .p (pS s) /\ H = [] := by
 refine aa Tryz.func228 rfl rfl au rfl ?_
 (conv => whnf); repeat' ((first | (refine NW.mk (kd := .u8) _ rfl ?_) | refine' z1d11 | (apply IsL.lit (f := pU8) [_, _, _, _] rfl)) <;> (conv => whnf))
 refine eU.mk [_, _, _, _] rfl ?_
 refine' y1d11
 (refine ay.p ?_ <;> refine' aj; all_goals try first | refine Et ?_ | refine Dq ?_)
 exact ⟨_, rfl, rfl⟩
theorem yT (nl : Bool) (ps : List bf) (p : bf) (hl : ps.length <= 100) : ao Tryz.prog 250 [.p (.list nl (ps.map Pr.pv)), .p (Pr.pv p)] [] fun r H => ∃ i : Int, -1 <= i /\ i < 100 /\ r = .p (pI i) /\ H = [] := by
 refine aa Tryz.func250 rfl rfl au rfl ?_
 refine' y1d11
 refine ai (fun (c : Nat) => ⟨[(0, .p (.list nl (ps.map Pr.pv))), (3, .ptr 0 0), (7, .p (pI ps.length)), (8, .p (pI c))], [some (.cells [.p (pS p.1), .p (pS p.2)])]⟩) (fun c => c <= ps.length) (fun c => ps.length - c) 0 ?_ ?_ ?_; (refine aq.auto rfl rfl rfl rfl ?_ ?_ <;> refine' aj)
 ·omega
 rintro c hc
 rcases Nat.lt_or_ge c ps.length with hlt | hge
 ·refine' y1d11
  ·(refine' ay.auto (.p (pI c)) ([]) rfl rfl rfl rfl _ _ _ <;> refine' aj)
   exact ⟨c, by omega, by omega, rfl, rfl⟩
  ·(refine' ⟨c + 1, _, _, _⟩; rotate_right; (refine aq.auto rfl rfl rfl rfl ?_ ?_ <;> refine' aj); rotate_right; exact aw)
   omega
 ·refine' y1d11
  (refine' ay.auto (.p (pI (-1))) ([]) rfl rfl rfl rfl _ _ _ <;> refine' aj)
  exact ⟨-1, by omega, by omega, rfl, rfl⟩
theorem vB (nl : Bool) (ps : List bf) (p : bf) (hl : ps.length <= 100) : ao Tryz.prog 227 [.p (.list nl (ps.map Pr.pv)), .p (Pr.pv p)] [] fun r H => ∃ b : Bool, r = .p (pB b) /\ H = [] := by
 refine aa Tryz.func227 rfl rfl au rfl ?_
 refine' y1d11
 refine ab.loc [] [] rfl rfl ((yT nl ps p hl).mono ?_)
 rintro _ _ ⟨i, hi, hi2, rfl, rfl⟩
 refine' y1d11
 (refine' ay.auto (.p (pB _)) ([]) rfl rfl rfl rfl _ _ _ <;> try refine' aj)
 exact ⟨_, rfl, rfl⟩
theorem Az (n : Nd) (hn : n.ps.length <= 100) (k : Int) (h : 0 <= k /\ k <= 4294967296) : ao Tryz.prog 226 [.p n.pv, .ptr 0 0] [some (.cells [.p (pI k)])] fun r H => ∃ b : Bool, r = .p (pB b) /\ H = [some (.cells [.p (pI k)])] := by
 refine aa Tryz.func226 rfl rfl au rfl ?_
 refine' ye42c
 apply ax.lin ph1 (by kernel_rfl) (by decide +kernel)
 (conv => whnf); repeat' ((first | (apply PdC.same; · with_reducible rfl) | apply PdC.chk | apply PdA.mk | (apply EqA.mk; rfl) | (apply LzA.mk; · ((conv => whnf); repeat' ((first | (apply EqA.mk; rfl) | refine' zedca | fail) <;> (conv => whnf)))) | refine' ze42c | (fail "DrawA.lin")) <;> (conv => whnf))
 refine ab.loc [] [] rfl rfl ((uP k h).mono ?_)
 rintro _ _ ⟨s, rfl, rfl⟩
 (conv => whnf); repeat' ((first | (apply PdC.same; · with_reducible rfl) | apply PdC.chk | apply PdA.mk | (apply EqA.mk; rfl) | (apply LzA.mk; · ((conv => whnf); repeat' ((first | (apply EqA.mk; rfl) | refine' zedca | fail) <;> (conv => whnf)))) | refine' ze42c | (fail "DrawA.lin")) <;> (conv => whnf))
 refine ab.loc [] [] rfl rfl ((vB n.nl n.ps (_, s) hn).mono ?_)
 rintro _ _ ⟨b, rfl, rfl⟩
 (conv => whnf); repeat' ((first | (apply PdC.same; · with_reducible rfl) | apply PdC.chk | apply PdA.mk | (apply EqA.mk; rfl) | (apply LzA.mk; · ((conv => whnf); repeat' ((first | (apply EqA.mk; rfl) | refine' zedca | fail) <;> (conv => whnf)))) | refine' ze42c | (fail "DrawA.lin")) <;> (conv => whnf))
 (refine' ay.auto (.p (pB b)) ([some (.cells [.p (pI k)])]) rfl rfl rfl rfl _ _ _ <;> refine' aj)
 exact ⟨b, rfl, rfl⟩
theorem yU (nl : Bool) (ns : List Nd) (hv : FV ns) (k : Int) (h : 0 <= k /\ k <= 4294967296) : ao Tryz.prog 225 [.p (.list nl (ns.map Nd.pv)), .clo (.func 226) [.ptr 0 0]] [some (.cells [.p (pI k)])] fun r H => ∃ i : Int, -1 <= i /\ i < ns.length /\ r = .p (pI i) /\ H = [some (.cells [.p (pI k)])] := by
 refine aa Tryz.func225 rfl rfl au rfl ?_
 have h8 := hv.l8
 refine' y1d11
 refine ai (fun (c : Nat) => ⟨[(0, .p (.list nl (ns.map Nd.pv))), (1, .clo (.func 226) [.ptr 0 0]), (7, .p (pI ns.length)), (8, .p (pI c))], [some (.cells [.p (pI k)])]⟩) (fun c => c <= ns.length) (fun c => ns.length - c) 0 ?_ ?_ ?_; (refine aq.auto rfl rfl rfl rfl ?_ ?_ <;> refine' aj)
 ·omega
 rintro c hc
 rcases Nat.lt_or_ge c ns.length with hlt | hge
 ·have h7 := (hv.fG hlt).len
  refine' y1d11
  refine ab.loc [0] [] rfl rfl ((Az ns[c] (by omega) k h).mono ?_)
  rintro _ _ ⟨b, rfl, rfl⟩
  refine' y1d11
  ·(refine' ay.auto (.p (pI c)) ([some (.cells [.p (pI k)])]) rfl rfl rfl rfl _ _ _ <;> refine' aj)
   exact ⟨c, by omega, by omega, rfl, rfl⟩
  ·(refine' ⟨c + 1, _, _, _⟩; rotate_right; (refine aq.auto rfl rfl rfl rfl ?_ ?_ <;> refine' aj); rotate_right; exact aw)
   omega
 ·refine' y1d11
  (refine' ay.auto (.p (pI (-1))) ([some (.cells [.p (pI k)])]) rfl rfl rfl rfl _ _ _ <;> refine' aj)
  exact ⟨-1, by omega, by omega, rfl, rfl⟩
theorem sh (nl : Bool) (ns : List Nd) (hv : FV ns) (k : Int) (h : 0 <= k /\ k < 4294967296) : ao Tryz.prog 184 [.p (.agg [.list nl (ns.map Nd.pv)]), .p (pI k)] [] fun r H => ∃ (q : Nat) (b : Bool), q < ns.length /\ r = .tup [.p (pI q), .p (pB b)] /\ H = [] := by
 refine aa Tryz.func184 rfl rfl au rfl ?_
 have h1 := hv.l1
 (conv => whnf); repeat' ((first | refine' z1d11 | (refine ab.scalar (cb nl ns hv) ?_)) <;> (conv => whnf))
 ·(refine' ay.auto (.tup [.p (pI ((0 : Nat) : Int)), .p (pB false)]) ([]) rfl rfl rfl rfl _ _ _ <;> refine' aj)
  exact ⟨0, _, by omega, rfl, rfl⟩
 ·(refine' ay.auto (.tup [.p (pI ((0 : Nat) : Int)), .p (pB false)]) ([]) rfl rfl rfl rfl _ _ _ <;> refine' aj)
  exact ⟨0, _, by omega, rfl, rfl⟩
 refine ab.loc [1] [] rfl rfl ((yU nl ns hv k (by omega)).mono ?_)
 rintro _ _ ⟨i, hi1, hi2, rfl, rfl⟩
 rcases Int.lt_or_le i 0 with hn | hn
 ·obtain rfl : i = -1 := by omega
  refine' y1d11
  (refine' ay.auto (.tup [.p (pI ((0 : Nat) : Int)), .p (pB _)]) ([]) rfl rfl rfl rfl _ _ _ <;> try refine' aj)
  exact ⟨0, _, by omega, rfl, rfl⟩
 ·obtain ⟨q, rfl⟩ := Int.eq_ofNat_of_zero_le hn
  refine' y1d11
  (refine' ay.auto (.tup [.p (pI q), .p (pB _)]) ([]) rfl rfl rfl rfl _ _ _ <;> try refine' aj)
  exact ⟨q, _, by omega, rfl, rfl⟩
def is4 : Ln := (.lazy 0 (.lazy 1 (.lazy 2 (.lazy 3 (.lazy 4 (.lazy 5 (.lazy 6 (.lazy 7 (.lazy 8 (.lazy 9 (.lazy 10 (.lazy 11 (.lazy 12 (.one 13 (.lazy 14 .done)))))))))))))))
def is6 : Ln := (.lazy 0 (.lazy 1 (.lazy 2 (.lazy 3 (.lazy 4 (.lazy 5 (.lazy 6 (.lazy 7 (.lazy 8 (.lazy 9 (.lazy 10 (.lazy 11 (.lazy 12 (.lazy 13 (.lazy 14 (.one 15 (.lazy 16 (.one 17 .done))))))))))))))))))
def BR (k : Nat) : Int := ([0, 1, 2, 2, 3, 3, 3, 3, 4, 4, 4, 4, 4] : List Int).getD k 0
theorem Bx : ∀ k : Nat, k < 13 -> (bk Tryz.prog ti xf 10000 (fun _ => 2) [] 30).1 181 [.p (.v (.int .u64 k))] = some (.p (pI (BR k)))
 | 0, _ => by kernel_rfl
 | 1, _ => by kernel_rfl
 | 2, _ => by kernel_rfl
 | 3, _ => by kernel_rfl
 | 4, _ => by kernel_rfl
 | 5, _ => by kernel_rfl
 | 6, _ => by kernel_rfl
 | 7, _ => by kernel_rfl
 | 8, _ => by kernel_rfl
 | 9, _ => by kernel_rfl
 | 10, _ => by kernel_rfl
 | 11, _ => by kernel_rfl
 | 12, _ => by kernel_rfl
 | k + 13, h => absurd h (by omega)
theorem yE (k : Nat) (hk : k < 13) : ao Tryz.prog 181 [.p (.v (.int .u64 k))] [] fun r H => r = .p (pI (BR k)) /\ H = [] := cd au mixed fD cg 30 (Bx k hk)
def InR (N : Int) (xs : List Int) : Prop := ∀ x ∈ xs, 0 <= x /\ x < N
theorem InR.at {N : Int} {xs : List Int} (h : InR N xs) {i : Nat} (hi : i < xs.length) : 0 <= xs[i] /\ xs[i] < N := h _ (List.getElem_mem hi)
theorem InR.set {N : Int} {xs : List Int} (h : InR N xs) {y : Int} (hy : 0 <= y /\ y < N) (i : Nat) : InR N (xs.set i y) := fun x hx => by
 rcases List.mem_or_eq_of_mem_set hx with h1 | rfl
 ·exact h x h1
 ·exact hy
theorem InR.take {N : Int} {xs : List Int} (h : InR N xs) (k : Nat) : InR N (xs.take k) := fun x hx => h x (List.mem_of_mem_take hx)
theorem z8158 {P : Prop} (h : P := by
 ((first | apply aB.plain | refine' gC | refine' gpI | refine' gpB | refine' gE | fail) <;> (conv => whnf)) <;> (solve_by_elim (newGoals := .nonDependentOnly) -symm -exfalso (transparency := .reducible) only [rfl, aC])) : P := h
theorem zf68a {P : Prop} (h : P := by
 ((first | refine' gC | refine' gpI | refine' gpB | refine' gE | fail) <;> (conv => whnf)) <;> (solve_by_elim (newGoals := .nonDependentOnly) -symm -exfalso (transparency := .reducible) only [rfl, aC])) : P := h
theorem y8158 {P : Prop} (h : P := by
 ((conv => whnf); repeat' ((first | apply aB.plain | refine' gC | refine' gpI | refine' gpB | refine' gE | fail) <;> (conv => whnf))) <;> (solve_by_elim (newGoals := .nonDependentOnly) -symm -exfalso (transparency := .reducible) only [rfl, aC])) : P := h
theorem rj (nb : Bool) (xs : List Int) (N : Int) (hx : InR N xs) (hl : xs.length <= 12) : ao Tryz.prog 212 [.buf 0, .p (pI 0), .p (pI xs.length)] [some (AO.buf 3 nb (xs.map pI))] fun r H => ∃ ys, ys.length = xs.length /\ InR N ys /\ r = .tup [] /\ H = [some (AO.buf 3 nb (ys.map pI))] := by
 refine aa Tryz.func212 rfl rfl au rfl ?_
 generalize hn : xs.length = n at hl ⊢
 refine' yea1d
 refine ai (fun (⟨ys, i⟩ : List Int × Nat) => ⟨[(0, .buf 0), (1, .p (pI 0)), (2, .p (pI n)), (6, .p (pI i))], [some (AO.buf 3 nb (ys.map pI))]⟩) (fun ⟨ys, i⟩ => ys.length = n /\ InR N ys /\ 1 <= i) (fun ⟨ys, i⟩ => n + 1 - i) (xs, 1) ?_ ?_ ?_; (refine aq.auto rfl rfl rfl rfl ?_ ?_ <;> refine' aj)
 ·exact ⟨hn, hx, by omega⟩
 clear hx hn
 rintro ⟨ys, i⟩ ⟨hy, hx, hi⟩
 try simp only at hy hx hi
 refine' yea1d
 ·refine ai (fun (⟨zs, j⟩ : List Int × Nat) => ⟨[(0, .buf 0), (1, .p (pI 0)), (2, .p (pI n)), (6, .p (pI i)), (7, .p (pI j))], [some (AO.buf 3 nb (zs.map pI))]⟩) (fun ⟨zs, j⟩ => zs.length = n /\ InR N zs /\ j <= i) (fun ⟨zs, j⟩ => j) (ys, i) ?_ ?_ ?_; (refine aq.auto rfl rfl rfl rfl ?_ ?_ <;> refine' aj)
  ·exact ⟨hy, hx, by omega⟩
  clear hy hx
  rintro ⟨zs, j⟩ ⟨hz, hx, hj⟩
  try simp only at hz hx hj
  refine' y8158
  apply ax.lin is4 (by kernel_rfl) (by decide +kernel)
  (conv => whnf); repeat' ((first | (apply PdC.same; · with_reducible rfl) | apply PdC.chk | apply PdA.mk | (apply EqA.mk; rfl) | (apply LzA.mk; · ((conv => whnf); repeat' ((first | (apply EqA.mk; rfl) | refine' zf68a | fail) <;> (conv => whnf)))) | refine' z8158 | (fail "DrawA.lin") | (refine ab.scalar (qy _ _) ?_)) <;> (conv => whnf))
  ·apply ax.lin is6 (by kernel_rfl) (by decide +kernel)
   (conv => whnf); repeat' ((first | (apply PdC.same; · with_reducible rfl) | apply PdC.chk | apply PdA.mk | (apply EqA.mk; rfl) | (apply LzA.mk; · ((conv => whnf); repeat' ((first | (apply EqA.mk; rfl) | refine' zf68a | fail) <;> (conv => whnf)))) | refine' z8158 | (fail "DrawA.lin")) <;> (conv => whnf))
   (refine' ⟨((zs.set j (zs[((j : Int) - 1).toNat]'(by omega))).set ((j : Int) - 1).toNat (zs[j]'(by omega)), j - 1), _, _, _⟩; rotate_right; (refine aq.auto rfl rfl rfl rfl ?_ ?_ <;> refine' aj); rotate_right; exact aw)
   refine ⟨by simp [hz], (hx.set (hx.at _) _).set (hx.at _) _, by omega⟩
  ·(refine' ⟨(zs, i + 1), _, _, _⟩; rotate_right; (refine aq.auto rfl rfl rfl rfl ?_ ?_ <;> refine' aj); rotate_right; exact aw)
   exact ⟨hz, hx, by omega⟩
  ·(refine' ⟨(zs, i + 1), _, _, _⟩; rotate_right; (refine aq.auto rfl rfl rfl rfl ?_ ?_ <;> refine' aj); rotate_right; exact aw)
   exact ⟨hz, hx, by omega⟩
 ·(refine' ay.auto (.tup []) ([some (AO.buf 3 nb (ys.map pI))]) rfl rfl rfl rfl _ _ _ <;> refine' aj)
  exact ⟨ys, hy, hx, rfl, rfl⟩
theorem zD (nb : Bool) (xs : List Int) (N : Int) (hx : InR N xs) (hl : xs.length <= 12) (k : Int) : ao Tryz.prog 180 [.buf 0, .p (pI 0), .p (pI xs.length), .p (pI k)] [some (AO.buf 3 nb (xs.map pI))] fun r H => ∃ ys, ys.length = xs.length /\ InR N ys /\ r = .tup [] /\ H = [some (AO.buf 3 nb (ys.map pI))] := by
 refine aa Tryz.func180 rfl rfl au rfl ?_
 refine' yea1d
 refine ai (fun (_u : Unit) => ⟨[(0, .buf 0), (1, .p (pI 0)), (2, .p (pI xs.length)), (3, .p (pI k)), (8, .p (pB true)), (9, .p (pB true))], [some (AO.buf 3 nb (xs.map pI))]⟩) (fun _u => True) (fun _u => 0) () ?_ ?_ ?_; (refine aq.auto rfl rfl rfl rfl ?_ ?_ <;> refine' aj)
 ·trivial
 rintro _ -
 refine' yea1d
 refine ab.all ((rj nb xs N hx hl).mono ?_)
 rintro _ _ ⟨ys, h1, h2, rfl, rfl⟩
 refine' yea1d
 (refine' ay.auto (.tup []) ([some (AO.buf 3 nb (ys.map pI))]) rfl rfl rfl rfl _ _ _ <;> refine' aj)
 exact ⟨ys, h1, h2, rfl, rfl⟩
theorem aF (nb : Bool) (xs : List Int) (N : Int) (hx : InR N xs) (hl : xs.length <= 12) : ao Tryz.prog 135 [.buf 0] [some (AO.buf 3 nb (xs.map pI))] fun r H => ∃ ys, ys.length = xs.length /\ InR N ys /\ r = .tup [] /\ H = [some (AO.buf 3 nb (ys.map pI))] := by
 refine aa Tryz.func135 rfl rfl au rfl ?_
 refine' yea1d
 refine ab.loc [] [] rfl rfl ((yE xs.length (by omega)).mono ?_)
 rintro _ _ ⟨rfl, rfl⟩
 refine' yea1d
 refine ab.all ((zD nb xs N hx hl _).mono ?_)
 rintro _ _ ⟨ys, h1, h2, rfl, rfl⟩
 refine' yea1d
 (refine' ay.auto (.tup []) ([some (AO.buf 3 nb (ys.map pI))]) rfl rfl rfl rfl _ _ _ <;> refine' aj)
 exact ⟨ys, h1, h2, rfl, rfl⟩
theorem zea1d {P : Prop} (h : P := by
 ((first | apply aB.plain | refine' gC | refine' gpI | refine' gpB | refine' gE | (apply ax.quiet (by kernel_rfl) (by kernel_rfl); (conv => whnf); fail_if_success (show False))) <;> (conv => whnf)) <;> (solve_by_elim (newGoals := .nonDependentOnly) -symm -exfalso (transparency := .reducible) only [rfl, aC])) : P := h
theorem aA (nb : Bool) (xs : List Int) (N : Int) (hN : 0 < N) (hx : InR N xs) (hl : xs.length <= 100000) : ao Tryz.prog 136 [.buf 0] [some (AO.buf 3 nb (xs.map pI))] fun r H => ∃ (ys : List Int) (nc : Bool), ys.length <= xs.length /\ InR N ys /\ ((r = .buf 0 /\ H = [some (AO.buf 3 nc (ys.map pI))]) \/ (r = .buf 1 /\ H = [none, some (AO.buf 3 nc (ys.map pI))])) := by
 refine aa Tryz.func136 rfl rfl au rfl ?_
 generalize hn : xs.length = n at hl ⊢
 refine' yea1d
 ·(refine' ay.auto (.buf 0) ([some (AO.buf 3 nb (xs.map pI))]) rfl rfl rfl rfl _ _ _ <;> refine' aj)
  exact ⟨xs, nb, by omega, hx, .inl ⟨rfl, rfl⟩⟩
 refine ai (fun (k : Nat) => ⟨[(0, .buf 0), (3, .p (pI k))], [some (AO.buf 3 nb (xs.map pI))]⟩) (fun k => 1 <= k) (fun k => n + 1 - k) 1 ?_ ?_ ?_; (refine aq.auto rfl rfl rfl rfl ?_ ?_ <;> refine' aj)
 ·omega
 rintro k hk
 refine' yea1d
 ·have hkn : k < n := by omega
  refine ai (fun (⟨zs, k', k2⟩ : List Int × Nat × Nat) => ⟨[(0, .buf 0), (3, .p (pI k')), (4, .sub 0 k n), (5, .p (pI k2))], [some (AO.buf 3 nb (zs.map pI))]⟩) (fun ⟨zs, k', k2⟩ => zs.length = n /\ InR N zs /\ k <= k' /\ k' + 1 <= k + k2 /\ k + k2 <= n) (fun ⟨zs, k', k2⟩ => n + 1 - k2) (xs, k, 1) ?_ ?_ ?_; (refine aq.auto rfl rfl rfl rfl ?_ ?_ <;> refine' aj)
  ·conv => lhs; whnf
   conv => rhs; whnf
   simp [hn]
   rfl
  ·exact ⟨hn, hx, by omega, by omega, by omega⟩
  rintro ⟨zs, k', k2⟩ ⟨hz, hzx, h1, h2, h3⟩
  try simp only at hz hzx h1 h2 h3
  refine' yea1d
  ·(refine' ⟨(zs.set k' (zs[k + (k2 : Int).toNat]'(by omega)), k' + 1, k2 + 1), _, _, _⟩; rotate_right; (refine aq.auto rfl rfl rfl rfl ?_ ?_ <;> refine' aj); rotate_right; exact aw)
   exact ⟨by simp [hz], hzx.set (hzx.at _) _, by omega, by omega, by omega⟩
  ·(refine' ⟨(zs, k', k2 + 1), _, _, _⟩; rotate_right; (refine aq.auto rfl rfl rfl rfl ?_ ?_ <;> refine' aj); rotate_right; exact aw)
   exact ⟨hz, hzx, by omega, by omega, by omega⟩
  ·refine IsL.mk ((zs.take k' ++ List.replicate (n - k') (0 : Int)).map pI) (by simp [hz, List.drop_eq_nil_of_le]; exact .inr rfl) ?_
   have hco : (((zs.take k' ++ List.replicate (n - k') (0 : Int)).map pI).take ((k' : Int).toNat)) = (zs.take k').map pI := by
    rw [Int.toNat_natCast, <- List.map_take, List.take_append_of_le_length (by simp; omega), List.take_take, Nat.min_self]
   (conv => whnf); repeat' ((first | (refine sj.own ?_) | (refine IsL.mk ((zs.take k').map pI) hco ?_) | refine' zea1d | fail) <;> (conv => whnf))
   (refine' ay.mk _ _ _ [1] (.buf 1) ([none, some (AO.buf 3 nb ((zs.take k').map pI))]) rfl rfl _ rfl rfl _ <;> refine' aj)
   exact ⟨_, nb, by simp; omega, hzx.take _, .inr ⟨rfl, rfl⟩⟩
 ·(refine' ⟨k + 1, _, _, _⟩; rotate_right; (refine aq.auto rfl rfl rfl rfl ?_ ?_ <;> refine' aj); rotate_right; exact aw)
  omega
 ·(refine' ay.auto (.buf 0) ([some (AO.buf 3 nb (xs.map pI))]) rfl rfl rfl rfl _ _ _ <;> refine' aj)
  exact ⟨xs, nb, by omega, hx, .inl ⟨rfl, rfl⟩⟩
structure Lk where
 node : Int
 uD : Int
 prp : ByteArray
 idx : Int
 an : Bool
 ar : List Int
def Lk.pv (x : Lk) : PV := .agg [pI x.node, pI x.uD, pS x.prp, pI x.idx, .list x.an (x.ar.map pI)]
theorem mb {P : Prop} (h : P := by
 (first | ((first | apply bx.snoc (f := Lk.pv) (a := _) rfl | apply bx.one (f := Lk.pv) (a := _) rfl | (apply bx.snoc (f := Lk.pv) (a := ⟨_, _, _, _, _, _⟩); dsimp only [Lk.pv]; exact rfl) | (apply bx.one (f := Lk.pv) (a := ⟨_, _, _, _, _, _⟩); dsimp only [Lk.pv]; exact rfl)); exact ar_) | apply IsL.set (f := Lk.pv) (a := _) rfl | apply IsL.rep (f := Lk.pv) (a := _) rfl | (apply IsL.set (f := Lk.pv) (a := ⟨_, _, _, _, _, _⟩); dsimp only [Lk.pv]; exact rfl) | (apply IsL.rep (f := Lk.pv) (a := ⟨_, _, _, _, _, _⟩); dsimp only [Lk.pv]; exact rfl) | apply IsL.lit (f := Lk.pv) [] rfl | apply IsL.lit (f := Lk.pv) [_] rfl | apply IsL.lit (f := Lk.pv) [_, _] rfl | apply IsL.lit (f := Lk.pv) [_, _, _] rfl | apply IsL.lit (f := Lk.pv) [] rfl | apply IsL.lit (f := Lk.pv) [⟨_, _, _, _, _, _⟩] rfl | apply IsL.lit (f := Lk.pv) [⟨_, _, _, _, _, _⟩, ⟨_, _, _, _, _, _⟩] rfl | apply IsL.lit (f := Lk.pv) [⟨_, _, _, _, _, _⟩, ⟨_, _, _, _, _, _⟩, ⟨_, _, _, _, _, _⟩] rfl) <;> (solve_by_elim (newGoals := .nonDependentOnly) -symm -exfalso (transparency := .reducible) only [rfl, aC])) : P := h
def lo9 : Ln := (.lazy 0 (.lazy 1 (.lazy 2 (.lazy 3 (.one 4 (.lazy 5 (.lazy 6 (.lazy 7 (.lazy 8 (.lazy 9 .done))))))))))
theorem y3971 {P : Prop} (h : P := by
 ((conv => whnf); repeat' ((first | apply aB.plain | refine' gC | refine' gpI | refine' gpB | refine' gpS | refine' bh | refine' bj | refine' mb | refine' gE | (apply ax.quiet (by kernel_rfl) (by kernel_rfl); (conv => whnf); fail_if_success (show False))) <;> (conv => whnf))) <;> (solve_by_elim (newGoals := .nonDependentOnly) -symm -exfalso (transparency := .reducible) only [rfl, aC])) : P := h
theorem oU (nl : Bool) (ns : List Nd) (h : FV ns) (t : ByteArray) (k : Nat) (hk : k < ns.length) : ao Tryz.prog 185 [.p (.agg [.list nl (ns.map Nd.pv)]), .p (pI k), .p (pS t)] [] fun r H => ∃ (n : Nat) (b : Bool), n <= 8 /\ r = .tup [.p (pI n), .p (pB b)] /\ H = [] := by
 refine aa Tryz.func185 rfl rfl au rfl ?_
 refine' y3971
 refine ab.loc [] [] rfl rfl ((dD nl ns h t k hk).mono ?_)
 rintro _ _ ⟨v, b, hv, rfl, rfl⟩
 have hs := hv.size (h.fG hk)
 cases b with
 | false =>
  refine' y3971
  (refine' ay.auto (.tup [.p (pI ((0 : Nat) : Int)), .p (pB true)]) ([]) rfl rfl rfl rfl _ _ _ <;> refine' aj)
  exact ⟨0, _, by omega, rfl, rfl⟩
 | true =>
  refine' y3971
  refine ab.loc [] [] rfl rfl ((fe v hs).mono ?_)
  rintro _ _ ⟨nb, l, ok, hl, hl5, rfl, rfl⟩
  cases ok with
  | false =>
   refine' y3971
   (refine' ay.auto (.tup [.p (pI ((0 : Nat) : Int)), .p (pB false)]) ([]) rfl rfl rfl rfl _ _ _ <;> refine' aj)
   exact ⟨0, _, by omega, rfl, rfl⟩
  | true =>
   rcases Nat.lt_or_ge l.length 1 with h1 | h1
   ·obtain rfl : l = [] := List.eq_nil_of_length_eq_zero (by omega)
    refine' y3971
    (refine' ay.auto (.tup [.p (pI ((0 : Nat) : Int)), .p (pB false)]) ([]) rfl rfl rfl rfl _ _ _ <;> refine' aj)
    exact ⟨0, _, by omega, rfl, rfl⟩
   ·have h2 := hl _ (List.getElem_mem (l := l) (n := 0) (by omega))
    obtain ⟨q, hq⟩ := Int.eq_ofNat_of_zero_le h2.1
    refine' y3971
    ·(refine' ay.auto (.tup [.p (pI ((0 : Nat) : Int)), .p (pB false)]) ([]) rfl rfl rfl rfl _ _ _ <;> refine' aj)
     exact ⟨0, _, by omega, rfl, rfl⟩
    ·(refine' ay.auto (.tup [.p (pI ((0 : Nat) : Int)), .p (pB false)]) ([]) rfl rfl rfl rfl _ _ _ <;> refine' aj)
     exact ⟨0, _, by omega, rfl, rfl⟩
    ·(refine' ay.auto (.tup [.p (pI l[0]), .p (pB true)]) ([]) rfl rfl rfl rfl _ _ _ <;> refine' aj)
     exact ⟨q, true, by rw [hq] at h0; omega, by rw [hq], rfl⟩
theorem z3971 {P : Prop} (h : P := by
 ((first | apply aB.plain | refine' gC | refine' gpI | refine' gpB | refine' gpS | refine' bh | refine' bj | refine' mb | refine' gE | (apply ax.quiet (by kernel_rfl) (by kernel_rfl); (conv => whnf); fail_if_success (show False))) <;> (conv => whnf)) <;> (solve_by_elim (newGoals := .nonDependentOnly) -symm -exfalso (transparency := .reducible) only [rfl, aC])) : P := h
theorem td (nl : Bool) (ns : List Nd) (h : FV ns) (k : Nat) (hk : k < ns.length) : ao Tryz.prog 141 [.p (.agg [.list nl (ns.map Nd.pv)]), .p (pI k)] [] fun r H => r = .p (pI 0) /\ H = [] := by
 refine aa Tryz.func141 rfl rfl au rfl ?_
 (conv => whnf); repeat' ((first | refine' z3971 | (refine ab.scalar (cb nl ns h) ?_)) <;> (conv => whnf))
 (refine ay.p ?_ <;> refine' aj; all_goals try first | refine Et ?_ | refine Dq ?_)
theorem tL (nl : Bool) (xs : List Int) (h : xs.length <= 100000) : ao Tryz.prog 104 [.p (.list nl (xs.map pI))] [] fun r H => ∃ nb, r = .p (.list nb (xs.map pI)) /\ H = [some (.frz nb (xs.map pI))] :=
 (ml nl xs h).frz [0] fun r H' ⟨nb, hr, hH⟩ => ⟨nb, by subst hr; subst hH; rfl, by subst hH; rfl⟩
def LkV (n : Nat) (k : Nat) (l : List Lk) : Prop := l.length <= 5 /\ ∀ x ∈ l, x.node = k /\ 0 <= x.uD /\ x.uD < n
theorem zc253 {P : Prop} (h : P := by
 ((first | apply aB.plain | refine' gC | refine' gpI | refine' gpB | refine' gpS | refine' bh | refine' bj | refine' mb | refine' gE | fail) <;> (conv => whnf)) <;> (solve_by_elim (newGoals := .nonDependentOnly) -symm -exfalso (transparency := .reducible) only [rfl, aC])) : P := h
theorem za37d {P : Prop} (h : P := by
 ((first | refine' gC | refine' gpI | refine' gpB | refine' gpS | refine' bh | refine' bj | refine' mb | refine' gE | fail) <;> (conv => whnf)) <;> (solve_by_elim (newGoals := .nonDependentOnly) -symm -exfalso (transparency := .reducible) only [rfl, aC])) : P := h
theorem yc253 {P : Prop} (h : P := by
 ((conv => whnf); repeat' ((first | apply aB.plain | refine' gC | refine' gpI | refine' gpB | refine' gpS | refine' bh | refine' bj | refine' mb | refine' gE | fail) <;> (conv => whnf))) <;> (solve_by_elim (newGoals := .nonDependentOnly) -symm -exfalso (transparency := .reducible) only [rfl, aC])) : P := h
theorem s6 (nl : Bool) (ns : List Nd) (h : FV ns) (t c : ByteArray) (k : Nat) (hk : k < ns.length) : ao Tryz.prog 142 [.p (.agg [.list nl (ns.map Nd.pv)]), .p (pI k), .p (pS t), .p (pS c)] [] fun r H => ∃ (nb : Bool) (l : List Lk) (e : Int), LkV ns.length k l /\ r = .tup [.p (.list nb (l.map Lk.pv)), .p (pI e)] /\ H = [] := by
 refine aa Tryz.func142 rfl rfl au rfl ?_
 have h1 := h.l1
 have h8 := h.l8
 refine' y3971
 refine ab.loc [] [] rfl rfl ((dD nl ns h t k hk).mono ?_)
 rintro _ _ ⟨v, b, hv, rfl, rfl⟩
 have hs := hv.size (h.fG hk)
 refine' y3971
 ·(refine' ay.auto (.tup [.p (.list true []), .p (pI 0)]) ([]) rfl rfl rfl rfl _ _ _ <;> refine' aj)
  exact ⟨true, [], 0, ⟨by simp, by simp⟩, rfl, rfl⟩
 refine ab.loc [] [] rfl rfl ((fe v hs).mono ?_)
 rintro _ _ ⟨nb, l, ok, hl, hl5, rfl, rfl⟩
 cases ok with
 | false =>
  refine' y3971
  (refine' ay.auto (.tup [.p (.list true []), .p (pI 26)]) ([]) rfl rfl rfl rfl _ _ _ <;> refine' aj)
  exact ⟨true, [], 26, ⟨by simp, by simp⟩, rfl, rfl⟩
 | true =>
  refine' y3971
  refine ai (fun (⟨q, out, nb2⟩ : List Int × List Lk × Bool) => ⟨[(1, .p (pI k)), (2, .p (pS t)), (3, .p (pS c)), (4, .ptr 0 0), (12, .p (.list nb (q.map pI))), (14, .buf 1)], [some (.cells [.p (.list nl (ns.map Nd.pv))]), some (AO.buf 167 nb2 (out.map Lk.pv))]⟩) (fun ⟨q, out, nb2⟩ => (∀ x ∈ q, 0 <= x /\ x < 4294967296) /\ out.length + q.length <= 5 /\ ∀ x ∈ out, x.node = k /\ 0 <= x.uD /\ x.uD < ns.length) (fun ⟨q, out, nb2⟩ => q.length) (l, [], true) ?_ ?_ ?_; (refine aq.kM (167, 14) rfl rfl rfl rfl rfl ?_ ?_ <;> refine' aj)
  ·exact ⟨hl, by show 0 + l.length <= 5; omega, by simp⟩
  clear hl hl5
  rintro ⟨q, out, nb2⟩ ⟨hq, hql, ho⟩
  try simp only at hq hql ho
  rcases Nat.eq_zero_or_pos q.length with h0 | hpos
  ·refine' y3971
   (refine ay.frz _ _ _ [1] ?_; refine' ay.auto (.tup [.p (.list nb2 (out.map Lk.pv)), .p (pI 0)]) ([]) rfl rfl rfl rfl _ _ _ <;> refine' aj)
   exact ⟨nb2, out, 0, ⟨by omega, ho⟩, rfl, rfl⟩
  ·have ha := hq _ (List.getElem_mem (l := q) (n := 0) hpos)
   have hq' : ∀ x ∈ q.drop 1, 0 <= x /\ x < 4294967296 := fun x hx => hq x (List.mem_of_mem_drop hx)
   have hd1 : (q.drop 1).length = q.length - 1 := List.length_drop
   refine' yc253
   apply ax.lin lo9 (by kernel_rfl) (by decide +kernel)
   (conv => whnf); repeat' ((first | (apply PdC.same; · with_reducible rfl) | apply PdC.chk | apply PdA.mk | (apply EqA.mk; rfl) | (apply LzA.mk; · ((conv => whnf); repeat' ((first | (apply EqA.mk; rfl) | (apply And.intro; omega) | ((first | apply NW.as | apply fA.as); with_reducible assumption) | ((first | apply NW.i64 | apply NW.u32 | apply NW.u64 | apply NW.u8 | apply aX.hi | apply aX.lo); omega) | (apply SzA.map; (intro _; rfl)) | refine' za37d | fail) <;> (conv => whnf)))) | refine' zc253 | (fail "DrawA.lin")) <;> (conv => whnf))
   refine ab.loc [] [] rfl rfl ((sh nl ns h _ ha).mono ?_)
   rintro _ _ ⟨pr, b2, hpr, rfl, rfl⟩
   (conv => whnf); repeat' ((first | (apply PdC.same; · with_reducible rfl) | apply PdC.chk | apply PdA.mk | (apply EqA.mk; rfl) | (apply LzA.mk; · ((conv => whnf); repeat' ((first | (apply EqA.mk; rfl) | (apply And.intro; omega) | ((first | apply NW.as | apply fA.as); with_reducible assumption) | ((first | apply NW.i64 | apply NW.u32 | apply NW.u64 | apply NW.u8 | apply aX.hi | apply aX.lo); omega) | (apply SzA.map; (intro _; rfl)) | refine' za37d | fail) <;> (conv => whnf)))) | refine' zc253 | (fail "DrawA.lin")) <;> (conv => whnf))
   ·(refine' ay.auto (.tup [.p (.list true []), .p (pI 25)]) ([]) rfl rfl rfl rfl _ _ _ <;> refine' aj)
    exact ⟨true, [], 25, ⟨by simp, by simp⟩, rfl, rfl⟩
   refine ab.loc [] [] rfl rfl ((oU nl ns h c pr hpr).mono ?_)
   rintro _ _ ⟨n, b3, hn, rfl, rfl⟩
   refine' yc253
   ·(refine' ay.auto (.tup [.p (.list true []), .p (pI 26)]) ([]) rfl rfl rfl rfl _ _ _ <;> refine' aj)
    exact ⟨true, [], 26, ⟨by simp, by simp⟩, rfl, rfl⟩
   ·(refine' ay.auto (.tup [.p (.list true []), .p (pI 26)]) ([]) rfl rfl rfl rfl _ _ _ <;> refine' aj)
    exact ⟨true, [], 26, ⟨by simp, by simp⟩, rfl, rfl⟩
   refine ab.loc [] [] rfl rfl ((tL nb _ (by simp only [List.length_drop, List.length_take]; omega)).mono ?_)
   rintro _ _ ⟨nb4, rfl, rfl⟩
   (conv => whnf); repeat' ((first | (refine IsL.lit (f := Lk.pv) [⟨k, pr, t, _, nb4, _⟩] rfl ?_) | refine' zc253 | fail) <;> (conv => whnf))
   (refine' ⟨((q.drop 1).drop n, out ++ [⟨k, pr, t, out.length, nb4, (q.drop 1).take n⟩], false), _, _, _⟩; rotate_right; (refine aq.auto rfl rfl rfl rfl ?_ ?_ <;> refine' aj); rotate_right; exact aw)
   refine ⟨fun x hx => hq' x (List.mem_of_mem_drop hx), ?_, fun x hx => ?_⟩
   ·simp only [List.length_append, List.length_cons, List.length_nil, List.length_drop]
    omega
   ·rcases List.mem_append.1 hx with h1 | h1
    ·exact ho x h1
    ·simp at h1
     subst h1
     exact ⟨rfl, by show (0 : Int) <= pr; omega, by show (pr : Int) < _; omega⟩
theorem zO (nl : Bool) (ns : List Nd) (h : FV ns) (t c : ByteArray) (k : Nat) (hk : k < ns.length) : ao Tryz.prog 91 [.p (.agg [.list nl (ns.map Nd.pv)]), .p (pI k), .p (pS t), .p (pS c)] [] fun r H => ∃ (nb : Bool) (l : List Lk) (e : Int), LkV ns.length k l /\ r = .tup [.p (.list nb (l.map Lk.pv)), .p (pI e)] /\ H = [] := by
 refine aa Tryz.func91 rfl rfl au rfl ?_
 (conv => whnf); repeat' ((first | refine' z3971 | (refine ab.scalar (td nl ns h k hk) ?_)) <;> (conv => whnf))
 refine ab.loc [] [] rfl rfl ((s6 nl ns h t c k hk).mono ?_)
 rintro _ _ ⟨nb, l, e, hl, rfl, rfl⟩
 refine' y3971
 (refine' ay.auto (.tup [.p (.list nb (l.map Lk.pv)), .p (pI e)]) ([]) rfl rfl rfl rfl _ _ _ <;> refine' aj)
 exact ⟨nb, l, e, hl, rfl, rfl⟩
def jF (i : Int) (l : List Lk) : Nat := (l.filter fun x => decide (x.node = i)).length
structure LkA (n : Nat) (l : List Lk) : Prop where
 rng : ∀ x ∈ l, 0 <= x.node /\ x.node < n /\ 0 <= x.uD /\ x.uD < n
 cnt : ∀ i : Int, jF i l <= 5
theorem cM (nl : Bool) (ns : List Nd) (h : FV ns) (t c : ByteArray) : ao Tryz.prog 134 [.p (.agg [.list nl (ns.map Nd.pv)]), .p (pS t), .p (pS c)] [] fun r H => ∃ (nb : Bool) (l : List Lk) (e : Int), LkA ns.length l /\ l.length <= 40 /\ r = .tup [.p (.list nb (l.map Lk.pv)), .p (pI e)] /\ H = [] := by
 refine aa Tryz.func134 rfl rfl au rfl ?_
 have h8 := h.l8
 (conv => whnf); repeat' ((first | refine' z3971 | (refine ab.scalar (cb nl ns h) ?_)) <;> (conv => whnf))
 refine ai (fun (⟨k, out, nb⟩ : Nat × List Lk × Bool) => ⟨[(1, .p (pS t)), (2, .p (pS c)), (3, .ptr 0 0), (9, .buf 1), (20, .p (pI ns.length)), (21, .p (pI k))], [some (.cells [.p (.list nl (ns.map Nd.pv))]), some (AO.buf 167 nb (out.map Lk.pv))]⟩) (fun ⟨k, out, nb⟩ => k <= ns.length /\ LkA ns.length out /\ out.length <= 5 * k /\ ∀ x ∈ out, x.node < k) (fun ⟨k, out, nb⟩ => ns.length - k) (0, [], true) ?_ ?_ ?_; (refine aq.kM (167, 9) rfl rfl rfl rfl rfl ?_ ?_ <;> refine' aj)
 ·exact ⟨by omega, ⟨by simp, by simp [jF]⟩, by simp, by simp⟩
 rintro ⟨k, out, nb⟩ ⟨hk, ho, hol, hon⟩
 try simp only at hk ho hol hon
 rcases Nat.lt_or_ge k ns.length with hlt | hge
 ·refine' y3971
  refine ab.loc [] [] rfl rfl ((s6 nl ns h t c k hlt).mono ?_)
  rintro _ _ ⟨n2, l, e, ⟨hl5, hl⟩, rfl, rfl⟩
  refine' y3971
  ·(refine' ay.auto (.tup [.p (.list true []), .p (pI e)]) ([]) rfl rfl rfl rfl _ _ _ <;> refine' aj)
   exact ⟨true, [], e, ⟨by simp, by simp [jF]⟩, by simp, rfl, rfl⟩
  ·(refine' ⟨(k + 1, out ++ l, _), _, _, _⟩; rotate_right; (refine aq.auto rfl rfl rfl rfl ?_ ?_ <;> refine' aj); rotate_right; exact aw)
   refine ⟨by omega, ⟨fun x hx => ?_, fun i => ?_⟩, by simp only [List.length_append]; omega, fun x hx => ?_⟩
   ·rcases List.mem_append.1 hx with h1 | h1
    ·exact ho.rng x h1
    ·have := hl x h1
     omega
   ·unfold jF
    rw [List.filter_append, List.length_append]
    by_cases hi : i = k
    ·have : out.filter (fun x => decide (x.node = i)) = [] := List.filter_eq_nil_iff.2 fun x hx => by
      have := hon x hx
      simp
      omega
     rw [this]
     have := List.length_filter_le (fun x : Lk => decide (x.node = i)) l
     simp
     omega
    ·have : l.filter (fun x => decide (x.node = i)) = [] := List.filter_eq_nil_iff.2 fun x hx => by
      have := (hl x hx).1
      simp
      omega
     rw [this]
     exact ho.cnt i
   ·rcases List.mem_append.1 hx with h1 | h1
    ·have := hon x h1
     omega
    ·have := hl x h1
     omega
 ·refine' y3971
  (refine ay.frz _ _ _ [1] ?_; refine' ay.auto (.tup [.p (.list nb (out.map Lk.pv)), .p (pI 0)]) ([]) rfl rfl rfl rfl _ _ _ <;> refine' aj)
  exact ⟨nb, out, 0, ho, by omega, rfl, rfl⟩
end Go.Proofs.YtaocnijlcgohnaaGreatDoor
namespace Go.Abs
theorem Rd.BH {P : Program} {H H' : AH} {m m' : Nat -> Value} {S : Nat -> Prop} {w : World} {x : PV} {v : Value} (h : Rd P H m S w (.p x) v) : Rd P H' m' S w (.p x) v := by
 cases h with
 | p _ _ h => exact .p _ _ h
theorem ao.rows {P : Program} {f : FuncId} {args : List AV} {K K' : AV -> AH -> Prop} (h : ao P f args [] K)
  (hk : ∀ r H', K r H' -> (H' = [] /\ K' r []) \/ ∃ (ids : List Nat) (g sz : Nat) (xs : List PV) (y : PV), r = .tup [.sub g 0 xs.length, .p y] /\ live (jq (aP H' ids) [g]) g (.cells ((flat xs).map AV.p)) /\ (∀ x ∈ xs, x.cells.length = sz) /\ K' (.tup [.p (.list false xs), .p y]) []) :
  ao P f args [] K' :=
 ⟨h.enter, fun m S w vals hp hl hr => (h.calls m S w vals hp hl hr).mono fun e w' ⟨v, r, H', m', S', he, hK, hs, hrd⟩ => by
  rcases hk r H' hK with ⟨rfl, h1⟩ | ⟨ids, g, sz, xs, y, rfl, h2, h3, h4⟩
  ·exact ⟨v, r, [], m', S', he, h1, hs, hrd⟩
  ·obtain ⟨S1, hst⟩ := Stp.aP (P := P) (m := m') (w := w') ids H' S' hs.hp
   have hst2 := Stp.jq (P := P) (m := m') (S := S1) (w := w') [g] _ hst.hp
   obtain ⟨S3, hst3, hrd3⟩ := Stp.qM hst2.hp h2 h3
   have hall := hst.trans (hst2.trans hst3)
   have hrd' := (hrd.mono hst.keeps hst.sub hst.old).mono hst2.keeps hst2.sub hst2.old
   have hsub := (hs.trans hall).BZ (H' := []) (ρ := ρf 0 []) (qN (l := []) rfl trivial rfl rfl)
   refine ⟨v, _, [], _, S3, he, h4, hsub, ?_⟩
   cases hrd' with
   | tup _ vs hl2 hrr =>
    refine .tup _ vs hl2 fun k c hk => ?_
    match k, hk with
    | 0, hk =>
     injection hk with hk
     subst hk
     exact (hrd3 _ (hrr 0 _ rfl)).BH
    | 1, hk =>
     injection hk with hk
     subst hk
     exact ((hrr 1 _ rfl).mono hst3.keeps hst3.sub hst3.old).BH
    | k + 2, hk => simp at hk⟩
end Go.Abs
namespace Go.Proofs.YtaocnijlcgohnaaGreatDoor
open Go.Abs
set_option maxRecDepth 100000
def gr8 : Ln := (.lazy 0 (.lazy 1 (.lazy 2 (.lazy 3 (.lazy 4 (.lazy 5 (.lazy 6 (.lazy 7 (.lazy 8 (.lazy 9 (.lazy 10 (.one 11 (.lazy 12 (.one 13 .done))))))))))))))
def upB (i : Nat) (b : Bool) (f : Nat -> Bool) (j : Nat) : Bool := match Nat.beq j i with
 | true => b
 | false => f j
def upL (i : Nat) (l : List Int) (f : Nat -> List Int) (j : Nat) : List Int := match Nat.beq j i with
 | true => l
 | false => f j
theorem ah {Q : List Int -> Prop} {i : Nat} {l : List Int} {f : Nat -> List Int} (hl : Q l) (h : ∀ j, Q (f j)) (j : Nat) : Q (upL i l f j) := by
 unfold upL
 split
 ·exact hl
 ·exact h j
theorem dK {l : List Lk} {c : Nat} {x : Lk} (h : l[c]? = some x) (rw_ : Nat -> List Int) {n : Nat} (i : Nat) (hi : x.node = i) (y : Int) (hr : ∀ j : Nat, (rw_ j).length + jF j (l.drop c) <= n) : ∀ j : Nat, (upL i (rw_ i ++ [y]) rw_ j).length + jF j (l.drop (c + 1)) <= n := by
 intro j
 have h0 := hr j
 have hc : c < l.length := (List.getElem?_eq_some_iff.1 h).1
 have hx : l[c] = x := (List.getElem?_eq_some_iff.1 h).2
 rw [List.drop_eq_getElem_cons hc, hx] at h0
 unfold jF at h0 ⊢
 rw [List.filter_cons] at h0
 unfold upL
 split
 ·rename_i hb
  have hb := Nat.eq_of_beq_eq_true hb
  subst hb
  rw [if_pos (by simp [hi])] at h0
  simp at h0 ⊢
  omega
 ·split at h0
  ·simp at h0 ⊢
   omega
  ·exact h0
abbrev NL := Bool × List Int
def fI (p : NL) : PV := .list p.1 (p.2.map pI)
set_option maxHeartbeats 40000000 in
theorem tt (nl : Bool) (ns : List Nd) (h : FV ns) (hn : ns.length = 1) (t c : ByteArray) : ao Tryz.prog 86 [.p (.agg [.list nl (ns.map Nd.pv)]), .p (pS t), .p (pS c)] [] fun r H => (∃ e : Int, e ≠ 0 /\ r = .tup [.p (.list true []), .p (pI e)] /\ H = []) \/ ∃ (fl : Nat -> Bool) (rw_ : Nat -> List Int), (∀ j, InR 1 (rw_ j)) /\ r = .tup [.sub 0 0 1, .p (pI 0)] /\ H = [some (.cells [.buf 1]), some (AO.buf 3 (fl 0) ((rw_ 0).map pI))] := by
 refine aa Tryz.func86 rfl rfl au rfl ?_
 refine' y3971
 refine ab.loc [] [] rfl rfl ((cM nl ns h t c).mono ?_)
 rintro _ _ ⟨nb, l, e, ⟨hrg, hcn⟩, hl40, rfl, rfl⟩
 rw [hn] at hrg
 refine' y3971
 ·(refine' ay.auto (.tup [.p (.list true []), .p (pI e)]) ([]) rfl rfl rfl rfl _ _ _ <;> refine' aj)
  exact .inl ⟨e, by assumption, rfl, rfl⟩
 refine IsL.mk [.list true []] (by rw [hn]; rfl) ?_
 refine' y3971
 refine' ai (fun (⟨c, fl, rw_⟩ : Nat × (Nat -> Bool) × (Nat -> List Int)) => ⟨[(10, .sub 0 0 1), (28, .p (.list nb (l.map Lk.pv))), (29, .p (pI l.length)), (30, .p (pI c))], [some (.cells [.buf 1]), some (AO.buf 3 (fl 0) ((rw_ 0).map pI))]⟩) (fun ⟨c, fl, rw_⟩ => c <= l.length /\ (∀ j, InR 1 (rw_ j)) /\ (∀ j : Nat, (rw_ j).length + jF j (l.drop c) <= 5)) (fun ⟨c, fl, rw_⟩ => l.length - c) (0, fun _ => true, fun _ => []) _ _ _; rotate_right; rotate_right; rotate_right; (refine aq.qU _ 10 1 _ _ _ rfl rfl (by simp) ?_; refine aq.cell _ 2 0 3 _ _ _ _ _ rfl rfl rfl ?_; show aq _ _ _ ⟨_, [_, _, some (AO.cells [.buf 3]), some (AO.buf 3 true [])]⟩; refine aq.of [2, 3] rfl ?_ ?_ rfl rfl <;> refine' aj)
 ·exact ⟨by omega, fun _ => by simp [InR], fun j => by have := hcn j; simpa using this⟩
 rintro ⟨c, fl, rw_⟩ ⟨hc, hir, hct⟩
 try simp only at hc hir hct
 rcases Nat.lt_or_ge c l.length with hlt | hge
 ·obtain ⟨x, hx⟩ : ∃ x, l[c]? = some x := ⟨l[c], List.getElem?_eq_getElem hlt⟩
  obtain ⟨r1, r2, r3, r4⟩ := hrg x (List.mem_of_getElem? hx)
  have hx2 : (l.map Lk.pv)[((c : Int)).toNat]? = some (Lk.pv x) := by rw [Int.toNat_natCast, List.getElem?_map, hx]; rfl
  obtain ⟨nd, pv, pp, ix, an, ar⟩ := x
  simp only at r1 r2 r3 r4
  have hcs : nd = 0 := by omega
  have hct2 : ∀ i : Nat, nd = i -> _ := fun i hi => dK hx rw_ i hi pv hct
  have hir2 : ∀ i : Nat, InR 1 (rw_ i ++ [pv]) := fun i y hy => (List.mem_append.1 hy).elim (hir i y) fun hy => by simp at hy; subst hy; exact ⟨r3, r4⟩
  have hrl : ∀ j : Nat, (rw_ j).length <= 5 := fun j => by have := hct j; omega
  clear hx r1 r2 hct
  have hb0 := hrl 0
  rcases hcs with rfl
  all_goals (conv => whnf); repeat' ((first | (apply PdC.same; · with_reducible rfl) | apply PdC.chk | apply PdA.mk | (apply EqA.mk; rfl) | (apply LzA.mk; · ((conv => whnf); repeat' ((first | (apply EqA.mk; rfl) | (refine bO.mk _ (by omega) hx2 ?_) | refine' za37d | fail) <;> (conv => whnf)))) | (refine bO.mk _ (by omega) hx2 ?_) | refine' zc253 | (apply ax.lin gr8 (by kernel_rfl) (by decide +kernel))) <;> (conv => whnf))
  ·(refine' ⟨(c + 1, upB 0 false fl, upL 0 (rw_ 0 ++ [pv]) rw_), _, _, _⟩; rotate_right; (refine aq.of [0, 3] rfl ?_ ?_ rfl rfl <;> refine' aj); rotate_right; exact aw)
   exact ⟨by omega, ah (hir2 0) hir, hct2 0 rfl⟩
 have hl5 : ∀ j : Nat, (rw_ j).length <= 5 := fun j => by have := hct j; omega
 clear hct
 refine' y3971
 refine ai (fun (⟨k, fl, rw_⟩ : Nat × (Nat -> Bool) × (Nat -> List Int)) => ⟨[(10, .sub 0 0 1), (49, .p (pI 1)), (50, .p (pI k))], [some (.cells [.buf 1]), some (AO.buf 3 (fl 0) ((rw_ 0).map pI))]⟩) (fun ⟨k, fl, rw_⟩ => k <= 1 /\ (∀ j, InR 1 (rw_ j)) /\ (∀ j : Nat, (rw_ j).length <= 5)) (fun ⟨k, fl, rw_⟩ => 1 - k) (0, fl, rw_) ?_ ?_ ?_; (refine aq.of [0, 1] rfl ?_ ?_ rfl rfl <;> refine' aj)
 ·exact ⟨by omega, hir, hl5⟩
 clear hir hl5
 rintro ⟨k, fl, rw_⟩ ⟨hk, hir, hl5⟩
 try simp only at hk hir hl5
 rcases Nat.lt_or_ge k 1 with hlt | hge
 ·have hcs : k = 0 := by omega
  rcases hcs with rfl
  ·refine' yc253
   refine ab.loc [1] [] rfl rfl ((aF (fl 0) (rw_ 0) 1 (hir 0) (by have := hl5 0; omega)).mono ?_)
   rintro _ _ ⟨ys, h1, h2, rfl, rfl⟩
   have h3 := hl5 0
   refine' yc253
   refine ab.loc [1] [] rfl rfl ((aA (fl 0) ys 1 (by omega) h2 (by omega)).mono ?_)
   rintro _ _ ⟨zs, nc, h4, h5, ⟨rfl, rfl⟩ | ⟨rfl, rfl⟩⟩
   ·refine' yc253
    (refine' ⟨(0 + 1, upB 0 nc fl, upL 0 zs rw_), _, _, _⟩; rotate_right; (refine aq.of [0, 1] rfl ?_ ?_ rfl rfl <;> refine' aj); rotate_right; exact aw)
    exact ⟨by omega, ah h5 hir, ah (Q := fun l => l.length <= 5) (by omega) hl5⟩
   ·refine' yc253
    (refine' ⟨(0 + 1, upB 0 nc fl, upL 0 zs rw_), _, _, _⟩; rotate_right; (refine aq.of [0, 2] rfl ?_ ?_ rfl rfl <;> refine' aj); rotate_right; exact aw)
    exact ⟨by omega, ah h5 hir, ah (Q := fun l => l.length <= 5) (by omega) hl5⟩
 ·refine' y3971
  (refine' ay.mk _ _ _ [0, 1] (.tup [.sub 0 0 1, .p (pI 0)]) ([some (.cells [.buf 1]), some (AO.buf 3 (fl 0) ((rw_ 0).map pI))]) rfl rfl _ rfl rfl _ <;> refine' aj)
  exact .inr ⟨fl, rw_, hir, rfl, rfl⟩
set_option maxHeartbeats 40000000 in
theorem tr (nl : Bool) (ns : List Nd) (h : FV ns) (hn : ns.length = 2) (t c : ByteArray) : ao Tryz.prog 86 [.p (.agg [.list nl (ns.map Nd.pv)]), .p (pS t), .p (pS c)] [] fun r H => (∃ e : Int, e ≠ 0 /\ r = .tup [.p (.list true []), .p (pI e)] /\ H = []) \/ ∃ (fl : Nat -> Bool) (rw_ : Nat -> List Int), (∀ j, InR 2 (rw_ j)) /\ r = .tup [.sub 0 0 2, .p (pI 0)] /\ H = [some (.cells [.buf 1, .buf 2]), some (AO.buf 3 (fl 0) ((rw_ 0).map pI)), some (AO.buf 3 (fl 1) ((rw_ 1).map pI))] := by
 refine aa Tryz.func86 rfl rfl au rfl ?_
 refine' y3971
 refine ab.loc [] [] rfl rfl ((cM nl ns h t c).mono ?_)
 rintro _ _ ⟨nb, l, e, ⟨hrg, hcn⟩, hl40, rfl, rfl⟩
 rw [hn] at hrg
 refine' y3971
 ·(refine' ay.auto (.tup [.p (.list true []), .p (pI e)]) ([]) rfl rfl rfl rfl _ _ _ <;> refine' aj)
  exact .inl ⟨e, by assumption, rfl, rfl⟩
 refine IsL.mk [.list true [], .list true []] (by rw [hn]; rfl) ?_
 refine' y3971
 refine' ai (fun (⟨c, fl, rw_⟩ : Nat × (Nat -> Bool) × (Nat -> List Int)) => ⟨[(10, .sub 0 0 2), (28, .p (.list nb (l.map Lk.pv))), (29, .p (pI l.length)), (30, .p (pI c))], [some (.cells [.buf 1, .buf 2]), some (AO.buf 3 (fl 0) ((rw_ 0).map pI)), some (AO.buf 3 (fl 1) ((rw_ 1).map pI))]⟩) (fun ⟨c, fl, rw_⟩ => c <= l.length /\ (∀ j, InR 2 (rw_ j)) /\ (∀ j : Nat, (rw_ j).length + jF j (l.drop c) <= 5)) (fun ⟨c, fl, rw_⟩ => l.length - c) (0, fun _ => true, fun _ => []) _ _ _; rotate_right; rotate_right; rotate_right; (refine aq.qU _ 10 1 _ _ _ rfl rfl (by simp) ?_; refine aq.cell _ 2 0 3 _ _ _ _ _ rfl rfl rfl ?_; show aq _ _ _ ⟨_, [_, _, some (AO.cells [.buf 3, .p (.list true [])]), some (AO.buf 3 true [])]⟩; refine aq.cell _ 2 1 3 _ _ _ _ _ rfl rfl rfl ?_; show aq _ _ _ ⟨_, [_, _, some (AO.cells [.buf 3, .buf 4]), some (AO.buf 3 true []), some (AO.buf 3 true [])]⟩; refine aq.of [2, 3, 4] rfl ?_ ?_ rfl rfl <;> refine' aj)
 ·exact ⟨by omega, fun _ => by simp [InR], fun j => by have := hcn j; simpa using this⟩
 rintro ⟨c, fl, rw_⟩ ⟨hc, hir, hct⟩
 try simp only at hc hir hct
 rcases Nat.lt_or_ge c l.length with hlt | hge
 ·obtain ⟨x, hx⟩ : ∃ x, l[c]? = some x := ⟨l[c], List.getElem?_eq_getElem hlt⟩
  obtain ⟨r1, r2, r3, r4⟩ := hrg x (List.mem_of_getElem? hx)
  have hx2 : (l.map Lk.pv)[((c : Int)).toNat]? = some (Lk.pv x) := by rw [Int.toNat_natCast, List.getElem?_map, hx]; rfl
  obtain ⟨nd, pv, pp, ix, an, ar⟩ := x
  simp only at r1 r2 r3 r4
  have hcs : nd = 0 \/ nd = 1 := by omega
  have hct2 : ∀ i : Nat, nd = i -> _ := fun i hi => dK hx rw_ i hi pv hct
  have hir2 : ∀ i : Nat, InR 2 (rw_ i ++ [pv]) := fun i y hy => (List.mem_append.1 hy).elim (hir i y) fun hy => by simp at hy; subst hy; exact ⟨r3, r4⟩
  have hrl : ∀ j : Nat, (rw_ j).length <= 5 := fun j => by have := hct j; omega
  clear hx r1 r2 hct
  have hb0 := hrl 0
  have hb1 := hrl 1
  rcases hcs with rfl | rfl
  all_goals (conv => whnf); repeat' ((first | (apply PdC.same; · with_reducible rfl) | apply PdC.chk | apply PdA.mk | (apply EqA.mk; rfl) | (apply LzA.mk; · ((conv => whnf); repeat' ((first | (apply EqA.mk; rfl) | (refine bO.mk _ (by omega) hx2 ?_) | refine' za37d | fail) <;> (conv => whnf)))) | (refine bO.mk _ (by omega) hx2 ?_) | refine' zc253 | (apply ax.lin gr8 (by kernel_rfl) (by decide +kernel))) <;> (conv => whnf))
  ·(refine' ⟨(c + 1, upB 0 false fl, upL 0 (rw_ 0 ++ [pv]) rw_), _, _, _⟩; rotate_right; (refine aq.of [0, 4, 2] rfl ?_ ?_ rfl rfl <;> refine' aj); rotate_right; exact aw)
   exact ⟨by omega, ah (hir2 0) hir, hct2 0 rfl⟩
  ·(refine' ⟨(c + 1, upB 1 false fl, upL 1 (rw_ 1 ++ [pv]) rw_), _, _, _⟩; rotate_right; (refine aq.of [0, 1, 4] rfl ?_ ?_ rfl rfl <;> refine' aj); rotate_right; exact aw)
   exact ⟨by omega, ah (hir2 1) hir, hct2 1 rfl⟩
 have hl5 : ∀ j : Nat, (rw_ j).length <= 5 := fun j => by have := hct j; omega
 clear hct
 refine' y3971
 refine ai (fun (⟨k, fl, rw_⟩ : Nat × (Nat -> Bool) × (Nat -> List Int)) => ⟨[(10, .sub 0 0 2), (49, .p (pI 2)), (50, .p (pI k))], [some (.cells [.buf 1, .buf 2]), some (AO.buf 3 (fl 0) ((rw_ 0).map pI)), some (AO.buf 3 (fl 1) ((rw_ 1).map pI))]⟩) (fun ⟨k, fl, rw_⟩ => k <= 2 /\ (∀ j, InR 2 (rw_ j)) /\ (∀ j : Nat, (rw_ j).length <= 5)) (fun ⟨k, fl, rw_⟩ => 2 - k) (0, fl, rw_) ?_ ?_ ?_; (refine aq.of [0, 1, 2] rfl ?_ ?_ rfl rfl <;> refine' aj)
 ·exact ⟨by omega, hir, hl5⟩
 clear hir hl5
 rintro ⟨k, fl, rw_⟩ ⟨hk, hir, hl5⟩
 try simp only at hk hir hl5
 rcases Nat.lt_or_ge k 2 with hlt | hge
 ·have hcs : k = 0 \/ k = 1 := by omega
  rcases hcs with rfl | rfl
  ·refine' yc253
   refine ab.loc [1] [] rfl rfl ((aF (fl 0) (rw_ 0) 2 (hir 0) (by have := hl5 0; omega)).mono ?_)
   rintro _ _ ⟨ys, h1, h2, rfl, rfl⟩
   have h3 := hl5 0
   refine' yc253
   refine ab.loc [1] [] rfl rfl ((aA (fl 0) ys 2 (by omega) h2 (by omega)).mono ?_)
   rintro _ _ ⟨zs, nc, h4, h5, ⟨rfl, rfl⟩ | ⟨rfl, rfl⟩⟩
   ·refine' yc253
    (refine' ⟨(0 + 1, upB 0 nc fl, upL 0 zs rw_), _, _, _⟩; rotate_right; (refine aq.of [0, 1, 2] rfl ?_ ?_ rfl rfl <;> refine' aj); rotate_right; exact aw)
    exact ⟨by omega, ah h5 hir, ah (Q := fun l => l.length <= 5) (by omega) hl5⟩
   ·refine' yc253
    (refine' ⟨(0 + 1, upB 0 nc fl, upL 0 zs rw_), _, _, _⟩; rotate_right; (refine aq.of [0, 3, 2] rfl ?_ ?_ rfl rfl <;> refine' aj); rotate_right; exact aw)
    exact ⟨by omega, ah h5 hir, ah (Q := fun l => l.length <= 5) (by omega) hl5⟩
  ·refine' yc253
   refine ab.loc [2] [] rfl rfl ((aF (fl 1) (rw_ 1) 2 (hir 1) (by have := hl5 1; omega)).mono ?_)
   rintro _ _ ⟨ys, h1, h2, rfl, rfl⟩
   have h3 := hl5 1
   refine' yc253
   refine ab.loc [2] [] rfl rfl ((aA (fl 1) ys 2 (by omega) h2 (by omega)).mono ?_)
   rintro _ _ ⟨zs, nc, h4, h5, ⟨rfl, rfl⟩ | ⟨rfl, rfl⟩⟩
   ·refine' yc253
    (refine' ⟨(1 + 1, upB 1 nc fl, upL 1 zs rw_), _, _, _⟩; rotate_right; (refine aq.of [0, 1, 2] rfl ?_ ?_ rfl rfl <;> refine' aj); rotate_right; exact aw)
    exact ⟨by omega, ah h5 hir, ah (Q := fun l => l.length <= 5) (by omega) hl5⟩
   ·refine' yc253
    (refine' ⟨(1 + 1, upB 1 nc fl, upL 1 zs rw_), _, _, _⟩; rotate_right; (refine aq.of [0, 1, 3] rfl ?_ ?_ rfl rfl <;> refine' aj); rotate_right; exact aw)
    exact ⟨by omega, ah h5 hir, ah (Q := fun l => l.length <= 5) (by omega) hl5⟩
 ·refine' y3971
  (refine' ay.mk _ _ _ [0, 1, 2] (.tup [.sub 0 0 2, .p (pI 0)]) ([some (.cells [.buf 1, .buf 2]), some (AO.buf 3 (fl 0) ((rw_ 0).map pI)), some (AO.buf 3 (fl 1) ((rw_ 1).map pI))]) rfl rfl _ rfl rfl _ <;> refine' aj)
  exact .inr ⟨fl, rw_, hir, rfl, rfl⟩
set_option maxHeartbeats 40000000 in
theorem tq (nl : Bool) (ns : List Nd) (h : FV ns) (hn : ns.length = 3) (t c : ByteArray) : ao Tryz.prog 86 [.p (.agg [.list nl (ns.map Nd.pv)]), .p (pS t), .p (pS c)] [] fun r H => (∃ e : Int, e ≠ 0 /\ r = .tup [.p (.list true []), .p (pI e)] /\ H = []) \/ ∃ (fl : Nat -> Bool) (rw_ : Nat -> List Int), (∀ j, InR 3 (rw_ j)) /\ r = .tup [.sub 0 0 3, .p (pI 0)] /\ H = [some (.cells [.buf 1, .buf 2, .buf 3]), some (AO.buf 3 (fl 0) ((rw_ 0).map pI)), some (AO.buf 3 (fl 1) ((rw_ 1).map pI)), some (AO.buf 3 (fl 2) ((rw_ 2).map pI))] := by
 refine aa Tryz.func86 rfl rfl au rfl ?_
 refine' y3971
 refine ab.loc [] [] rfl rfl ((cM nl ns h t c).mono ?_)
 rintro _ _ ⟨nb, l, e, ⟨hrg, hcn⟩, hl40, rfl, rfl⟩
 rw [hn] at hrg
 refine' y3971
 ·(refine' ay.auto (.tup [.p (.list true []), .p (pI e)]) ([]) rfl rfl rfl rfl _ _ _ <;> refine' aj)
  exact .inl ⟨e, by assumption, rfl, rfl⟩
 refine IsL.mk [.list true [], .list true [], .list true []] (by rw [hn]; rfl) ?_
 refine' y3971
 refine' ai (fun (⟨c, fl, rw_⟩ : Nat × (Nat -> Bool) × (Nat -> List Int)) => ⟨[(10, .sub 0 0 3), (28, .p (.list nb (l.map Lk.pv))), (29, .p (pI l.length)), (30, .p (pI c))], [some (.cells [.buf 1, .buf 2, .buf 3]), some (AO.buf 3 (fl 0) ((rw_ 0).map pI)), some (AO.buf 3 (fl 1) ((rw_ 1).map pI)), some (AO.buf 3 (fl 2) ((rw_ 2).map pI))]⟩) (fun ⟨c, fl, rw_⟩ => c <= l.length /\ (∀ j, InR 3 (rw_ j)) /\ (∀ j : Nat, (rw_ j).length + jF j (l.drop c) <= 5)) (fun ⟨c, fl, rw_⟩ => l.length - c) (0, fun _ => true, fun _ => []) _ _ _; rotate_right; rotate_right; rotate_right; (refine aq.qU _ 10 1 _ _ _ rfl rfl (by simp) ?_; refine aq.cell _ 2 0 3 _ _ _ _ _ rfl rfl rfl ?_; show aq _ _ _ ⟨_, [_, _, some (AO.cells [.buf 3, .p (.list true []), .p (.list true [])]), some (AO.buf 3 true [])]⟩; refine aq.cell _ 2 1 3 _ _ _ _ _ rfl rfl rfl ?_; show aq _ _ _ ⟨_, [_, _, some (AO.cells [.buf 3, .buf 4, .p (.list true [])]), some (AO.buf 3 true []), some (AO.buf 3 true [])]⟩; refine aq.cell _ 2 2 3 _ _ _ _ _ rfl rfl rfl ?_; show aq _ _ _ ⟨_, [_, _, some (AO.cells [.buf 3, .buf 4, .buf 5]), some (AO.buf 3 true []), some (AO.buf 3 true []), some (AO.buf 3 true [])]⟩; refine aq.of [2, 3, 4, 5] rfl ?_ ?_ rfl rfl <;> refine' aj)
 ·exact ⟨by omega, fun _ => by simp [InR], fun j => by have := hcn j; simpa using this⟩
 rintro ⟨c, fl, rw_⟩ ⟨hc, hir, hct⟩
 try simp only at hc hir hct
 rcases Nat.lt_or_ge c l.length with hlt | hge
 ·obtain ⟨x, hx⟩ : ∃ x, l[c]? = some x := ⟨l[c], List.getElem?_eq_getElem hlt⟩
  obtain ⟨r1, r2, r3, r4⟩ := hrg x (List.mem_of_getElem? hx)
  have hx2 : (l.map Lk.pv)[((c : Int)).toNat]? = some (Lk.pv x) := by rw [Int.toNat_natCast, List.getElem?_map, hx]; rfl
  obtain ⟨nd, pv, pp, ix, an, ar⟩ := x
  simp only at r1 r2 r3 r4
  have hcs : nd = 0 \/ nd = 1 \/ nd = 2 := by omega
  have hct2 : ∀ i : Nat, nd = i -> _ := fun i hi => dK hx rw_ i hi pv hct
  have hir2 : ∀ i : Nat, InR 3 (rw_ i ++ [pv]) := fun i y hy => (List.mem_append.1 hy).elim (hir i y) fun hy => by simp at hy; subst hy; exact ⟨r3, r4⟩
  have hrl : ∀ j : Nat, (rw_ j).length <= 5 := fun j => by have := hct j; omega
  clear hx r1 r2 hct
  have hb0 := hrl 0
  have hb1 := hrl 1
  have hb2 := hrl 2
  rcases hcs with rfl | rfl | rfl
  all_goals (conv => whnf); repeat' ((first | (apply PdC.same; · with_reducible rfl) | apply PdC.chk | apply PdA.mk | (apply EqA.mk; rfl) | (apply LzA.mk; · ((conv => whnf); repeat' ((first | (apply EqA.mk; rfl) | (refine bO.mk _ (by omega) hx2 ?_) | refine' za37d | fail) <;> (conv => whnf)))) | (refine bO.mk _ (by omega) hx2 ?_) | refine' zc253 | (apply ax.lin gr8 (by kernel_rfl) (by decide +kernel))) <;> (conv => whnf))
  ·(refine' ⟨(c + 1, upB 0 false fl, upL 0 (rw_ 0 ++ [pv]) rw_), _, _, _⟩; rotate_right; (refine aq.of [0, 5, 2, 3] rfl ?_ ?_ rfl rfl <;> refine' aj); rotate_right; exact aw)
   exact ⟨by omega, ah (hir2 0) hir, hct2 0 rfl⟩
  ·(refine' ⟨(c + 1, upB 1 false fl, upL 1 (rw_ 1 ++ [pv]) rw_), _, _, _⟩; rotate_right; (refine aq.of [0, 1, 5, 3] rfl ?_ ?_ rfl rfl <;> refine' aj); rotate_right; exact aw)
   exact ⟨by omega, ah (hir2 1) hir, hct2 1 rfl⟩
  ·(refine' ⟨(c + 1, upB 2 false fl, upL 2 (rw_ 2 ++ [pv]) rw_), _, _, _⟩; rotate_right; (refine aq.of [0, 1, 2, 5] rfl ?_ ?_ rfl rfl <;> refine' aj); rotate_right; exact aw)
   exact ⟨by omega, ah (hir2 2) hir, hct2 2 rfl⟩
 have hl5 : ∀ j : Nat, (rw_ j).length <= 5 := fun j => by have := hct j; omega
 clear hct
 refine' y3971
 refine ai (fun (⟨k, fl, rw_⟩ : Nat × (Nat -> Bool) × (Nat -> List Int)) => ⟨[(10, .sub 0 0 3), (49, .p (pI 3)), (50, .p (pI k))], [some (.cells [.buf 1, .buf 2, .buf 3]), some (AO.buf 3 (fl 0) ((rw_ 0).map pI)), some (AO.buf 3 (fl 1) ((rw_ 1).map pI)), some (AO.buf 3 (fl 2) ((rw_ 2).map pI))]⟩) (fun ⟨k, fl, rw_⟩ => k <= 3 /\ (∀ j, InR 3 (rw_ j)) /\ (∀ j : Nat, (rw_ j).length <= 5)) (fun ⟨k, fl, rw_⟩ => 3 - k) (0, fl, rw_) ?_ ?_ ?_; (refine aq.of [0, 1, 2, 3] rfl ?_ ?_ rfl rfl <;> refine' aj)
 ·exact ⟨by omega, hir, hl5⟩
 clear hir hl5
 rintro ⟨k, fl, rw_⟩ ⟨hk, hir, hl5⟩
 try simp only at hk hir hl5
 rcases Nat.lt_or_ge k 3 with hlt | hge
 ·have hcs : k = 0 \/ k = 1 \/ k = 2 := by omega
  rcases hcs with rfl | rfl | rfl
  ·refine' yc253
   refine ab.loc [1] [] rfl rfl ((aF (fl 0) (rw_ 0) 3 (hir 0) (by have := hl5 0; omega)).mono ?_)
   rintro _ _ ⟨ys, h1, h2, rfl, rfl⟩
   have h3 := hl5 0
   refine' yc253
   refine ab.loc [1] [] rfl rfl ((aA (fl 0) ys 3 (by omega) h2 (by omega)).mono ?_)
   rintro _ _ ⟨zs, nc, h4, h5, ⟨rfl, rfl⟩ | ⟨rfl, rfl⟩⟩
   ·refine' yc253
    (refine' ⟨(0 + 1, upB 0 nc fl, upL 0 zs rw_), _, _, _⟩; rotate_right; (refine aq.of [0, 1, 2, 3] rfl ?_ ?_ rfl rfl <;> refine' aj); rotate_right; exact aw)
    exact ⟨by omega, ah h5 hir, ah (Q := fun l => l.length <= 5) (by omega) hl5⟩
   ·refine' yc253
    (refine' ⟨(0 + 1, upB 0 nc fl, upL 0 zs rw_), _, _, _⟩; rotate_right; (refine aq.of [0, 4, 2, 3] rfl ?_ ?_ rfl rfl <;> refine' aj); rotate_right; exact aw)
    exact ⟨by omega, ah h5 hir, ah (Q := fun l => l.length <= 5) (by omega) hl5⟩
  ·refine' yc253
   refine ab.loc [2] [] rfl rfl ((aF (fl 1) (rw_ 1) 3 (hir 1) (by have := hl5 1; omega)).mono ?_)
   rintro _ _ ⟨ys, h1, h2, rfl, rfl⟩
   have h3 := hl5 1
   refine' yc253
   refine ab.loc [2] [] rfl rfl ((aA (fl 1) ys 3 (by omega) h2 (by omega)).mono ?_)
   rintro _ _ ⟨zs, nc, h4, h5, ⟨rfl, rfl⟩ | ⟨rfl, rfl⟩⟩
   ·refine' yc253
    (refine' ⟨(1 + 1, upB 1 nc fl, upL 1 zs rw_), _, _, _⟩; rotate_right; (refine aq.of [0, 1, 2, 3] rfl ?_ ?_ rfl rfl <;> refine' aj); rotate_right; exact aw)
    exact ⟨by omega, ah h5 hir, ah (Q := fun l => l.length <= 5) (by omega) hl5⟩
   ·refine' yc253
    (refine' ⟨(1 + 1, upB 1 nc fl, upL 1 zs rw_), _, _, _⟩; rotate_right; (refine aq.of [0, 1, 4, 3] rfl ?_ ?_ rfl rfl <;> refine' aj); rotate_right; exact aw)
    exact ⟨by omega, ah h5 hir, ah (Q := fun l => l.length <= 5) (by omega) hl5⟩
  ·refine' yc253
   refine ab.loc [3] [] rfl rfl ((aF (fl 2) (rw_ 2) 3 (hir 2) (by have := hl5 2; omega)).mono ?_)
   rintro _ _ ⟨ys, h1, h2, rfl, rfl⟩
   have h3 := hl5 2
   refine' yc253
   refine ab.loc [3] [] rfl rfl ((aA (fl 2) ys 3 (by omega) h2 (by omega)).mono ?_)
   rintro _ _ ⟨zs, nc, h4, h5, ⟨rfl, rfl⟩ | ⟨rfl, rfl⟩⟩
   ·refine' yc253
    (refine' ⟨(2 + 1, upB 2 nc fl, upL 2 zs rw_), _, _, _⟩; rotate_right; (refine aq.of [0, 1, 2, 3] rfl ?_ ?_ rfl rfl <;> refine' aj); rotate_right; exact aw)
    exact ⟨by omega, ah h5 hir, ah (Q := fun l => l.length <= 5) (by omega) hl5⟩
   ·refine' yc253
    (refine' ⟨(2 + 1, upB 2 nc fl, upL 2 zs rw_), _, _, _⟩; rotate_right; (refine aq.of [0, 1, 2, 4] rfl ?_ ?_ rfl rfl <;> refine' aj); rotate_right; exact aw)
    exact ⟨by omega, ah h5 hir, ah (Q := fun l => l.length <= 5) (by omega) hl5⟩
 ·refine' y3971
  (refine' ay.mk _ _ _ [0, 1, 2, 3] (.tup [.sub 0 0 3, .p (pI 0)]) ([some (.cells [.buf 1, .buf 2, .buf 3]), some (AO.buf 3 (fl 0) ((rw_ 0).map pI)), some (AO.buf 3 (fl 1) ((rw_ 1).map pI)), some (AO.buf 3 (fl 2) ((rw_ 2).map pI))]) rfl rfl _ rfl rfl _ <;> refine' aj)
  exact .inr ⟨fl, rw_, hir, rfl, rfl⟩
set_option maxHeartbeats 40000000 in
theorem tp (nl : Bool) (ns : List Nd) (h : FV ns) (hn : ns.length = 4) (t c : ByteArray) : ao Tryz.prog 86 [.p (.agg [.list nl (ns.map Nd.pv)]), .p (pS t), .p (pS c)] [] fun r H => (∃ e : Int, e ≠ 0 /\ r = .tup [.p (.list true []), .p (pI e)] /\ H = []) \/ ∃ (fl : Nat -> Bool) (rw_ : Nat -> List Int), (∀ j, InR 4 (rw_ j)) /\ r = .tup [.sub 0 0 4, .p (pI 0)] /\ H = [some (.cells [.buf 1, .buf 2, .buf 3, .buf 4]), some (AO.buf 3 (fl 0) ((rw_ 0).map pI)), some (AO.buf 3 (fl 1) ((rw_ 1).map pI)), some (AO.buf 3 (fl 2) ((rw_ 2).map pI)), some (AO.buf 3 (fl 3) ((rw_ 3).map pI))] := by
 refine aa Tryz.func86 rfl rfl au rfl ?_
 refine' y3971
 refine ab.loc [] [] rfl rfl ((cM nl ns h t c).mono ?_)
 rintro _ _ ⟨nb, l, e, ⟨hrg, hcn⟩, hl40, rfl, rfl⟩
 rw [hn] at hrg
 refine' y3971
 ·(refine' ay.auto (.tup [.p (.list true []), .p (pI e)]) ([]) rfl rfl rfl rfl _ _ _ <;> refine' aj)
  exact .inl ⟨e, by assumption, rfl, rfl⟩
 refine IsL.mk [.list true [], .list true [], .list true [], .list true []] (by rw [hn]; rfl) ?_
 refine' y3971
 refine' ai (fun (⟨c, fl, rw_⟩ : Nat × (Nat -> Bool) × (Nat -> List Int)) => ⟨[(10, .sub 0 0 4), (28, .p (.list nb (l.map Lk.pv))), (29, .p (pI l.length)), (30, .p (pI c))], [some (.cells [.buf 1, .buf 2, .buf 3, .buf 4]), some (AO.buf 3 (fl 0) ((rw_ 0).map pI)), some (AO.buf 3 (fl 1) ((rw_ 1).map pI)), some (AO.buf 3 (fl 2) ((rw_ 2).map pI)), some (AO.buf 3 (fl 3) ((rw_ 3).map pI))]⟩) (fun ⟨c, fl, rw_⟩ => c <= l.length /\ (∀ j, InR 4 (rw_ j)) /\ (∀ j : Nat, (rw_ j).length + jF j (l.drop c) <= 5)) (fun ⟨c, fl, rw_⟩ => l.length - c) (0, fun _ => true, fun _ => []) _ _ _; rotate_right; rotate_right; rotate_right; (refine aq.qU _ 10 1 _ _ _ rfl rfl (by simp) ?_; refine aq.cell _ 2 0 3 _ _ _ _ _ rfl rfl rfl ?_; show aq _ _ _ ⟨_, [_, _, some (AO.cells [.buf 3, .p (.list true []), .p (.list true []), .p (.list true [])]), some (AO.buf 3 true [])]⟩; refine aq.cell _ 2 1 3 _ _ _ _ _ rfl rfl rfl ?_; show aq _ _ _ ⟨_, [_, _, some (AO.cells [.buf 3, .buf 4, .p (.list true []), .p (.list true [])]), some (AO.buf 3 true []), some (AO.buf 3 true [])]⟩; refine aq.cell _ 2 2 3 _ _ _ _ _ rfl rfl rfl ?_; show aq _ _ _ ⟨_, [_, _, some (AO.cells [.buf 3, .buf 4, .buf 5, .p (.list true [])]), some (AO.buf 3 true []), some (AO.buf 3 true []), some (AO.buf 3 true [])]⟩; refine aq.cell _ 2 3 3 _ _ _ _ _ rfl rfl rfl ?_; show aq _ _ _ ⟨_, [_, _, some (AO.cells [.buf 3, .buf 4, .buf 5, .buf 6]), some (AO.buf 3 true []), some (AO.buf 3 true []), some (AO.buf 3 true []), some (AO.buf 3 true [])]⟩; refine aq.of [2, 3, 4, 5, 6] rfl ?_ ?_ rfl rfl <;> refine' aj)
 ·exact ⟨by omega, fun _ => by simp [InR], fun j => by have := hcn j; simpa using this⟩
 rintro ⟨c, fl, rw_⟩ ⟨hc, hir, hct⟩
 try simp only at hc hir hct
 rcases Nat.lt_or_ge c l.length with hlt | hge
 ·obtain ⟨x, hx⟩ : ∃ x, l[c]? = some x := ⟨l[c], List.getElem?_eq_getElem hlt⟩
  obtain ⟨r1, r2, r3, r4⟩ := hrg x (List.mem_of_getElem? hx)
  have hx2 : (l.map Lk.pv)[((c : Int)).toNat]? = some (Lk.pv x) := by rw [Int.toNat_natCast, List.getElem?_map, hx]; rfl
  obtain ⟨nd, pv, pp, ix, an, ar⟩ := x
  simp only at r1 r2 r3 r4
  have hcs : nd = 0 \/ nd = 1 \/ nd = 2 \/ nd = 3 := by omega
  have hct2 : ∀ i : Nat, nd = i -> _ := fun i hi => dK hx rw_ i hi pv hct
  have hir2 : ∀ i : Nat, InR 4 (rw_ i ++ [pv]) := fun i y hy => (List.mem_append.1 hy).elim (hir i y) fun hy => by simp at hy; subst hy; exact ⟨r3, r4⟩
  have hrl : ∀ j : Nat, (rw_ j).length <= 5 := fun j => by have := hct j; omega
  clear hx r1 r2 hct
  have hb0 := hrl 0
  have hb1 := hrl 1
  have hb2 := hrl 2
  have hb3 := hrl 3
  rcases hcs with rfl | rfl | rfl | rfl
  all_goals (conv => whnf); repeat' ((first | (apply PdC.same; · with_reducible rfl) | apply PdC.chk | apply PdA.mk | (apply EqA.mk; rfl) | (apply LzA.mk; · ((conv => whnf); repeat' ((first | (apply EqA.mk; rfl) | (refine bO.mk _ (by omega) hx2 ?_) | refine' za37d | fail) <;> (conv => whnf)))) | (refine bO.mk _ (by omega) hx2 ?_) | refine' zc253 | (apply ax.lin gr8 (by kernel_rfl) (by decide +kernel))) <;> (conv => whnf))
  ·(refine' ⟨(c + 1, upB 0 false fl, upL 0 (rw_ 0 ++ [pv]) rw_), _, _, _⟩; rotate_right; (refine aq.of [0, 6, 2, 3, 4] rfl ?_ ?_ rfl rfl <;> refine' aj); rotate_right; exact aw)
   exact ⟨by omega, ah (hir2 0) hir, hct2 0 rfl⟩
  ·(refine' ⟨(c + 1, upB 1 false fl, upL 1 (rw_ 1 ++ [pv]) rw_), _, _, _⟩; rotate_right; (refine aq.of [0, 1, 6, 3, 4] rfl ?_ ?_ rfl rfl <;> refine' aj); rotate_right; exact aw)
   exact ⟨by omega, ah (hir2 1) hir, hct2 1 rfl⟩
  ·(refine' ⟨(c + 1, upB 2 false fl, upL 2 (rw_ 2 ++ [pv]) rw_), _, _, _⟩; rotate_right; (refine aq.of [0, 1, 2, 6, 4] rfl ?_ ?_ rfl rfl <;> refine' aj); rotate_right; exact aw)
   exact ⟨by omega, ah (hir2 2) hir, hct2 2 rfl⟩
  ·(refine' ⟨(c + 1, upB 3 false fl, upL 3 (rw_ 3 ++ [pv]) rw_), _, _, _⟩; rotate_right; (refine aq.of [0, 1, 2, 3, 6] rfl ?_ ?_ rfl rfl <;> refine' aj); rotate_right; exact aw)
   exact ⟨by omega, ah (hir2 3) hir, hct2 3 rfl⟩
 have hl5 : ∀ j : Nat, (rw_ j).length <= 5 := fun j => by have := hct j; omega
 clear hct
 refine' y3971
 refine ai (fun (⟨k, fl, rw_⟩ : Nat × (Nat -> Bool) × (Nat -> List Int)) => ⟨[(10, .sub 0 0 4), (49, .p (pI 4)), (50, .p (pI k))], [some (.cells [.buf 1, .buf 2, .buf 3, .buf 4]), some (AO.buf 3 (fl 0) ((rw_ 0).map pI)), some (AO.buf 3 (fl 1) ((rw_ 1).map pI)), some (AO.buf 3 (fl 2) ((rw_ 2).map pI)), some (AO.buf 3 (fl 3) ((rw_ 3).map pI))]⟩) (fun ⟨k, fl, rw_⟩ => k <= 4 /\ (∀ j, InR 4 (rw_ j)) /\ (∀ j : Nat, (rw_ j).length <= 5)) (fun ⟨k, fl, rw_⟩ => 4 - k) (0, fl, rw_) ?_ ?_ ?_; (refine aq.of [0, 1, 2, 3, 4] rfl ?_ ?_ rfl rfl <;> refine' aj)
 ·exact ⟨by omega, hir, hl5⟩
 clear hir hl5
 rintro ⟨k, fl, rw_⟩ ⟨hk, hir, hl5⟩
 try simp only at hk hir hl5
 rcases Nat.lt_or_ge k 4 with hlt | hge
 ·have hcs : k = 0 \/ k = 1 \/ k = 2 \/ k = 3 := by omega
  rcases hcs with rfl | rfl | rfl | rfl
  ·refine' yc253
   refine ab.loc [1] [] rfl rfl ((aF (fl 0) (rw_ 0) 4 (hir 0) (by have := hl5 0; omega)).mono ?_)
   rintro _ _ ⟨ys, h1, h2, rfl, rfl⟩
   have h3 := hl5 0
   refine' yc253
   refine ab.loc [1] [] rfl rfl ((aA (fl 0) ys 4 (by omega) h2 (by omega)).mono ?_)
   rintro _ _ ⟨zs, nc, h4, h5, ⟨rfl, rfl⟩ | ⟨rfl, rfl⟩⟩
   ·refine' yc253
    (refine' ⟨(0 + 1, upB 0 nc fl, upL 0 zs rw_), _, _, _⟩; rotate_right; (refine aq.of [0, 1, 2, 3, 4] rfl ?_ ?_ rfl rfl <;> refine' aj); rotate_right; exact aw)
    exact ⟨by omega, ah h5 hir, ah (Q := fun l => l.length <= 5) (by omega) hl5⟩
   ·refine' yc253
    (refine' ⟨(0 + 1, upB 0 nc fl, upL 0 zs rw_), _, _, _⟩; rotate_right; (refine aq.of [0, 5, 2, 3, 4] rfl ?_ ?_ rfl rfl <;> refine' aj); rotate_right; exact aw)
    exact ⟨by omega, ah h5 hir, ah (Q := fun l => l.length <= 5) (by omega) hl5⟩
  ·refine' yc253
   refine ab.loc [2] [] rfl rfl ((aF (fl 1) (rw_ 1) 4 (hir 1) (by have := hl5 1; omega)).mono ?_)
   rintro _ _ ⟨ys, h1, h2, rfl, rfl⟩
   have h3 := hl5 1
   refine' yc253
   refine ab.loc [2] [] rfl rfl ((aA (fl 1) ys 4 (by omega) h2 (by omega)).mono ?_)
   rintro _ _ ⟨zs, nc, h4, h5, ⟨rfl, rfl⟩ | ⟨rfl, rfl⟩⟩
   ·refine' yc253
    (refine' ⟨(1 + 1, upB 1 nc fl, upL 1 zs rw_), _, _, _⟩; rotate_right; (refine aq.of [0, 1, 2, 3, 4] rfl ?_ ?_ rfl rfl <;> refine' aj); rotate_right; exact aw)
    exact ⟨by omega, ah h5 hir, ah (Q := fun l => l.length <= 5) (by omega) hl5⟩
   ·refine' yc253
    (refine' ⟨(1 + 1, upB 1 nc fl, upL 1 zs rw_), _, _, _⟩; rotate_right; (refine aq.of [0, 1, 5, 3, 4] rfl ?_ ?_ rfl rfl <;> refine' aj); rotate_right; exact aw)
    exact ⟨by omega, ah h5 hir, ah (Q := fun l => l.length <= 5) (by omega) hl5⟩
  ·refine' yc253
   refine ab.loc [3] [] rfl rfl ((aF (fl 2) (rw_ 2) 4 (hir 2) (by have := hl5 2; omega)).mono ?_)
   rintro _ _ ⟨ys, h1, h2, rfl, rfl⟩
   have h3 := hl5 2
   refine' yc253
   refine ab.loc [3] [] rfl rfl ((aA (fl 2) ys 4 (by omega) h2 (by omega)).mono ?_)
   rintro _ _ ⟨zs, nc, h4, h5, ⟨rfl, rfl⟩ | ⟨rfl, rfl⟩⟩
   ·refine' yc253
    (refine' ⟨(2 + 1, upB 2 nc fl, upL 2 zs rw_), _, _, _⟩; rotate_right; (refine aq.of [0, 1, 2, 3, 4] rfl ?_ ?_ rfl rfl <;> refine' aj); rotate_right; exact aw)
    exact ⟨by omega, ah h5 hir, ah (Q := fun l => l.length <= 5) (by omega) hl5⟩
   ·refine' yc253
    (refine' ⟨(2 + 1, upB 2 nc fl, upL 2 zs rw_), _, _, _⟩; rotate_right; (refine aq.of [0, 1, 2, 5, 4] rfl ?_ ?_ rfl rfl <;> refine' aj); rotate_right; exact aw)
    exact ⟨by omega, ah h5 hir, ah (Q := fun l => l.length <= 5) (by omega) hl5⟩
  ·refine' yc253
   refine ab.loc [4] [] rfl rfl ((aF (fl 3) (rw_ 3) 4 (hir 3) (by have := hl5 3; omega)).mono ?_)
   rintro _ _ ⟨ys, h1, h2, rfl, rfl⟩
   have h3 := hl5 3
   refine' yc253
   refine ab.loc [4] [] rfl rfl ((aA (fl 3) ys 4 (by omega) h2 (by omega)).mono ?_)
   rintro _ _ ⟨zs, nc, h4, h5, ⟨rfl, rfl⟩ | ⟨rfl, rfl⟩⟩
   ·refine' yc253
    (refine' ⟨(3 + 1, upB 3 nc fl, upL 3 zs rw_), _, _, _⟩; rotate_right; (refine aq.of [0, 1, 2, 3, 4] rfl ?_ ?_ rfl rfl <;> refine' aj); rotate_right; exact aw)
    exact ⟨by omega, ah h5 hir, ah (Q := fun l => l.length <= 5) (by omega) hl5⟩
   ·refine' yc253
    (refine' ⟨(3 + 1, upB 3 nc fl, upL 3 zs rw_), _, _, _⟩; rotate_right; (refine aq.of [0, 1, 2, 3, 5] rfl ?_ ?_ rfl rfl <;> refine' aj); rotate_right; exact aw)
    exact ⟨by omega, ah h5 hir, ah (Q := fun l => l.length <= 5) (by omega) hl5⟩
 ·refine' y3971
  (refine' ay.mk _ _ _ [0, 1, 2, 3, 4] (.tup [.sub 0 0 4, .p (pI 0)]) ([some (.cells [.buf 1, .buf 2, .buf 3, .buf 4]), some (AO.buf 3 (fl 0) ((rw_ 0).map pI)), some (AO.buf 3 (fl 1) ((rw_ 1).map pI)), some (AO.buf 3 (fl 2) ((rw_ 2).map pI)), some (AO.buf 3 (fl 3) ((rw_ 3).map pI))]) rfl rfl _ rfl rfl _ <;> refine' aj)
  exact .inr ⟨fl, rw_, hir, rfl, rfl⟩
set_option maxHeartbeats 40000000 in
theorem tn (nl : Bool) (ns : List Nd) (h : FV ns) (hn : ns.length = 5) (t c : ByteArray) : ao Tryz.prog 86 [.p (.agg [.list nl (ns.map Nd.pv)]), .p (pS t), .p (pS c)] [] fun r H => (∃ e : Int, e ≠ 0 /\ r = .tup [.p (.list true []), .p (pI e)] /\ H = []) \/ ∃ (fl : Nat -> Bool) (rw_ : Nat -> List Int), (∀ j, InR 5 (rw_ j)) /\ r = .tup [.sub 0 0 5, .p (pI 0)] /\ H = [some (.cells [.buf 1, .buf 2, .buf 3, .buf 4, .buf 5]), some (AO.buf 3 (fl 0) ((rw_ 0).map pI)), some (AO.buf 3 (fl 1) ((rw_ 1).map pI)), some (AO.buf 3 (fl 2) ((rw_ 2).map pI)), some (AO.buf 3 (fl 3) ((rw_ 3).map pI)), some (AO.buf 3 (fl 4) ((rw_ 4).map pI))] := by
 refine aa Tryz.func86 rfl rfl au rfl ?_
 refine' y3971
 refine ab.loc [] [] rfl rfl ((cM nl ns h t c).mono ?_)
 rintro _ _ ⟨nb, l, e, ⟨hrg, hcn⟩, hl40, rfl, rfl⟩
 rw [hn] at hrg
 refine' y3971
 ·(refine' ay.auto (.tup [.p (.list true []), .p (pI e)]) ([]) rfl rfl rfl rfl _ _ _ <;> refine' aj)
  exact .inl ⟨e, by assumption, rfl, rfl⟩
 refine IsL.mk [.list true [], .list true [], .list true [], .list true [], .list true []] (by rw [hn]; rfl) ?_
 refine' y3971
 refine' ai (fun (⟨c, fl, rw_⟩ : Nat × (Nat -> Bool) × (Nat -> List Int)) => ⟨[(10, .sub 0 0 5), (28, .p (.list nb (l.map Lk.pv))), (29, .p (pI l.length)), (30, .p (pI c))], [some (.cells [.buf 1, .buf 2, .buf 3, .buf 4, .buf 5]), some (AO.buf 3 (fl 0) ((rw_ 0).map pI)), some (AO.buf 3 (fl 1) ((rw_ 1).map pI)), some (AO.buf 3 (fl 2) ((rw_ 2).map pI)), some (AO.buf 3 (fl 3) ((rw_ 3).map pI)), some (AO.buf 3 (fl 4) ((rw_ 4).map pI))]⟩) (fun ⟨c, fl, rw_⟩ => c <= l.length /\ (∀ j, InR 5 (rw_ j)) /\ (∀ j : Nat, (rw_ j).length + jF j (l.drop c) <= 5)) (fun ⟨c, fl, rw_⟩ => l.length - c) (0, fun _ => true, fun _ => []) _ _ _; rotate_right; rotate_right; rotate_right; (refine aq.qU _ 10 1 _ _ _ rfl rfl (by simp) ?_; refine aq.cell _ 2 0 3 _ _ _ _ _ rfl rfl rfl ?_; show aq _ _ _ ⟨_, [_, _, some (AO.cells [.buf 3, .p (.list true []), .p (.list true []), .p (.list true []), .p (.list true [])]), some (AO.buf 3 true [])]⟩; refine aq.cell _ 2 1 3 _ _ _ _ _ rfl rfl rfl ?_; show aq _ _ _ ⟨_, [_, _, some (AO.cells [.buf 3, .buf 4, .p (.list true []), .p (.list true []), .p (.list true [])]), some (AO.buf 3 true []), some (AO.buf 3 true [])]⟩; refine aq.cell _ 2 2 3 _ _ _ _ _ rfl rfl rfl ?_; show aq _ _ _ ⟨_, [_, _, some (AO.cells [.buf 3, .buf 4, .buf 5, .p (.list true []), .p (.list true [])]), some (AO.buf 3 true []), some (AO.buf 3 true []), some (AO.buf 3 true [])]⟩; refine aq.cell _ 2 3 3 _ _ _ _ _ rfl rfl rfl ?_; show aq _ _ _ ⟨_, [_, _, some (AO.cells [.buf 3, .buf 4, .buf 5, .buf 6, .p (.list true [])]), some (AO.buf 3 true []), some (AO.buf 3 true []), some (AO.buf 3 true []), some (AO.buf 3 true [])]⟩; refine aq.cell _ 2 4 3 _ _ _ _ _ rfl rfl rfl ?_; show aq _ _ _ ⟨_, [_, _, some (AO.cells [.buf 3, .buf 4, .buf 5, .buf 6, .buf 7]), some (AO.buf 3 true []), some (AO.buf 3 true []), some (AO.buf 3 true []), some (AO.buf 3 true []), some (AO.buf 3 true [])]⟩; refine aq.of [2, 3, 4, 5, 6, 7] rfl ?_ ?_ rfl rfl <;> refine' aj)
 ·exact ⟨by omega, fun _ => by simp [InR], fun j => by have := hcn j; simpa using this⟩
 rintro ⟨c, fl, rw_⟩ ⟨hc, hir, hct⟩
 try simp only at hc hir hct
 rcases Nat.lt_or_ge c l.length with hlt | hge
 ·obtain ⟨x, hx⟩ : ∃ x, l[c]? = some x := ⟨l[c], List.getElem?_eq_getElem hlt⟩
  obtain ⟨r1, r2, r3, r4⟩ := hrg x (List.mem_of_getElem? hx)
  have hx2 : (l.map Lk.pv)[((c : Int)).toNat]? = some (Lk.pv x) := by rw [Int.toNat_natCast, List.getElem?_map, hx]; rfl
  obtain ⟨nd, pv, pp, ix, an, ar⟩ := x
  simp only at r1 r2 r3 r4
  have hcs : nd = 0 \/ nd = 1 \/ nd = 2 \/ nd = 3 \/ nd = 4 := by omega
  have hct2 : ∀ i : Nat, nd = i -> _ := fun i hi => dK hx rw_ i hi pv hct
  have hir2 : ∀ i : Nat, InR 5 (rw_ i ++ [pv]) := fun i y hy => (List.mem_append.1 hy).elim (hir i y) fun hy => by simp at hy; subst hy; exact ⟨r3, r4⟩
  have hrl : ∀ j : Nat, (rw_ j).length <= 5 := fun j => by have := hct j; omega
  clear hx r1 r2 hct
  have hb0 := hrl 0
  have hb1 := hrl 1
  have hb2 := hrl 2
  have hb3 := hrl 3
  have hb4 := hrl 4
  rcases hcs with rfl | rfl | rfl | rfl | rfl
  all_goals (conv => whnf); repeat' ((first | (apply PdC.same; · with_reducible rfl) | apply PdC.chk | apply PdA.mk | (apply EqA.mk; rfl) | (apply LzA.mk; · ((conv => whnf); repeat' ((first | (apply EqA.mk; rfl) | (refine bO.mk _ (by omega) hx2 ?_) | refine' za37d | fail) <;> (conv => whnf)))) | (refine bO.mk _ (by omega) hx2 ?_) | refine' zc253 | (apply ax.lin gr8 (by kernel_rfl) (by decide +kernel))) <;> (conv => whnf))
  ·(refine' ⟨(c + 1, upB 0 false fl, upL 0 (rw_ 0 ++ [pv]) rw_), _, _, _⟩; rotate_right; (refine aq.of [0, 7, 2, 3, 4, 5] rfl ?_ ?_ rfl rfl <;> refine' aj); rotate_right; exact aw)
   exact ⟨by omega, ah (hir2 0) hir, hct2 0 rfl⟩
  ·(refine' ⟨(c + 1, upB 1 false fl, upL 1 (rw_ 1 ++ [pv]) rw_), _, _, _⟩; rotate_right; (refine aq.of [0, 1, 7, 3, 4, 5] rfl ?_ ?_ rfl rfl <;> refine' aj); rotate_right; exact aw)
   exact ⟨by omega, ah (hir2 1) hir, hct2 1 rfl⟩
  ·(refine' ⟨(c + 1, upB 2 false fl, upL 2 (rw_ 2 ++ [pv]) rw_), _, _, _⟩; rotate_right; (refine aq.of [0, 1, 2, 7, 4, 5] rfl ?_ ?_ rfl rfl <;> refine' aj); rotate_right; exact aw)
   exact ⟨by omega, ah (hir2 2) hir, hct2 2 rfl⟩
  ·(refine' ⟨(c + 1, upB 3 false fl, upL 3 (rw_ 3 ++ [pv]) rw_), _, _, _⟩; rotate_right; (refine aq.of [0, 1, 2, 3, 7, 5] rfl ?_ ?_ rfl rfl <;> refine' aj); rotate_right; exact aw)
   exact ⟨by omega, ah (hir2 3) hir, hct2 3 rfl⟩
  ·(refine' ⟨(c + 1, upB 4 false fl, upL 4 (rw_ 4 ++ [pv]) rw_), _, _, _⟩; rotate_right; (refine aq.of [0, 1, 2, 3, 4, 7] rfl ?_ ?_ rfl rfl <;> refine' aj); rotate_right; exact aw)
   exact ⟨by omega, ah (hir2 4) hir, hct2 4 rfl⟩
 have hl5 : ∀ j : Nat, (rw_ j).length <= 5 := fun j => by have := hct j; omega
 clear hct
 refine' y3971
 refine ai (fun (⟨k, fl, rw_⟩ : Nat × (Nat -> Bool) × (Nat -> List Int)) => ⟨[(10, .sub 0 0 5), (49, .p (pI 5)), (50, .p (pI k))], [some (.cells [.buf 1, .buf 2, .buf 3, .buf 4, .buf 5]), some (AO.buf 3 (fl 0) ((rw_ 0).map pI)), some (AO.buf 3 (fl 1) ((rw_ 1).map pI)), some (AO.buf 3 (fl 2) ((rw_ 2).map pI)), some (AO.buf 3 (fl 3) ((rw_ 3).map pI)), some (AO.buf 3 (fl 4) ((rw_ 4).map pI))]⟩) (fun ⟨k, fl, rw_⟩ => k <= 5 /\ (∀ j, InR 5 (rw_ j)) /\ (∀ j : Nat, (rw_ j).length <= 5)) (fun ⟨k, fl, rw_⟩ => 5 - k) (0, fl, rw_) ?_ ?_ ?_; (refine aq.of [0, 1, 2, 3, 4, 5] rfl ?_ ?_ rfl rfl <;> refine' aj)
 ·exact ⟨by omega, hir, hl5⟩
 clear hir hl5
 rintro ⟨k, fl, rw_⟩ ⟨hk, hir, hl5⟩
 try simp only at hk hir hl5
 rcases Nat.lt_or_ge k 5 with hlt | hge
 ·have hcs : k = 0 \/ k = 1 \/ k = 2 \/ k = 3 \/ k = 4 := by omega
  rcases hcs with rfl | rfl | rfl | rfl | rfl
  ·refine' yc253
   refine ab.loc [1] [] rfl rfl ((aF (fl 0) (rw_ 0) 5 (hir 0) (by have := hl5 0; omega)).mono ?_)
   rintro _ _ ⟨ys, h1, h2, rfl, rfl⟩
   have h3 := hl5 0
   refine' yc253
   refine ab.loc [1] [] rfl rfl ((aA (fl 0) ys 5 (by omega) h2 (by omega)).mono ?_)
   rintro _ _ ⟨zs, nc, h4, h5, ⟨rfl, rfl⟩ | ⟨rfl, rfl⟩⟩
   ·refine' yc253
    (refine' ⟨(0 + 1, upB 0 nc fl, upL 0 zs rw_), _, _, _⟩; rotate_right; (refine aq.of [0, 1, 2, 3, 4, 5] rfl ?_ ?_ rfl rfl <;> refine' aj); rotate_right; exact aw)
    exact ⟨by omega, ah h5 hir, ah (Q := fun l => l.length <= 5) (by omega) hl5⟩
   ·refine' yc253
    (refine' ⟨(0 + 1, upB 0 nc fl, upL 0 zs rw_), _, _, _⟩; rotate_right; (refine aq.of [0, 6, 2, 3, 4, 5] rfl ?_ ?_ rfl rfl <;> refine' aj); rotate_right; exact aw)
    exact ⟨by omega, ah h5 hir, ah (Q := fun l => l.length <= 5) (by omega) hl5⟩
  ·refine' yc253
   refine ab.loc [2] [] rfl rfl ((aF (fl 1) (rw_ 1) 5 (hir 1) (by have := hl5 1; omega)).mono ?_)
   rintro _ _ ⟨ys, h1, h2, rfl, rfl⟩
   have h3 := hl5 1
   refine' yc253
   refine ab.loc [2] [] rfl rfl ((aA (fl 1) ys 5 (by omega) h2 (by omega)).mono ?_)
   rintro _ _ ⟨zs, nc, h4, h5, ⟨rfl, rfl⟩ | ⟨rfl, rfl⟩⟩
   ·refine' yc253
    (refine' ⟨(1 + 1, upB 1 nc fl, upL 1 zs rw_), _, _, _⟩; rotate_right; (refine aq.of [0, 1, 2, 3, 4, 5] rfl ?_ ?_ rfl rfl <;> refine' aj); rotate_right; exact aw)
    exact ⟨by omega, ah h5 hir, ah (Q := fun l => l.length <= 5) (by omega) hl5⟩
   ·refine' yc253
    (refine' ⟨(1 + 1, upB 1 nc fl, upL 1 zs rw_), _, _, _⟩; rotate_right; (refine aq.of [0, 1, 6, 3, 4, 5] rfl ?_ ?_ rfl rfl <;> refine' aj); rotate_right; exact aw)
    exact ⟨by omega, ah h5 hir, ah (Q := fun l => l.length <= 5) (by omega) hl5⟩
  ·refine' yc253
   refine ab.loc [3] [] rfl rfl ((aF (fl 2) (rw_ 2) 5 (hir 2) (by have := hl5 2; omega)).mono ?_)
   rintro _ _ ⟨ys, h1, h2, rfl, rfl⟩
   have h3 := hl5 2
   refine' yc253
   refine ab.loc [3] [] rfl rfl ((aA (fl 2) ys 5 (by omega) h2 (by omega)).mono ?_)
   rintro _ _ ⟨zs, nc, h4, h5, ⟨rfl, rfl⟩ | ⟨rfl, rfl⟩⟩
   ·refine' yc253
    (refine' ⟨(2 + 1, upB 2 nc fl, upL 2 zs rw_), _, _, _⟩; rotate_right; (refine aq.of [0, 1, 2, 3, 4, 5] rfl ?_ ?_ rfl rfl <;> refine' aj); rotate_right; exact aw)
    exact ⟨by omega, ah h5 hir, ah (Q := fun l => l.length <= 5) (by omega) hl5⟩
   ·refine' yc253
    (refine' ⟨(2 + 1, upB 2 nc fl, upL 2 zs rw_), _, _, _⟩; rotate_right; (refine aq.of [0, 1, 2, 6, 4, 5] rfl ?_ ?_ rfl rfl <;> refine' aj); rotate_right; exact aw)
    exact ⟨by omega, ah h5 hir, ah (Q := fun l => l.length <= 5) (by omega) hl5⟩
  ·refine' yc253
   refine ab.loc [4] [] rfl rfl ((aF (fl 3) (rw_ 3) 5 (hir 3) (by have := hl5 3; omega)).mono ?_)
   rintro _ _ ⟨ys, h1, h2, rfl, rfl⟩
   have h3 := hl5 3
   refine' yc253
   refine ab.loc [4] [] rfl rfl ((aA (fl 3) ys 5 (by omega) h2 (by omega)).mono ?_)
   rintro _ _ ⟨zs, nc, h4, h5, ⟨rfl, rfl⟩ | ⟨rfl, rfl⟩⟩
   ·refine' yc253
    (refine' ⟨(3 + 1, upB 3 nc fl, upL 3 zs rw_), _, _, _⟩; rotate_right; (refine aq.of [0, 1, 2, 3, 4, 5] rfl ?_ ?_ rfl rfl <;> refine' aj); rotate_right; exact aw)
    exact ⟨by omega, ah h5 hir, ah (Q := fun l => l.length <= 5) (by omega) hl5⟩
   ·refine' yc253
    (refine' ⟨(3 + 1, upB 3 nc fl, upL 3 zs rw_), _, _, _⟩; rotate_right; (refine aq.of [0, 1, 2, 3, 6, 5] rfl ?_ ?_ rfl rfl <;> refine' aj); rotate_right; exact aw)
    exact ⟨by omega, ah h5 hir, ah (Q := fun l => l.length <= 5) (by omega) hl5⟩
  ·refine' yc253
   refine ab.loc [5] [] rfl rfl ((aF (fl 4) (rw_ 4) 5 (hir 4) (by have := hl5 4; omega)).mono ?_)
   rintro _ _ ⟨ys, h1, h2, rfl, rfl⟩
   have h3 := hl5 4
   refine' yc253
   refine ab.loc [5] [] rfl rfl ((aA (fl 4) ys 5 (by omega) h2 (by omega)).mono ?_)
   rintro _ _ ⟨zs, nc, h4, h5, ⟨rfl, rfl⟩ | ⟨rfl, rfl⟩⟩
   ·refine' yc253
    (refine' ⟨(4 + 1, upB 4 nc fl, upL 4 zs rw_), _, _, _⟩; rotate_right; (refine aq.of [0, 1, 2, 3, 4, 5] rfl ?_ ?_ rfl rfl <;> refine' aj); rotate_right; exact aw)
    exact ⟨by omega, ah h5 hir, ah (Q := fun l => l.length <= 5) (by omega) hl5⟩
   ·refine' yc253
    (refine' ⟨(4 + 1, upB 4 nc fl, upL 4 zs rw_), _, _, _⟩; rotate_right; (refine aq.of [0, 1, 2, 3, 4, 6] rfl ?_ ?_ rfl rfl <;> refine' aj); rotate_right; exact aw)
    exact ⟨by omega, ah h5 hir, ah (Q := fun l => l.length <= 5) (by omega) hl5⟩
 ·refine' y3971
  (refine' ay.mk _ _ _ [0, 1, 2, 3, 4, 5] (.tup [.sub 0 0 5, .p (pI 0)]) ([some (.cells [.buf 1, .buf 2, .buf 3, .buf 4, .buf 5]), some (AO.buf 3 (fl 0) ((rw_ 0).map pI)), some (AO.buf 3 (fl 1) ((rw_ 1).map pI)), some (AO.buf 3 (fl 2) ((rw_ 2).map pI)), some (AO.buf 3 (fl 3) ((rw_ 3).map pI)), some (AO.buf 3 (fl 4) ((rw_ 4).map pI))]) rfl rfl _ rfl rfl _ <;> refine' aj)
  exact .inr ⟨fl, rw_, hir, rfl, rfl⟩
set_option maxHeartbeats 40000000 in
theorem tm (nl : Bool) (ns : List Nd) (h : FV ns) (hn : ns.length = 6) (t c : ByteArray) : ao Tryz.prog 86 [.p (.agg [.list nl (ns.map Nd.pv)]), .p (pS t), .p (pS c)] [] fun r H => (∃ e : Int, e ≠ 0 /\ r = .tup [.p (.list true []), .p (pI e)] /\ H = []) \/ ∃ (fl : Nat -> Bool) (rw_ : Nat -> List Int), (∀ j, InR 6 (rw_ j)) /\ r = .tup [.sub 0 0 6, .p (pI 0)] /\ H = [some (.cells [.buf 1, .buf 2, .buf 3, .buf 4, .buf 5, .buf 6]), some (AO.buf 3 (fl 0) ((rw_ 0).map pI)), some (AO.buf 3 (fl 1) ((rw_ 1).map pI)), some (AO.buf 3 (fl 2) ((rw_ 2).map pI)), some (AO.buf 3 (fl 3) ((rw_ 3).map pI)), some (AO.buf 3 (fl 4) ((rw_ 4).map pI)), some (AO.buf 3 (fl 5) ((rw_ 5).map pI))] := by
 refine aa Tryz.func86 rfl rfl au rfl ?_
 refine' y3971
 refine ab.loc [] [] rfl rfl ((cM nl ns h t c).mono ?_)
 rintro _ _ ⟨nb, l, e, ⟨hrg, hcn⟩, hl40, rfl, rfl⟩
 rw [hn] at hrg
 refine' y3971
 ·(refine' ay.auto (.tup [.p (.list true []), .p (pI e)]) ([]) rfl rfl rfl rfl _ _ _ <;> refine' aj)
  exact .inl ⟨e, by assumption, rfl, rfl⟩
 refine IsL.mk [.list true [], .list true [], .list true [], .list true [], .list true [], .list true []] (by rw [hn]; rfl) ?_
 refine' y3971
 refine' ai (fun (⟨c, fl, rw_⟩ : Nat × (Nat -> Bool) × (Nat -> List Int)) => ⟨[(10, .sub 0 0 6), (28, .p (.list nb (l.map Lk.pv))), (29, .p (pI l.length)), (30, .p (pI c))], [some (.cells [.buf 1, .buf 2, .buf 3, .buf 4, .buf 5, .buf 6]), some (AO.buf 3 (fl 0) ((rw_ 0).map pI)), some (AO.buf 3 (fl 1) ((rw_ 1).map pI)), some (AO.buf 3 (fl 2) ((rw_ 2).map pI)), some (AO.buf 3 (fl 3) ((rw_ 3).map pI)), some (AO.buf 3 (fl 4) ((rw_ 4).map pI)), some (AO.buf 3 (fl 5) ((rw_ 5).map pI))]⟩) (fun ⟨c, fl, rw_⟩ => c <= l.length /\ (∀ j, InR 6 (rw_ j)) /\ (∀ j : Nat, (rw_ j).length + jF j (l.drop c) <= 5)) (fun ⟨c, fl, rw_⟩ => l.length - c) (0, fun _ => true, fun _ => []) _ _ _; rotate_right; rotate_right; rotate_right; (refine aq.qU _ 10 1 _ _ _ rfl rfl (by simp) ?_; refine aq.cell _ 2 0 3 _ _ _ _ _ rfl rfl rfl ?_; show aq _ _ _ ⟨_, [_, _, some (AO.cells [.buf 3, .p (.list true []), .p (.list true []), .p (.list true []), .p (.list true []), .p (.list true [])]), some (AO.buf 3 true [])]⟩; refine aq.cell _ 2 1 3 _ _ _ _ _ rfl rfl rfl ?_; show aq _ _ _ ⟨_, [_, _, some (AO.cells [.buf 3, .buf 4, .p (.list true []), .p (.list true []), .p (.list true []), .p (.list true [])]), some (AO.buf 3 true []), some (AO.buf 3 true [])]⟩; refine aq.cell _ 2 2 3 _ _ _ _ _ rfl rfl rfl ?_; show aq _ _ _ ⟨_, [_, _, some (AO.cells [.buf 3, .buf 4, .buf 5, .p (.list true []), .p (.list true []), .p (.list true [])]), some (AO.buf 3 true []), some (AO.buf 3 true []), some (AO.buf 3 true [])]⟩; refine aq.cell _ 2 3 3 _ _ _ _ _ rfl rfl rfl ?_; show aq _ _ _ ⟨_, [_, _, some (AO.cells [.buf 3, .buf 4, .buf 5, .buf 6, .p (.list true []), .p (.list true [])]), some (AO.buf 3 true []), some (AO.buf 3 true []), some (AO.buf 3 true []), some (AO.buf 3 true [])]⟩; refine aq.cell _ 2 4 3 _ _ _ _ _ rfl rfl rfl ?_; show aq _ _ _ ⟨_, [_, _, some (AO.cells [.buf 3, .buf 4, .buf 5, .buf 6, .buf 7, .p (.list true [])]), some (AO.buf 3 true []), some (AO.buf 3 true []), some (AO.buf 3 true []), some (AO.buf 3 true []), some (AO.buf 3 true [])]⟩; refine aq.cell _ 2 5 3 _ _ _ _ _ rfl rfl rfl ?_; show aq _ _ _ ⟨_, [_, _, some (AO.cells [.buf 3, .buf 4, .buf 5, .buf 6, .buf 7, .buf 8]), some (AO.buf 3 true []), some (AO.buf 3 true []), some (AO.buf 3 true []), some (AO.buf 3 true []), some (AO.buf 3 true []), some (AO.buf 3 true [])]⟩; refine aq.of [2, 3, 4, 5, 6, 7, 8] rfl ?_ ?_ rfl rfl <;> refine' aj)
 ·exact ⟨by omega, fun _ => by simp [InR], fun j => by have := hcn j; simpa using this⟩
 rintro ⟨c, fl, rw_⟩ ⟨hc, hir, hct⟩
 try simp only at hc hir hct
 rcases Nat.lt_or_ge c l.length with hlt | hge
 ·obtain ⟨x, hx⟩ : ∃ x, l[c]? = some x := ⟨l[c], List.getElem?_eq_getElem hlt⟩
  obtain ⟨r1, r2, r3, r4⟩ := hrg x (List.mem_of_getElem? hx)
  have hx2 : (l.map Lk.pv)[((c : Int)).toNat]? = some (Lk.pv x) := by rw [Int.toNat_natCast, List.getElem?_map, hx]; rfl
  obtain ⟨nd, pv, pp, ix, an, ar⟩ := x
  simp only at r1 r2 r3 r4
  have hcs : nd = 0 \/ nd = 1 \/ nd = 2 \/ nd = 3 \/ nd = 4 \/ nd = 5 := by omega
  have hct2 : ∀ i : Nat, nd = i -> _ := fun i hi => dK hx rw_ i hi pv hct
  have hir2 : ∀ i : Nat, InR 6 (rw_ i ++ [pv]) := fun i y hy => (List.mem_append.1 hy).elim (hir i y) fun hy => by simp at hy; subst hy; exact ⟨r3, r4⟩
  have hrl : ∀ j : Nat, (rw_ j).length <= 5 := fun j => by have := hct j; omega
  clear hx r1 r2 hct
  have hb0 := hrl 0
  have hb1 := hrl 1
  have hb2 := hrl 2
  have hb3 := hrl 3
  have hb4 := hrl 4
  have hb5 := hrl 5
  rcases hcs with rfl | rfl | rfl | rfl | rfl | rfl
  all_goals (conv => whnf); repeat' ((first | (apply PdC.same; · with_reducible rfl) | apply PdC.chk | apply PdA.mk | (apply EqA.mk; rfl) | (apply LzA.mk; · ((conv => whnf); repeat' ((first | (apply EqA.mk; rfl) | (refine bO.mk _ (by omega) hx2 ?_) | refine' za37d | fail) <;> (conv => whnf)))) | (refine bO.mk _ (by omega) hx2 ?_) | refine' zc253 | (apply ax.lin gr8 (by kernel_rfl) (by decide +kernel))) <;> (conv => whnf))
  ·(refine' ⟨(c + 1, upB 0 false fl, upL 0 (rw_ 0 ++ [pv]) rw_), _, _, _⟩; rotate_right; (refine aq.of [0, 8, 2, 3, 4, 5, 6] rfl ?_ ?_ rfl rfl <;> refine' aj); rotate_right; exact aw)
   exact ⟨by omega, ah (hir2 0) hir, hct2 0 rfl⟩
  ·(refine' ⟨(c + 1, upB 1 false fl, upL 1 (rw_ 1 ++ [pv]) rw_), _, _, _⟩; rotate_right; (refine aq.of [0, 1, 8, 3, 4, 5, 6] rfl ?_ ?_ rfl rfl <;> refine' aj); rotate_right; exact aw)
   exact ⟨by omega, ah (hir2 1) hir, hct2 1 rfl⟩
  ·(refine' ⟨(c + 1, upB 2 false fl, upL 2 (rw_ 2 ++ [pv]) rw_), _, _, _⟩; rotate_right; (refine aq.of [0, 1, 2, 8, 4, 5, 6] rfl ?_ ?_ rfl rfl <;> refine' aj); rotate_right; exact aw)
   exact ⟨by omega, ah (hir2 2) hir, hct2 2 rfl⟩
  ·(refine' ⟨(c + 1, upB 3 false fl, upL 3 (rw_ 3 ++ [pv]) rw_), _, _, _⟩; rotate_right; (refine aq.of [0, 1, 2, 3, 8, 5, 6] rfl ?_ ?_ rfl rfl <;> refine' aj); rotate_right; exact aw)
   exact ⟨by omega, ah (hir2 3) hir, hct2 3 rfl⟩
  ·(refine' ⟨(c + 1, upB 4 false fl, upL 4 (rw_ 4 ++ [pv]) rw_), _, _, _⟩; rotate_right; (refine aq.of [0, 1, 2, 3, 4, 8, 6] rfl ?_ ?_ rfl rfl <;> refine' aj); rotate_right; exact aw)
   exact ⟨by omega, ah (hir2 4) hir, hct2 4 rfl⟩
  ·(refine' ⟨(c + 1, upB 5 false fl, upL 5 (rw_ 5 ++ [pv]) rw_), _, _, _⟩; rotate_right; (refine aq.of [0, 1, 2, 3, 4, 5, 8] rfl ?_ ?_ rfl rfl <;> refine' aj); rotate_right; exact aw)
   exact ⟨by omega, ah (hir2 5) hir, hct2 5 rfl⟩
 have hl5 : ∀ j : Nat, (rw_ j).length <= 5 := fun j => by have := hct j; omega
 clear hct
 refine' y3971
 refine ai (fun (⟨k, fl, rw_⟩ : Nat × (Nat -> Bool) × (Nat -> List Int)) => ⟨[(10, .sub 0 0 6), (49, .p (pI 6)), (50, .p (pI k))], [some (.cells [.buf 1, .buf 2, .buf 3, .buf 4, .buf 5, .buf 6]), some (AO.buf 3 (fl 0) ((rw_ 0).map pI)), some (AO.buf 3 (fl 1) ((rw_ 1).map pI)), some (AO.buf 3 (fl 2) ((rw_ 2).map pI)), some (AO.buf 3 (fl 3) ((rw_ 3).map pI)), some (AO.buf 3 (fl 4) ((rw_ 4).map pI)), some (AO.buf 3 (fl 5) ((rw_ 5).map pI))]⟩) (fun ⟨k, fl, rw_⟩ => k <= 6 /\ (∀ j, InR 6 (rw_ j)) /\ (∀ j : Nat, (rw_ j).length <= 5)) (fun ⟨k, fl, rw_⟩ => 6 - k) (0, fl, rw_) ?_ ?_ ?_; (refine aq.of [0, 1, 2, 3, 4, 5, 6] rfl ?_ ?_ rfl rfl <;> refine' aj)
 ·exact ⟨by omega, hir, hl5⟩
 clear hir hl5
 rintro ⟨k, fl, rw_⟩ ⟨hk, hir, hl5⟩
 try simp only at hk hir hl5
 rcases Nat.lt_or_ge k 6 with hlt | hge
 ·have hcs : k = 0 \/ k = 1 \/ k = 2 \/ k = 3 \/ k = 4 \/ k = 5 := by omega
  rcases hcs with rfl | rfl | rfl | rfl | rfl | rfl
  ·refine' yc253
   refine ab.loc [1] [] rfl rfl ((aF (fl 0) (rw_ 0) 6 (hir 0) (by have := hl5 0; omega)).mono ?_)
   rintro _ _ ⟨ys, h1, h2, rfl, rfl⟩
   have h3 := hl5 0
   refine' yc253
   refine ab.loc [1] [] rfl rfl ((aA (fl 0) ys 6 (by omega) h2 (by omega)).mono ?_)
   rintro _ _ ⟨zs, nc, h4, h5, ⟨rfl, rfl⟩ | ⟨rfl, rfl⟩⟩
   ·refine' yc253
    (refine' ⟨(0 + 1, upB 0 nc fl, upL 0 zs rw_), _, _, _⟩; rotate_right; (refine aq.of [0, 1, 2, 3, 4, 5, 6] rfl ?_ ?_ rfl rfl <;> refine' aj); rotate_right; exact aw)
    exact ⟨by omega, ah h5 hir, ah (Q := fun l => l.length <= 5) (by omega) hl5⟩
   ·refine' yc253
    (refine' ⟨(0 + 1, upB 0 nc fl, upL 0 zs rw_), _, _, _⟩; rotate_right; (refine aq.of [0, 7, 2, 3, 4, 5, 6] rfl ?_ ?_ rfl rfl <;> refine' aj); rotate_right; exact aw)
    exact ⟨by omega, ah h5 hir, ah (Q := fun l => l.length <= 5) (by omega) hl5⟩
  ·refine' yc253
   refine ab.loc [2] [] rfl rfl ((aF (fl 1) (rw_ 1) 6 (hir 1) (by have := hl5 1; omega)).mono ?_)
   rintro _ _ ⟨ys, h1, h2, rfl, rfl⟩
   have h3 := hl5 1
   refine' yc253
   refine ab.loc [2] [] rfl rfl ((aA (fl 1) ys 6 (by omega) h2 (by omega)).mono ?_)
   rintro _ _ ⟨zs, nc, h4, h5, ⟨rfl, rfl⟩ | ⟨rfl, rfl⟩⟩
   ·refine' yc253
    (refine' ⟨(1 + 1, upB 1 nc fl, upL 1 zs rw_), _, _, _⟩; rotate_right; (refine aq.of [0, 1, 2, 3, 4, 5, 6] rfl ?_ ?_ rfl rfl <;> refine' aj); rotate_right; exact aw)
    exact ⟨by omega, ah h5 hir, ah (Q := fun l => l.length <= 5) (by omega) hl5⟩
   ·refine' yc253
    (refine' ⟨(1 + 1, upB 1 nc fl, upL 1 zs rw_), _, _, _⟩; rotate_right; (refine aq.of [0, 1, 7, 3, 4, 5, 6] rfl ?_ ?_ rfl rfl <;> refine' aj); rotate_right; exact aw)
    exact ⟨by omega, ah h5 hir, ah (Q := fun l => l.length <= 5) (by omega) hl5⟩
  ·refine' yc253
   refine ab.loc [3] [] rfl rfl ((aF (fl 2) (rw_ 2) 6 (hir 2) (by have := hl5 2; omega)).mono ?_)
   rintro _ _ ⟨ys, h1, h2, rfl, rfl⟩
   have h3 := hl5 2
   refine' yc253
   refine ab.loc [3] [] rfl rfl ((aA (fl 2) ys 6 (by omega) h2 (by omega)).mono ?_)
   rintro _ _ ⟨zs, nc, h4, h5, ⟨rfl, rfl⟩ | ⟨rfl, rfl⟩⟩
   ·refine' yc253
    (refine' ⟨(2 + 1, upB 2 nc fl, upL 2 zs rw_), _, _, _⟩; rotate_right; (refine aq.of [0, 1, 2, 3, 4, 5, 6] rfl ?_ ?_ rfl rfl <;> refine' aj); rotate_right; exact aw)
    exact ⟨by omega, ah h5 hir, ah (Q := fun l => l.length <= 5) (by omega) hl5⟩
   ·refine' yc253
    (refine' ⟨(2 + 1, upB 2 nc fl, upL 2 zs rw_), _, _, _⟩; rotate_right; (refine aq.of [0, 1, 2, 7, 4, 5, 6] rfl ?_ ?_ rfl rfl <;> refine' aj); rotate_right; exact aw)
    exact ⟨by omega, ah h5 hir, ah (Q := fun l => l.length <= 5) (by omega) hl5⟩
  ·refine' yc253
   refine ab.loc [4] [] rfl rfl ((aF (fl 3) (rw_ 3) 6 (hir 3) (by have := hl5 3; omega)).mono ?_)
   rintro _ _ ⟨ys, h1, h2, rfl, rfl⟩
   have h3 := hl5 3
   refine' yc253
   refine ab.loc [4] [] rfl rfl ((aA (fl 3) ys 6 (by omega) h2 (by omega)).mono ?_)
   rintro _ _ ⟨zs, nc, h4, h5, ⟨rfl, rfl⟩ | ⟨rfl, rfl⟩⟩
   ·refine' yc253
    (refine' ⟨(3 + 1, upB 3 nc fl, upL 3 zs rw_), _, _, _⟩; rotate_right; (refine aq.of [0, 1, 2, 3, 4, 5, 6] rfl ?_ ?_ rfl rfl <;> refine' aj); rotate_right; exact aw)
    exact ⟨by omega, ah h5 hir, ah (Q := fun l => l.length <= 5) (by omega) hl5⟩
   ·refine' yc253
    (refine' ⟨(3 + 1, upB 3 nc fl, upL 3 zs rw_), _, _, _⟩; rotate_right; (refine aq.of [0, 1, 2, 3, 7, 5, 6] rfl ?_ ?_ rfl rfl <;> refine' aj); rotate_right; exact aw)
    exact ⟨by omega, ah h5 hir, ah (Q := fun l => l.length <= 5) (by omega) hl5⟩
  ·refine' yc253
   refine ab.loc [5] [] rfl rfl ((aF (fl 4) (rw_ 4) 6 (hir 4) (by have := hl5 4; omega)).mono ?_)
   rintro _ _ ⟨ys, h1, h2, rfl, rfl⟩
   have h3 := hl5 4
   refine' yc253
   refine ab.loc [5] [] rfl rfl ((aA (fl 4) ys 6 (by omega) h2 (by omega)).mono ?_)
   rintro _ _ ⟨zs, nc, h4, h5, ⟨rfl, rfl⟩ | ⟨rfl, rfl⟩⟩
   ·refine' yc253
    (refine' ⟨(4 + 1, upB 4 nc fl, upL 4 zs rw_), _, _, _⟩; rotate_right; (refine aq.of [0, 1, 2, 3, 4, 5, 6] rfl ?_ ?_ rfl rfl <;> refine' aj); rotate_right; exact aw)
    exact ⟨by omega, ah h5 hir, ah (Q := fun l => l.length <= 5) (by omega) hl5⟩
   ·refine' yc253
    (refine' ⟨(4 + 1, upB 4 nc fl, upL 4 zs rw_), _, _, _⟩; rotate_right; (refine aq.of [0, 1, 2, 3, 4, 7, 6] rfl ?_ ?_ rfl rfl <;> refine' aj); rotate_right; exact aw)
    exact ⟨by omega, ah h5 hir, ah (Q := fun l => l.length <= 5) (by omega) hl5⟩
  ·refine' yc253
   refine ab.loc [6] [] rfl rfl ((aF (fl 5) (rw_ 5) 6 (hir 5) (by have := hl5 5; omega)).mono ?_)
   rintro _ _ ⟨ys, h1, h2, rfl, rfl⟩
   have h3 := hl5 5
   refine' yc253
   refine ab.loc [6] [] rfl rfl ((aA (fl 5) ys 6 (by omega) h2 (by omega)).mono ?_)
   rintro _ _ ⟨zs, nc, h4, h5, ⟨rfl, rfl⟩ | ⟨rfl, rfl⟩⟩
   ·refine' yc253
    (refine' ⟨(5 + 1, upB 5 nc fl, upL 5 zs rw_), _, _, _⟩; rotate_right; (refine aq.of [0, 1, 2, 3, 4, 5, 6] rfl ?_ ?_ rfl rfl <;> refine' aj); rotate_right; exact aw)
    exact ⟨by omega, ah h5 hir, ah (Q := fun l => l.length <= 5) (by omega) hl5⟩
   ·refine' yc253
    (refine' ⟨(5 + 1, upB 5 nc fl, upL 5 zs rw_), _, _, _⟩; rotate_right; (refine aq.of [0, 1, 2, 3, 4, 5, 7] rfl ?_ ?_ rfl rfl <;> refine' aj); rotate_right; exact aw)
    exact ⟨by omega, ah h5 hir, ah (Q := fun l => l.length <= 5) (by omega) hl5⟩
 ·refine' y3971
  (refine' ay.mk _ _ _ [0, 1, 2, 3, 4, 5, 6] (.tup [.sub 0 0 6, .p (pI 0)]) ([some (.cells [.buf 1, .buf 2, .buf 3, .buf 4, .buf 5, .buf 6]), some (AO.buf 3 (fl 0) ((rw_ 0).map pI)), some (AO.buf 3 (fl 1) ((rw_ 1).map pI)), some (AO.buf 3 (fl 2) ((rw_ 2).map pI)), some (AO.buf 3 (fl 3) ((rw_ 3).map pI)), some (AO.buf 3 (fl 4) ((rw_ 4).map pI)), some (AO.buf 3 (fl 5) ((rw_ 5).map pI))]) rfl rfl _ rfl rfl _ <;> refine' aj)
  exact .inr ⟨fl, rw_, hir, rfl, rfl⟩
set_option maxHeartbeats 40000000 in
theorem tj (nl : Bool) (ns : List Nd) (h : FV ns) (hn : ns.length = 7) (t c : ByteArray) : ao Tryz.prog 86 [.p (.agg [.list nl (ns.map Nd.pv)]), .p (pS t), .p (pS c)] [] fun r H => (∃ e : Int, e ≠ 0 /\ r = .tup [.p (.list true []), .p (pI e)] /\ H = []) \/ ∃ (fl : Nat -> Bool) (rw_ : Nat -> List Int), (∀ j, InR 7 (rw_ j)) /\ r = .tup [.sub 0 0 7, .p (pI 0)] /\ H = [some (.cells [.buf 1, .buf 2, .buf 3, .buf 4, .buf 5, .buf 6, .buf 7]), some (AO.buf 3 (fl 0) ((rw_ 0).map pI)), some (AO.buf 3 (fl 1) ((rw_ 1).map pI)), some (AO.buf 3 (fl 2) ((rw_ 2).map pI)), some (AO.buf 3 (fl 3) ((rw_ 3).map pI)), some (AO.buf 3 (fl 4) ((rw_ 4).map pI)), some (AO.buf 3 (fl 5) ((rw_ 5).map pI)), some (AO.buf 3 (fl 6) ((rw_ 6).map pI))] := by
 refine aa Tryz.func86 rfl rfl au rfl ?_
 refine' y3971
 refine ab.loc [] [] rfl rfl ((cM nl ns h t c).mono ?_)
 rintro _ _ ⟨nb, l, e, ⟨hrg, hcn⟩, hl40, rfl, rfl⟩
 rw [hn] at hrg
 refine' y3971
 ·(refine' ay.auto (.tup [.p (.list true []), .p (pI e)]) ([]) rfl rfl rfl rfl _ _ _ <;> refine' aj)
  exact .inl ⟨e, by assumption, rfl, rfl⟩
 refine IsL.mk [.list true [], .list true [], .list true [], .list true [], .list true [], .list true [], .list true []] (by rw [hn]; rfl) ?_
 refine' y3971
 refine' ai (fun (⟨c, fl, rw_⟩ : Nat × (Nat -> Bool) × (Nat -> List Int)) => ⟨[(10, .sub 0 0 7), (28, .p (.list nb (l.map Lk.pv))), (29, .p (pI l.length)), (30, .p (pI c))], [some (.cells [.buf 1, .buf 2, .buf 3, .buf 4, .buf 5, .buf 6, .buf 7]), some (AO.buf 3 (fl 0) ((rw_ 0).map pI)), some (AO.buf 3 (fl 1) ((rw_ 1).map pI)), some (AO.buf 3 (fl 2) ((rw_ 2).map pI)), some (AO.buf 3 (fl 3) ((rw_ 3).map pI)), some (AO.buf 3 (fl 4) ((rw_ 4).map pI)), some (AO.buf 3 (fl 5) ((rw_ 5).map pI)), some (AO.buf 3 (fl 6) ((rw_ 6).map pI))]⟩) (fun ⟨c, fl, rw_⟩ => c <= l.length /\ (∀ j, InR 7 (rw_ j)) /\ (∀ j : Nat, (rw_ j).length + jF j (l.drop c) <= 5)) (fun ⟨c, fl, rw_⟩ => l.length - c) (0, fun _ => true, fun _ => []) _ _ _; rotate_right; rotate_right; rotate_right; (refine aq.qU _ 10 1 _ _ _ rfl rfl (by simp) ?_; refine aq.cell _ 2 0 3 _ _ _ _ _ rfl rfl rfl ?_; show aq _ _ _ ⟨_, [_, _, some (AO.cells [.buf 3, .p (.list true []), .p (.list true []), .p (.list true []), .p (.list true []), .p (.list true []), .p (.list true [])]), some (AO.buf 3 true [])]⟩; refine aq.cell _ 2 1 3 _ _ _ _ _ rfl rfl rfl ?_; show aq _ _ _ ⟨_, [_, _, some (AO.cells [.buf 3, .buf 4, .p (.list true []), .p (.list true []), .p (.list true []), .p (.list true []), .p (.list true [])]), some (AO.buf 3 true []), some (AO.buf 3 true [])]⟩; refine aq.cell _ 2 2 3 _ _ _ _ _ rfl rfl rfl ?_; show aq _ _ _ ⟨_, [_, _, some (AO.cells [.buf 3, .buf 4, .buf 5, .p (.list true []), .p (.list true []), .p (.list true []), .p (.list true [])]), some (AO.buf 3 true []), some (AO.buf 3 true []), some (AO.buf 3 true [])]⟩; refine aq.cell _ 2 3 3 _ _ _ _ _ rfl rfl rfl ?_; show aq _ _ _ ⟨_, [_, _, some (AO.cells [.buf 3, .buf 4, .buf 5, .buf 6, .p (.list true []), .p (.list true []), .p (.list true [])]), some (AO.buf 3 true []), some (AO.buf 3 true []), some (AO.buf 3 true []), some (AO.buf 3 true [])]⟩; refine aq.cell _ 2 4 3 _ _ _ _ _ rfl rfl rfl ?_; show aq _ _ _ ⟨_, [_, _, some (AO.cells [.buf 3, .buf 4, .buf 5, .buf 6, .buf 7, .p (.list true []), .p (.list true [])]), some (AO.buf 3 true []), some (AO.buf 3 true []), some (AO.buf 3 true []), some (AO.buf 3 true []), some (AO.buf 3 true [])]⟩; refine aq.cell _ 2 5 3 _ _ _ _ _ rfl rfl rfl ?_; show aq _ _ _ ⟨_, [_, _, some (AO.cells [.buf 3, .buf 4, .buf 5, .buf 6, .buf 7, .buf 8, .p (.list true [])]), some (AO.buf 3 true []), some (AO.buf 3 true []), some (AO.buf 3 true []), some (AO.buf 3 true []), some (AO.buf 3 true []), some (AO.buf 3 true [])]⟩; refine aq.cell _ 2 6 3 _ _ _ _ _ rfl rfl rfl ?_; show aq _ _ _ ⟨_, [_, _, some (AO.cells [.buf 3, .buf 4, .buf 5, .buf 6, .buf 7, .buf 8, .buf 9]), some (AO.buf 3 true []), some (AO.buf 3 true []), some (AO.buf 3 true []), some (AO.buf 3 true []), some (AO.buf 3 true []), some (AO.buf 3 true []), some (AO.buf 3 true [])]⟩; refine aq.of [2, 3, 4, 5, 6, 7, 8, 9] rfl ?_ ?_ rfl rfl <;> refine' aj)
 ·exact ⟨by omega, fun _ => by simp [InR], fun j => by have := hcn j; simpa using this⟩
 rintro ⟨c, fl, rw_⟩ ⟨hc, hir, hct⟩
 try simp only at hc hir hct
 rcases Nat.lt_or_ge c l.length with hlt | hge
 ·obtain ⟨x, hx⟩ : ∃ x, l[c]? = some x := ⟨l[c], List.getElem?_eq_getElem hlt⟩
  obtain ⟨r1, r2, r3, r4⟩ := hrg x (List.mem_of_getElem? hx)
  have hx2 : (l.map Lk.pv)[((c : Int)).toNat]? = some (Lk.pv x) := by rw [Int.toNat_natCast, List.getElem?_map, hx]; rfl
  obtain ⟨nd, pv, pp, ix, an, ar⟩ := x
  simp only at r1 r2 r3 r4
  have hcs : nd = 0 \/ nd = 1 \/ nd = 2 \/ nd = 3 \/ nd = 4 \/ nd = 5 \/ nd = 6 := by omega
  have hct2 : ∀ i : Nat, nd = i -> _ := fun i hi => dK hx rw_ i hi pv hct
  have hir2 : ∀ i : Nat, InR 7 (rw_ i ++ [pv]) := fun i y hy => (List.mem_append.1 hy).elim (hir i y) fun hy => by simp at hy; subst hy; exact ⟨r3, r4⟩
  have hrl : ∀ j : Nat, (rw_ j).length <= 5 := fun j => by have := hct j; omega
  clear hx r1 r2 hct
  have hb0 := hrl 0
  have hb1 := hrl 1
  have hb2 := hrl 2
  have hb3 := hrl 3
  have hb4 := hrl 4
  have hb5 := hrl 5
  have hb6 := hrl 6
  rcases hcs with rfl | rfl | rfl | rfl | rfl | rfl | rfl
  all_goals (conv => whnf); repeat' ((first | (apply PdC.same; · with_reducible rfl) | apply PdC.chk | apply PdA.mk | (apply EqA.mk; rfl) | (apply LzA.mk; · ((conv => whnf); repeat' ((first | (apply EqA.mk; rfl) | (refine bO.mk _ (by omega) hx2 ?_) | refine' za37d | fail) <;> (conv => whnf)))) | (refine bO.mk _ (by omega) hx2 ?_) | refine' zc253 | (apply ax.lin gr8 (by kernel_rfl) (by decide +kernel))) <;> (conv => whnf))
  ·(refine' ⟨(c + 1, upB 0 false fl, upL 0 (rw_ 0 ++ [pv]) rw_), _, _, _⟩; rotate_right; (refine aq.of [0, 9, 2, 3, 4, 5, 6, 7] rfl ?_ ?_ rfl rfl <;> refine' aj); rotate_right; exact aw)
   exact ⟨by omega, ah (hir2 0) hir, hct2 0 rfl⟩
  ·(refine' ⟨(c + 1, upB 1 false fl, upL 1 (rw_ 1 ++ [pv]) rw_), _, _, _⟩; rotate_right; (refine aq.of [0, 1, 9, 3, 4, 5, 6, 7] rfl ?_ ?_ rfl rfl <;> refine' aj); rotate_right; exact aw)
   exact ⟨by omega, ah (hir2 1) hir, hct2 1 rfl⟩
  ·(refine' ⟨(c + 1, upB 2 false fl, upL 2 (rw_ 2 ++ [pv]) rw_), _, _, _⟩; rotate_right; (refine aq.of [0, 1, 2, 9, 4, 5, 6, 7] rfl ?_ ?_ rfl rfl <;> refine' aj); rotate_right; exact aw)
   exact ⟨by omega, ah (hir2 2) hir, hct2 2 rfl⟩
  ·(refine' ⟨(c + 1, upB 3 false fl, upL 3 (rw_ 3 ++ [pv]) rw_), _, _, _⟩; rotate_right; (refine aq.of [0, 1, 2, 3, 9, 5, 6, 7] rfl ?_ ?_ rfl rfl <;> refine' aj); rotate_right; exact aw)
   exact ⟨by omega, ah (hir2 3) hir, hct2 3 rfl⟩
  ·(refine' ⟨(c + 1, upB 4 false fl, upL 4 (rw_ 4 ++ [pv]) rw_), _, _, _⟩; rotate_right; (refine aq.of [0, 1, 2, 3, 4, 9, 6, 7] rfl ?_ ?_ rfl rfl <;> refine' aj); rotate_right; exact aw)
   exact ⟨by omega, ah (hir2 4) hir, hct2 4 rfl⟩
  ·(refine' ⟨(c + 1, upB 5 false fl, upL 5 (rw_ 5 ++ [pv]) rw_), _, _, _⟩; rotate_right; (refine aq.of [0, 1, 2, 3, 4, 5, 9, 7] rfl ?_ ?_ rfl rfl <;> refine' aj); rotate_right; exact aw)
   exact ⟨by omega, ah (hir2 5) hir, hct2 5 rfl⟩
  ·(refine' ⟨(c + 1, upB 6 false fl, upL 6 (rw_ 6 ++ [pv]) rw_), _, _, _⟩; rotate_right; (refine aq.of [0, 1, 2, 3, 4, 5, 6, 9] rfl ?_ ?_ rfl rfl <;> refine' aj); rotate_right; exact aw)
   exact ⟨by omega, ah (hir2 6) hir, hct2 6 rfl⟩
 have hl5 : ∀ j : Nat, (rw_ j).length <= 5 := fun j => by have := hct j; omega
 clear hct
 refine' y3971
 refine ai (fun (⟨k, fl, rw_⟩ : Nat × (Nat -> Bool) × (Nat -> List Int)) => ⟨[(10, .sub 0 0 7), (49, .p (pI 7)), (50, .p (pI k))], [some (.cells [.buf 1, .buf 2, .buf 3, .buf 4, .buf 5, .buf 6, .buf 7]), some (AO.buf 3 (fl 0) ((rw_ 0).map pI)), some (AO.buf 3 (fl 1) ((rw_ 1).map pI)), some (AO.buf 3 (fl 2) ((rw_ 2).map pI)), some (AO.buf 3 (fl 3) ((rw_ 3).map pI)), some (AO.buf 3 (fl 4) ((rw_ 4).map pI)), some (AO.buf 3 (fl 5) ((rw_ 5).map pI)), some (AO.buf 3 (fl 6) ((rw_ 6).map pI))]⟩) (fun ⟨k, fl, rw_⟩ => k <= 7 /\ (∀ j, InR 7 (rw_ j)) /\ (∀ j : Nat, (rw_ j).length <= 5)) (fun ⟨k, fl, rw_⟩ => 7 - k) (0, fl, rw_) ?_ ?_ ?_; (refine aq.of [0, 1, 2, 3, 4, 5, 6, 7] rfl ?_ ?_ rfl rfl <;> refine' aj)
 ·exact ⟨by omega, hir, hl5⟩
 clear hir hl5
 rintro ⟨k, fl, rw_⟩ ⟨hk, hir, hl5⟩
 try simp only at hk hir hl5
 rcases Nat.lt_or_ge k 7 with hlt | hge
 ·have hcs : k = 0 \/ k = 1 \/ k = 2 \/ k = 3 \/ k = 4 \/ k = 5 \/ k = 6 := by omega
  rcases hcs with rfl | rfl | rfl | rfl | rfl | rfl | rfl
  ·refine' yc253
   refine ab.loc [1] [] rfl rfl ((aF (fl 0) (rw_ 0) 7 (hir 0) (by have := hl5 0; omega)).mono ?_)
   rintro _ _ ⟨ys, h1, h2, rfl, rfl⟩
   have h3 := hl5 0
   refine' yc253
   refine ab.loc [1] [] rfl rfl ((aA (fl 0) ys 7 (by omega) h2 (by omega)).mono ?_)
   rintro _ _ ⟨zs, nc, h4, h5, ⟨rfl, rfl⟩ | ⟨rfl, rfl⟩⟩
   ·refine' yc253
    (refine' ⟨(0 + 1, upB 0 nc fl, upL 0 zs rw_), _, _, _⟩; rotate_right; (refine aq.of [0, 1, 2, 3, 4, 5, 6, 7] rfl ?_ ?_ rfl rfl <;> refine' aj); rotate_right; exact aw)
    exact ⟨by omega, ah h5 hir, ah (Q := fun l => l.length <= 5) (by omega) hl5⟩
   ·refine' yc253
    (refine' ⟨(0 + 1, upB 0 nc fl, upL 0 zs rw_), _, _, _⟩; rotate_right; (refine aq.of [0, 8, 2, 3, 4, 5, 6, 7] rfl ?_ ?_ rfl rfl <;> refine' aj); rotate_right; exact aw)
    exact ⟨by omega, ah h5 hir, ah (Q := fun l => l.length <= 5) (by omega) hl5⟩
  ·refine' yc253
   refine ab.loc [2] [] rfl rfl ((aF (fl 1) (rw_ 1) 7 (hir 1) (by have := hl5 1; omega)).mono ?_)
   rintro _ _ ⟨ys, h1, h2, rfl, rfl⟩
   have h3 := hl5 1
   refine' yc253
   refine ab.loc [2] [] rfl rfl ((aA (fl 1) ys 7 (by omega) h2 (by omega)).mono ?_)
   rintro _ _ ⟨zs, nc, h4, h5, ⟨rfl, rfl⟩ | ⟨rfl, rfl⟩⟩
   ·refine' yc253
    (refine' ⟨(1 + 1, upB 1 nc fl, upL 1 zs rw_), _, _, _⟩; rotate_right; (refine aq.of [0, 1, 2, 3, 4, 5, 6, 7] rfl ?_ ?_ rfl rfl <;> refine' aj); rotate_right; exact aw)
    exact ⟨by omega, ah h5 hir, ah (Q := fun l => l.length <= 5) (by omega) hl5⟩
   ·refine' yc253
    (refine' ⟨(1 + 1, upB 1 nc fl, upL 1 zs rw_), _, _, _⟩; rotate_right; (refine aq.of [0, 1, 8, 3, 4, 5, 6, 7] rfl ?_ ?_ rfl rfl <;> refine' aj); rotate_right; exact aw)
    exact ⟨by omega, ah h5 hir, ah (Q := fun l => l.length <= 5) (by omega) hl5⟩
  ·refine' yc253
   refine ab.loc [3] [] rfl rfl ((aF (fl 2) (rw_ 2) 7 (hir 2) (by have := hl5 2; omega)).mono ?_)
   rintro _ _ ⟨ys, h1, h2, rfl, rfl⟩
   have h3 := hl5 2
   refine' yc253
   refine ab.loc [3] [] rfl rfl ((aA (fl 2) ys 7 (by omega) h2 (by omega)).mono ?_)
   rintro _ _ ⟨zs, nc, h4, h5, ⟨rfl, rfl⟩ | ⟨rfl, rfl⟩⟩
   ·refine' yc253
    (refine' ⟨(2 + 1, upB 2 nc fl, upL 2 zs rw_), _, _, _⟩; rotate_right; (refine aq.of [0, 1, 2, 3, 4, 5, 6, 7] rfl ?_ ?_ rfl rfl <;> refine' aj); rotate_right; exact aw)
    exact ⟨by omega, ah h5 hir, ah (Q := fun l => l.length <= 5) (by omega) hl5⟩
   ·refine' yc253
    (refine' ⟨(2 + 1, upB 2 nc fl, upL 2 zs rw_), _, _, _⟩; rotate_right; (refine aq.of [0, 1, 2, 8, 4, 5, 6, 7] rfl ?_ ?_ rfl rfl <;> refine' aj); rotate_right; exact aw)
    exact ⟨by omega, ah h5 hir, ah (Q := fun l => l.length <= 5) (by omega) hl5⟩
  ·refine' yc253
   refine ab.loc [4] [] rfl rfl ((aF (fl 3) (rw_ 3) 7 (hir 3) (by have := hl5 3; omega)).mono ?_)
   rintro _ _ ⟨ys, h1, h2, rfl, rfl⟩
   have h3 := hl5 3
   refine' yc253
   refine ab.loc [4] [] rfl rfl ((aA (fl 3) ys 7 (by omega) h2 (by omega)).mono ?_)
   rintro _ _ ⟨zs, nc, h4, h5, ⟨rfl, rfl⟩ | ⟨rfl, rfl⟩⟩
   ·refine' yc253
    (refine' ⟨(3 + 1, upB 3 nc fl, upL 3 zs rw_), _, _, _⟩; rotate_right; (refine aq.of [0, 1, 2, 3, 4, 5, 6, 7] rfl ?_ ?_ rfl rfl <;> refine' aj); rotate_right; exact aw)
    exact ⟨by omega, ah h5 hir, ah (Q := fun l => l.length <= 5) (by omega) hl5⟩
   ·refine' yc253
    (refine' ⟨(3 + 1, upB 3 nc fl, upL 3 zs rw_), _, _, _⟩; rotate_right; (refine aq.of [0, 1, 2, 3, 8, 5, 6, 7] rfl ?_ ?_ rfl rfl <;> refine' aj); rotate_right; exact aw)
    exact ⟨by omega, ah h5 hir, ah (Q := fun l => l.length <= 5) (by omega) hl5⟩
  ·refine' yc253
   refine ab.loc [5] [] rfl rfl ((aF (fl 4) (rw_ 4) 7 (hir 4) (by have := hl5 4; omega)).mono ?_)
   rintro _ _ ⟨ys, h1, h2, rfl, rfl⟩
   have h3 := hl5 4
   refine' yc253
   refine ab.loc [5] [] rfl rfl ((aA (fl 4) ys 7 (by omega) h2 (by omega)).mono ?_)
   rintro _ _ ⟨zs, nc, h4, h5, ⟨rfl, rfl⟩ | ⟨rfl, rfl⟩⟩
   ·refine' yc253
    (refine' ⟨(4 + 1, upB 4 nc fl, upL 4 zs rw_), _, _, _⟩; rotate_right; (refine aq.of [0, 1, 2, 3, 4, 5, 6, 7] rfl ?_ ?_ rfl rfl <;> refine' aj); rotate_right; exact aw)
    exact ⟨by omega, ah h5 hir, ah (Q := fun l => l.length <= 5) (by omega) hl5⟩
   ·refine' yc253
    (refine' ⟨(4 + 1, upB 4 nc fl, upL 4 zs rw_), _, _, _⟩; rotate_right; (refine aq.of [0, 1, 2, 3, 4, 8, 6, 7] rfl ?_ ?_ rfl rfl <;> refine' aj); rotate_right; exact aw)
    exact ⟨by omega, ah h5 hir, ah (Q := fun l => l.length <= 5) (by omega) hl5⟩
  ·refine' yc253
   refine ab.loc [6] [] rfl rfl ((aF (fl 5) (rw_ 5) 7 (hir 5) (by have := hl5 5; omega)).mono ?_)
   rintro _ _ ⟨ys, h1, h2, rfl, rfl⟩
   have h3 := hl5 5
   refine' yc253
   refine ab.loc [6] [] rfl rfl ((aA (fl 5) ys 7 (by omega) h2 (by omega)).mono ?_)
   rintro _ _ ⟨zs, nc, h4, h5, ⟨rfl, rfl⟩ | ⟨rfl, rfl⟩⟩
   ·refine' yc253
    (refine' ⟨(5 + 1, upB 5 nc fl, upL 5 zs rw_), _, _, _⟩; rotate_right; (refine aq.of [0, 1, 2, 3, 4, 5, 6, 7] rfl ?_ ?_ rfl rfl <;> refine' aj); rotate_right; exact aw)
    exact ⟨by omega, ah h5 hir, ah (Q := fun l => l.length <= 5) (by omega) hl5⟩
   ·refine' yc253
    (refine' ⟨(5 + 1, upB 5 nc fl, upL 5 zs rw_), _, _, _⟩; rotate_right; (refine aq.of [0, 1, 2, 3, 4, 5, 8, 7] rfl ?_ ?_ rfl rfl <;> refine' aj); rotate_right; exact aw)
    exact ⟨by omega, ah h5 hir, ah (Q := fun l => l.length <= 5) (by omega) hl5⟩
  ·refine' yc253
   refine ab.loc [7] [] rfl rfl ((aF (fl 6) (rw_ 6) 7 (hir 6) (by have := hl5 6; omega)).mono ?_)
   rintro _ _ ⟨ys, h1, h2, rfl, rfl⟩
   have h3 := hl5 6
   refine' yc253
   refine ab.loc [7] [] rfl rfl ((aA (fl 6) ys 7 (by omega) h2 (by omega)).mono ?_)
   rintro _ _ ⟨zs, nc, h4, h5, ⟨rfl, rfl⟩ | ⟨rfl, rfl⟩⟩
   ·refine' yc253
    (refine' ⟨(6 + 1, upB 6 nc fl, upL 6 zs rw_), _, _, _⟩; rotate_right; (refine aq.of [0, 1, 2, 3, 4, 5, 6, 7] rfl ?_ ?_ rfl rfl <;> refine' aj); rotate_right; exact aw)
    exact ⟨by omega, ah h5 hir, ah (Q := fun l => l.length <= 5) (by omega) hl5⟩
   ·refine' yc253
    (refine' ⟨(6 + 1, upB 6 nc fl, upL 6 zs rw_), _, _, _⟩; rotate_right; (refine aq.of [0, 1, 2, 3, 4, 5, 6, 8] rfl ?_ ?_ rfl rfl <;> refine' aj); rotate_right; exact aw)
    exact ⟨by omega, ah h5 hir, ah (Q := fun l => l.length <= 5) (by omega) hl5⟩
 ·refine' y3971
  (refine' ay.mk _ _ _ [0, 1, 2, 3, 4, 5, 6, 7] (.tup [.sub 0 0 7, .p (pI 0)]) ([some (.cells [.buf 1, .buf 2, .buf 3, .buf 4, .buf 5, .buf 6, .buf 7]), some (AO.buf 3 (fl 0) ((rw_ 0).map pI)), some (AO.buf 3 (fl 1) ((rw_ 1).map pI)), some (AO.buf 3 (fl 2) ((rw_ 2).map pI)), some (AO.buf 3 (fl 3) ((rw_ 3).map pI)), some (AO.buf 3 (fl 4) ((rw_ 4).map pI)), some (AO.buf 3 (fl 5) ((rw_ 5).map pI)), some (AO.buf 3 (fl 6) ((rw_ 6).map pI))]) rfl rfl _ rfl rfl _ <;> refine' aj)
  exact .inr ⟨fl, rw_, hir, rfl, rfl⟩
set_option maxHeartbeats 40000000 in
theorem th (nl : Bool) (ns : List Nd) (h : FV ns) (hn : ns.length = 8) (t c : ByteArray) : ao Tryz.prog 86 [.p (.agg [.list nl (ns.map Nd.pv)]), .p (pS t), .p (pS c)] [] fun r H => (∃ e : Int, e ≠ 0 /\ r = .tup [.p (.list true []), .p (pI e)] /\ H = []) \/ ∃ (fl : Nat -> Bool) (rw_ : Nat -> List Int), (∀ j, InR 8 (rw_ j)) /\ r = .tup [.sub 0 0 8, .p (pI 0)] /\ H = [some (.cells [.buf 1, .buf 2, .buf 3, .buf 4, .buf 5, .buf 6, .buf 7, .buf 8]), some (AO.buf 3 (fl 0) ((rw_ 0).map pI)), some (AO.buf 3 (fl 1) ((rw_ 1).map pI)), some (AO.buf 3 (fl 2) ((rw_ 2).map pI)), some (AO.buf 3 (fl 3) ((rw_ 3).map pI)), some (AO.buf 3 (fl 4) ((rw_ 4).map pI)), some (AO.buf 3 (fl 5) ((rw_ 5).map pI)), some (AO.buf 3 (fl 6) ((rw_ 6).map pI)), some (AO.buf 3 (fl 7) ((rw_ 7).map pI))] := by
 refine aa Tryz.func86 rfl rfl au rfl ?_
 refine' y3971
 refine ab.loc [] [] rfl rfl ((cM nl ns h t c).mono ?_)
 rintro _ _ ⟨nb, l, e, ⟨hrg, hcn⟩, hl40, rfl, rfl⟩
 rw [hn] at hrg
 refine' y3971
 ·(refine' ay.auto (.tup [.p (.list true []), .p (pI e)]) ([]) rfl rfl rfl rfl _ _ _ <;> refine' aj)
  exact .inl ⟨e, by assumption, rfl, rfl⟩
 refine IsL.mk [.list true [], .list true [], .list true [], .list true [], .list true [], .list true [], .list true [], .list true []] (by rw [hn]; rfl) ?_
 refine' y3971
 refine' ai (fun (⟨c, fl, rw_⟩ : Nat × (Nat -> Bool) × (Nat -> List Int)) => ⟨[(10, .sub 0 0 8), (28, .p (.list nb (l.map Lk.pv))), (29, .p (pI l.length)), (30, .p (pI c))], [some (.cells [.buf 1, .buf 2, .buf 3, .buf 4, .buf 5, .buf 6, .buf 7, .buf 8]), some (AO.buf 3 (fl 0) ((rw_ 0).map pI)), some (AO.buf 3 (fl 1) ((rw_ 1).map pI)), some (AO.buf 3 (fl 2) ((rw_ 2).map pI)), some (AO.buf 3 (fl 3) ((rw_ 3).map pI)), some (AO.buf 3 (fl 4) ((rw_ 4).map pI)), some (AO.buf 3 (fl 5) ((rw_ 5).map pI)), some (AO.buf 3 (fl 6) ((rw_ 6).map pI)), some (AO.buf 3 (fl 7) ((rw_ 7).map pI))]⟩) (fun ⟨c, fl, rw_⟩ => c <= l.length /\ (∀ j, InR 8 (rw_ j)) /\ (∀ j : Nat, (rw_ j).length + jF j (l.drop c) <= 5)) (fun ⟨c, fl, rw_⟩ => l.length - c) (0, fun _ => true, fun _ => []) _ _ _; rotate_right; rotate_right; rotate_right; (refine aq.qU _ 10 1 _ _ _ rfl rfl (by simp) ?_; refine aq.cell _ 2 0 3 _ _ _ _ _ rfl rfl rfl ?_; show aq _ _ _ ⟨_, [_, _, some (AO.cells [.buf 3, .p (.list true []), .p (.list true []), .p (.list true []), .p (.list true []), .p (.list true []), .p (.list true []), .p (.list true [])]), some (AO.buf 3 true [])]⟩; refine aq.cell _ 2 1 3 _ _ _ _ _ rfl rfl rfl ?_; show aq _ _ _ ⟨_, [_, _, some (AO.cells [.buf 3, .buf 4, .p (.list true []), .p (.list true []), .p (.list true []), .p (.list true []), .p (.list true []), .p (.list true [])]), some (AO.buf 3 true []), some (AO.buf 3 true [])]⟩; refine aq.cell _ 2 2 3 _ _ _ _ _ rfl rfl rfl ?_; show aq _ _ _ ⟨_, [_, _, some (AO.cells [.buf 3, .buf 4, .buf 5, .p (.list true []), .p (.list true []), .p (.list true []), .p (.list true []), .p (.list true [])]), some (AO.buf 3 true []), some (AO.buf 3 true []), some (AO.buf 3 true [])]⟩; refine aq.cell _ 2 3 3 _ _ _ _ _ rfl rfl rfl ?_; show aq _ _ _ ⟨_, [_, _, some (AO.cells [.buf 3, .buf 4, .buf 5, .buf 6, .p (.list true []), .p (.list true []), .p (.list true []), .p (.list true [])]), some (AO.buf 3 true []), some (AO.buf 3 true []), some (AO.buf 3 true []), some (AO.buf 3 true [])]⟩; refine aq.cell _ 2 4 3 _ _ _ _ _ rfl rfl rfl ?_; show aq _ _ _ ⟨_, [_, _, some (AO.cells [.buf 3, .buf 4, .buf 5, .buf 6, .buf 7, .p (.list true []), .p (.list true []), .p (.list true [])]), some (AO.buf 3 true []), some (AO.buf 3 true []), some (AO.buf 3 true []), some (AO.buf 3 true []), some (AO.buf 3 true [])]⟩; refine aq.cell _ 2 5 3 _ _ _ _ _ rfl rfl rfl ?_; show aq _ _ _ ⟨_, [_, _, some (AO.cells [.buf 3, .buf 4, .buf 5, .buf 6, .buf 7, .buf 8, .p (.list true []), .p (.list true [])]), some (AO.buf 3 true []), some (AO.buf 3 true []), some (AO.buf 3 true []), some (AO.buf 3 true []), some (AO.buf 3 true []), some (AO.buf 3 true [])]⟩; refine aq.cell _ 2 6 3 _ _ _ _ _ rfl rfl rfl ?_; show aq _ _ _ ⟨_, [_, _, some (AO.cells [.buf 3, .buf 4, .buf 5, .buf 6, .buf 7, .buf 8, .buf 9, .p (.list true [])]), some (AO.buf 3 true []), some (AO.buf 3 true []), some (AO.buf 3 true []), some (AO.buf 3 true []), some (AO.buf 3 true []), some (AO.buf 3 true []), some (AO.buf 3 true [])]⟩; refine aq.cell _ 2 7 3 _ _ _ _ _ rfl rfl rfl ?_; show aq _ _ _ ⟨_, [_, _, some (AO.cells [.buf 3, .buf 4, .buf 5, .buf 6, .buf 7, .buf 8, .buf 9, .buf 10]), some (AO.buf 3 true []), some (AO.buf 3 true []), some (AO.buf 3 true []), some (AO.buf 3 true []), some (AO.buf 3 true []), some (AO.buf 3 true []), some (AO.buf 3 true []), some (AO.buf 3 true [])]⟩; refine aq.of [2, 3, 4, 5, 6, 7, 8, 9, 10] rfl ?_ ?_ rfl rfl <;> refine' aj)
 ·exact ⟨by omega, fun _ => by simp [InR], fun j => by have := hcn j; simpa using this⟩
 rintro ⟨c, fl, rw_⟩ ⟨hc, hir, hct⟩
 try simp only at hc hir hct
 rcases Nat.lt_or_ge c l.length with hlt | hge
 ·obtain ⟨x, hx⟩ : ∃ x, l[c]? = some x := ⟨l[c], List.getElem?_eq_getElem hlt⟩
  obtain ⟨r1, r2, r3, r4⟩ := hrg x (List.mem_of_getElem? hx)
  have hx2 : (l.map Lk.pv)[((c : Int)).toNat]? = some (Lk.pv x) := by rw [Int.toNat_natCast, List.getElem?_map, hx]; rfl
  obtain ⟨nd, pv, pp, ix, an, ar⟩ := x
  simp only at r1 r2 r3 r4
  have hcs : nd = 0 \/ nd = 1 \/ nd = 2 \/ nd = 3 \/ nd = 4 \/ nd = 5 \/ nd = 6 \/ nd = 7 := by omega
  have hct2 : ∀ i : Nat, nd = i -> _ := fun i hi => dK hx rw_ i hi pv hct
  have hir2 : ∀ i : Nat, InR 8 (rw_ i ++ [pv]) := fun i y hy => (List.mem_append.1 hy).elim (hir i y) fun hy => by simp at hy; subst hy; exact ⟨r3, r4⟩
  have hrl : ∀ j : Nat, (rw_ j).length <= 5 := fun j => by have := hct j; omega
  clear hx r1 r2 hct
  have hb0 := hrl 0
  have hb1 := hrl 1
  have hb2 := hrl 2
  have hb3 := hrl 3
  have hb4 := hrl 4
  have hb5 := hrl 5
  have hb6 := hrl 6
  have hb7 := hrl 7
  rcases hcs with rfl | rfl | rfl | rfl | rfl | rfl | rfl | rfl
  all_goals (conv => whnf); repeat' ((first | (apply PdC.same; · with_reducible rfl) | apply PdC.chk | apply PdA.mk | (apply EqA.mk; rfl) | (apply LzA.mk; · ((conv => whnf); repeat' ((first | (apply EqA.mk; rfl) | (refine bO.mk _ (by omega) hx2 ?_) | refine' za37d | fail) <;> (conv => whnf)))) | (refine bO.mk _ (by omega) hx2 ?_) | refine' zc253 | (apply ax.lin gr8 (by kernel_rfl) (by decide +kernel))) <;> (conv => whnf))
  ·(refine' ⟨(c + 1, upB 0 false fl, upL 0 (rw_ 0 ++ [pv]) rw_), _, _, _⟩; rotate_right; (refine aq.of [0, 10, 2, 3, 4, 5, 6, 7, 8] rfl ?_ ?_ rfl rfl <;> refine' aj); rotate_right; exact aw)
   exact ⟨by omega, ah (hir2 0) hir, hct2 0 rfl⟩
  ·(refine' ⟨(c + 1, upB 1 false fl, upL 1 (rw_ 1 ++ [pv]) rw_), _, _, _⟩; rotate_right; (refine aq.of [0, 1, 10, 3, 4, 5, 6, 7, 8] rfl ?_ ?_ rfl rfl <;> refine' aj); rotate_right; exact aw)
   exact ⟨by omega, ah (hir2 1) hir, hct2 1 rfl⟩
  ·(refine' ⟨(c + 1, upB 2 false fl, upL 2 (rw_ 2 ++ [pv]) rw_), _, _, _⟩; rotate_right; (refine aq.of [0, 1, 2, 10, 4, 5, 6, 7, 8] rfl ?_ ?_ rfl rfl <;> refine' aj); rotate_right; exact aw)
   exact ⟨by omega, ah (hir2 2) hir, hct2 2 rfl⟩
  ·(refine' ⟨(c + 1, upB 3 false fl, upL 3 (rw_ 3 ++ [pv]) rw_), _, _, _⟩; rotate_right; (refine aq.of [0, 1, 2, 3, 10, 5, 6, 7, 8] rfl ?_ ?_ rfl rfl <;> refine' aj); rotate_right; exact aw)
   exact ⟨by omega, ah (hir2 3) hir, hct2 3 rfl⟩
  ·(refine' ⟨(c + 1, upB 4 false fl, upL 4 (rw_ 4 ++ [pv]) rw_), _, _, _⟩; rotate_right; (refine aq.of [0, 1, 2, 3, 4, 10, 6, 7, 8] rfl ?_ ?_ rfl rfl <;> refine' aj); rotate_right; exact aw)
   exact ⟨by omega, ah (hir2 4) hir, hct2 4 rfl⟩
  ·(refine' ⟨(c + 1, upB 5 false fl, upL 5 (rw_ 5 ++ [pv]) rw_), _, _, _⟩; rotate_right; (refine aq.of [0, 1, 2, 3, 4, 5, 10, 7, 8] rfl ?_ ?_ rfl rfl <;> refine' aj); rotate_right; exact aw)
   exact ⟨by omega, ah (hir2 5) hir, hct2 5 rfl⟩
  ·(refine' ⟨(c + 1, upB 6 false fl, upL 6 (rw_ 6 ++ [pv]) rw_), _, _, _⟩; rotate_right; (refine aq.of [0, 1, 2, 3, 4, 5, 6, 10, 8] rfl ?_ ?_ rfl rfl <;> refine' aj); rotate_right; exact aw)
   exact ⟨by omega, ah (hir2 6) hir, hct2 6 rfl⟩
  ·(refine' ⟨(c + 1, upB 7 false fl, upL 7 (rw_ 7 ++ [pv]) rw_), _, _, _⟩; rotate_right; (refine aq.of [0, 1, 2, 3, 4, 5, 6, 7, 10] rfl ?_ ?_ rfl rfl <;> refine' aj); rotate_right; exact aw)
   exact ⟨by omega, ah (hir2 7) hir, hct2 7 rfl⟩
 have hl5 : ∀ j : Nat, (rw_ j).length <= 5 := fun j => by have := hct j; omega
 clear hct
 refine' y3971
 refine ai (fun (⟨k, fl, rw_⟩ : Nat × (Nat -> Bool) × (Nat -> List Int)) => ⟨[(10, .sub 0 0 8), (49, .p (pI 8)), (50, .p (pI k))], [some (.cells [.buf 1, .buf 2, .buf 3, .buf 4, .buf 5, .buf 6, .buf 7, .buf 8]), some (AO.buf 3 (fl 0) ((rw_ 0).map pI)), some (AO.buf 3 (fl 1) ((rw_ 1).map pI)), some (AO.buf 3 (fl 2) ((rw_ 2).map pI)), some (AO.buf 3 (fl 3) ((rw_ 3).map pI)), some (AO.buf 3 (fl 4) ((rw_ 4).map pI)), some (AO.buf 3 (fl 5) ((rw_ 5).map pI)), some (AO.buf 3 (fl 6) ((rw_ 6).map pI)), some (AO.buf 3 (fl 7) ((rw_ 7).map pI))]⟩) (fun ⟨k, fl, rw_⟩ => k <= 8 /\ (∀ j, InR 8 (rw_ j)) /\ (∀ j : Nat, (rw_ j).length <= 5)) (fun ⟨k, fl, rw_⟩ => 8 - k) (0, fl, rw_) ?_ ?_ ?_; (refine aq.of [0, 1, 2, 3, 4, 5, 6, 7, 8] rfl ?_ ?_ rfl rfl <;> refine' aj)
 ·exact ⟨by omega, hir, hl5⟩
 clear hir hl5
 rintro ⟨k, fl, rw_⟩ ⟨hk, hir, hl5⟩
 try simp only at hk hir hl5
 rcases Nat.lt_or_ge k 8 with hlt | hge
 ·have hcs : k = 0 \/ k = 1 \/ k = 2 \/ k = 3 \/ k = 4 \/ k = 5 \/ k = 6 \/ k = 7 := by omega
  rcases hcs with rfl | rfl | rfl | rfl | rfl | rfl | rfl | rfl
  ·refine' yc253
   refine ab.loc [1] [] rfl rfl ((aF (fl 0) (rw_ 0) 8 (hir 0) (by have := hl5 0; omega)).mono ?_)
   rintro _ _ ⟨ys, h1, h2, rfl, rfl⟩
   have h3 := hl5 0
   refine' yc253
   refine ab.loc [1] [] rfl rfl ((aA (fl 0) ys 8 (by omega) h2 (by omega)).mono ?_)
   rintro _ _ ⟨zs, nc, h4, h5, ⟨rfl, rfl⟩ | ⟨rfl, rfl⟩⟩
   ·refine' yc253
    (refine' ⟨(0 + 1, upB 0 nc fl, upL 0 zs rw_), _, _, _⟩; rotate_right; (refine aq.of [0, 1, 2, 3, 4, 5, 6, 7, 8] rfl ?_ ?_ rfl rfl <;> refine' aj); rotate_right; exact aw)
    exact ⟨by omega, ah h5 hir, ah (Q := fun l => l.length <= 5) (by omega) hl5⟩
   ·refine' yc253
    (refine' ⟨(0 + 1, upB 0 nc fl, upL 0 zs rw_), _, _, _⟩; rotate_right; (refine aq.of [0, 9, 2, 3, 4, 5, 6, 7, 8] rfl ?_ ?_ rfl rfl <;> refine' aj); rotate_right; exact aw)
    exact ⟨by omega, ah h5 hir, ah (Q := fun l => l.length <= 5) (by omega) hl5⟩
  ·refine' yc253
   refine ab.loc [2] [] rfl rfl ((aF (fl 1) (rw_ 1) 8 (hir 1) (by have := hl5 1; omega)).mono ?_)
   rintro _ _ ⟨ys, h1, h2, rfl, rfl⟩
   have h3 := hl5 1
   refine' yc253
   refine ab.loc [2] [] rfl rfl ((aA (fl 1) ys 8 (by omega) h2 (by omega)).mono ?_)
   rintro _ _ ⟨zs, nc, h4, h5, ⟨rfl, rfl⟩ | ⟨rfl, rfl⟩⟩
   ·refine' yc253
    (refine' ⟨(1 + 1, upB 1 nc fl, upL 1 zs rw_), _, _, _⟩; rotate_right; (refine aq.of [0, 1, 2, 3, 4, 5, 6, 7, 8] rfl ?_ ?_ rfl rfl <;> refine' aj); rotate_right; exact aw)
    exact ⟨by omega, ah h5 hir, ah (Q := fun l => l.length <= 5) (by omega) hl5⟩
   ·refine' yc253
    (refine' ⟨(1 + 1, upB 1 nc fl, upL 1 zs rw_), _, _, _⟩; rotate_right; (refine aq.of [0, 1, 9, 3, 4, 5, 6, 7, 8] rfl ?_ ?_ rfl rfl <;> refine' aj); rotate_right; exact aw)
    exact ⟨by omega, ah h5 hir, ah (Q := fun l => l.length <= 5) (by omega) hl5⟩
  ·refine' yc253
   refine ab.loc [3] [] rfl rfl ((aF (fl 2) (rw_ 2) 8 (hir 2) (by have := hl5 2; omega)).mono ?_)
   rintro _ _ ⟨ys, h1, h2, rfl, rfl⟩
   have h3 := hl5 2
   refine' yc253
   refine ab.loc [3] [] rfl rfl ((aA (fl 2) ys 8 (by omega) h2 (by omega)).mono ?_)
   rintro _ _ ⟨zs, nc, h4, h5, ⟨rfl, rfl⟩ | ⟨rfl, rfl⟩⟩
   ·refine' yc253
    (refine' ⟨(2 + 1, upB 2 nc fl, upL 2 zs rw_), _, _, _⟩; rotate_right; (refine aq.of [0, 1, 2, 3, 4, 5, 6, 7, 8] rfl ?_ ?_ rfl rfl <;> refine' aj); rotate_right; exact aw)
    exact ⟨by omega, ah h5 hir, ah (Q := fun l => l.length <= 5) (by omega) hl5⟩
   ·refine' yc253
    (refine' ⟨(2 + 1, upB 2 nc fl, upL 2 zs rw_), _, _, _⟩; rotate_right; (refine aq.of [0, 1, 2, 9, 4, 5, 6, 7, 8] rfl ?_ ?_ rfl rfl <;> refine' aj); rotate_right; exact aw)
    exact ⟨by omega, ah h5 hir, ah (Q := fun l => l.length <= 5) (by omega) hl5⟩
  ·refine' yc253
   refine ab.loc [4] [] rfl rfl ((aF (fl 3) (rw_ 3) 8 (hir 3) (by have := hl5 3; omega)).mono ?_)
   rintro _ _ ⟨ys, h1, h2, rfl, rfl⟩
   have h3 := hl5 3
   refine' yc253
   refine ab.loc [4] [] rfl rfl ((aA (fl 3) ys 8 (by omega) h2 (by omega)).mono ?_)
   rintro _ _ ⟨zs, nc, h4, h5, ⟨rfl, rfl⟩ | ⟨rfl, rfl⟩⟩
   ·refine' yc253
    (refine' ⟨(3 + 1, upB 3 nc fl, upL 3 zs rw_), _, _, _⟩; rotate_right; (refine aq.of [0, 1, 2, 3, 4, 5, 6, 7, 8] rfl ?_ ?_ rfl rfl <;> refine' aj); rotate_right; exact aw)
    exact ⟨by omega, ah h5 hir, ah (Q := fun l => l.length <= 5) (by omega) hl5⟩
   ·refine' yc253
    (refine' ⟨(3 + 1, upB 3 nc fl, upL 3 zs rw_), _, _, _⟩; rotate_right; (refine aq.of [0, 1, 2, 3, 9, 5, 6, 7, 8] rfl ?_ ?_ rfl rfl <;> refine' aj); rotate_right; exact aw)
    exact ⟨by omega, ah h5 hir, ah (Q := fun l => l.length <= 5) (by omega) hl5⟩
  ·refine' yc253
   refine ab.loc [5] [] rfl rfl ((aF (fl 4) (rw_ 4) 8 (hir 4) (by have := hl5 4; omega)).mono ?_)
   rintro _ _ ⟨ys, h1, h2, rfl, rfl⟩
   have h3 := hl5 4
   refine' yc253
   refine ab.loc [5] [] rfl rfl ((aA (fl 4) ys 8 (by omega) h2 (by omega)).mono ?_)
   rintro _ _ ⟨zs, nc, h4, h5, ⟨rfl, rfl⟩ | ⟨rfl, rfl⟩⟩
   ·refine' yc253
    (refine' ⟨(4 + 1, upB 4 nc fl, upL 4 zs rw_), _, _, _⟩; rotate_right; (refine aq.of [0, 1, 2, 3, 4, 5, 6, 7, 8] rfl ?_ ?_ rfl rfl <;> refine' aj); rotate_right; exact aw)
    exact ⟨by omega, ah h5 hir, ah (Q := fun l => l.length <= 5) (by omega) hl5⟩
   ·refine' yc253
    (refine' ⟨(4 + 1, upB 4 nc fl, upL 4 zs rw_), _, _, _⟩; rotate_right; (refine aq.of [0, 1, 2, 3, 4, 9, 6, 7, 8] rfl ?_ ?_ rfl rfl <;> refine' aj); rotate_right; exact aw)
    exact ⟨by omega, ah h5 hir, ah (Q := fun l => l.length <= 5) (by omega) hl5⟩
  ·refine' yc253
   refine ab.loc [6] [] rfl rfl ((aF (fl 5) (rw_ 5) 8 (hir 5) (by have := hl5 5; omega)).mono ?_)
   rintro _ _ ⟨ys, h1, h2, rfl, rfl⟩
   have h3 := hl5 5
   refine' yc253
   refine ab.loc [6] [] rfl rfl ((aA (fl 5) ys 8 (by omega) h2 (by omega)).mono ?_)
   rintro _ _ ⟨zs, nc, h4, h5, ⟨rfl, rfl⟩ | ⟨rfl, rfl⟩⟩
   ·refine' yc253
    (refine' ⟨(5 + 1, upB 5 nc fl, upL 5 zs rw_), _, _, _⟩; rotate_right; (refine aq.of [0, 1, 2, 3, 4, 5, 6, 7, 8] rfl ?_ ?_ rfl rfl <;> refine' aj); rotate_right; exact aw)
    exact ⟨by omega, ah h5 hir, ah (Q := fun l => l.length <= 5) (by omega) hl5⟩
   ·refine' yc253
    (refine' ⟨(5 + 1, upB 5 nc fl, upL 5 zs rw_), _, _, _⟩; rotate_right; (refine aq.of [0, 1, 2, 3, 4, 5, 9, 7, 8] rfl ?_ ?_ rfl rfl <;> refine' aj); rotate_right; exact aw)
    exact ⟨by omega, ah h5 hir, ah (Q := fun l => l.length <= 5) (by omega) hl5⟩
  ·refine' yc253
   refine ab.loc [7] [] rfl rfl ((aF (fl 6) (rw_ 6) 8 (hir 6) (by have := hl5 6; omega)).mono ?_)
   rintro _ _ ⟨ys, h1, h2, rfl, rfl⟩
   have h3 := hl5 6
   refine' yc253
   refine ab.loc [7] [] rfl rfl ((aA (fl 6) ys 8 (by omega) h2 (by omega)).mono ?_)
   rintro _ _ ⟨zs, nc, h4, h5, ⟨rfl, rfl⟩ | ⟨rfl, rfl⟩⟩
   ·refine' yc253
    (refine' ⟨(6 + 1, upB 6 nc fl, upL 6 zs rw_), _, _, _⟩; rotate_right; (refine aq.of [0, 1, 2, 3, 4, 5, 6, 7, 8] rfl ?_ ?_ rfl rfl <;> refine' aj); rotate_right; exact aw)
    exact ⟨by omega, ah h5 hir, ah (Q := fun l => l.length <= 5) (by omega) hl5⟩
   ·refine' yc253
    (refine' ⟨(6 + 1, upB 6 nc fl, upL 6 zs rw_), _, _, _⟩; rotate_right; (refine aq.of [0, 1, 2, 3, 4, 5, 6, 9, 8] rfl ?_ ?_ rfl rfl <;> refine' aj); rotate_right; exact aw)
    exact ⟨by omega, ah h5 hir, ah (Q := fun l => l.length <= 5) (by omega) hl5⟩
  ·refine' yc253
   refine ab.loc [8] [] rfl rfl ((aF (fl 7) (rw_ 7) 8 (hir 7) (by have := hl5 7; omega)).mono ?_)
   rintro _ _ ⟨ys, h1, h2, rfl, rfl⟩
   have h3 := hl5 7
   refine' yc253
   refine ab.loc [8] [] rfl rfl ((aA (fl 7) ys 8 (by omega) h2 (by omega)).mono ?_)
   rintro _ _ ⟨zs, nc, h4, h5, ⟨rfl, rfl⟩ | ⟨rfl, rfl⟩⟩
   ·refine' yc253
    (refine' ⟨(7 + 1, upB 7 nc fl, upL 7 zs rw_), _, _, _⟩; rotate_right; (refine aq.of [0, 1, 2, 3, 4, 5, 6, 7, 8] rfl ?_ ?_ rfl rfl <;> refine' aj); rotate_right; exact aw)
    exact ⟨by omega, ah h5 hir, ah (Q := fun l => l.length <= 5) (by omega) hl5⟩
   ·refine' yc253
    (refine' ⟨(7 + 1, upB 7 nc fl, upL 7 zs rw_), _, _, _⟩; rotate_right; (refine aq.of [0, 1, 2, 3, 4, 5, 6, 7, 9] rfl ?_ ?_ rfl rfl <;> refine' aj); rotate_right; exact aw)
    exact ⟨by omega, ah h5 hir, ah (Q := fun l => l.length <= 5) (by omega) hl5⟩
 ·refine' y3971
  (refine' ay.mk _ _ _ [0, 1, 2, 3, 4, 5, 6, 7, 8] (.tup [.sub 0 0 8, .p (pI 0)]) ([some (.cells [.buf 1, .buf 2, .buf 3, .buf 4, .buf 5, .buf 6, .buf 7, .buf 8]), some (AO.buf 3 (fl 0) ((rw_ 0).map pI)), some (AO.buf 3 (fl 1) ((rw_ 1).map pI)), some (AO.buf 3 (fl 2) ((rw_ 2).map pI)), some (AO.buf 3 (fl 3) ((rw_ 3).map pI)), some (AO.buf 3 (fl 4) ((rw_ 4).map pI)), some (AO.buf 3 (fl 5) ((rw_ 5).map pI)), some (AO.buf 3 (fl 6) ((rw_ 6).map pI)), some (AO.buf 3 (fl 7) ((rw_ 7).map pI))]) rfl rfl _ rfl rfl _ <;> refine' aj)
  exact .inr ⟨fl, rw_, hir, rfl, rfl⟩
def GrV (n : Nat) (rows : List NL) : Prop := ∀ p ∈ rows, InR n p.2
set_option maxHeartbeats 40000000 in
theorem uX (nl : Bool) (ns : List Nd) (h : FV ns) (t c : ByteArray) : ao Tryz.prog 86 [.p (.agg [.list nl (ns.map Nd.pv)]), .p (pS t), .p (pS c)] [] fun r H => ∃ (nb : Bool) (rows : List NL) (e : Int), (e = 0 -> rows.length = ns.length) /\ GrV ns.length rows /\ r = .tup [.p (.list nb (rows.map fI)), .p (pI e)] /\ H = [] := by
 have h1 := h.l1
 have h8 := h.l8
 have hcs : ns.length = 1 \/ ns.length = 2 \/ ns.length = 3 \/ ns.length = 4 \/ ns.length = 5 \/ ns.length = 6 \/ ns.length = 7 \/ ns.length = 8 := by omega
 rcases hcs with hn | hn | hn | hn | hn | hn | hn | hn
 ·refine (tt nl ns h hn t c).rows fun r H' hK => ?_
  rcases hK with ⟨e, he, rfl, rfl⟩ | ⟨fl, rw_, hir, rfl, rfl⟩
  ·exact .inl ⟨rfl, true, [], e, fun h => absurd h he, by simp [GrV], rfl, rfl⟩
  ·refine .inr ⟨[1], 0, 1, ((List.range 1).map fun j => (fl j, rw_ j)).map fI, pI 0, rfl, by unfold live; kernel_rfl, ?_, false, (List.range 1).map fun j => (fl j, rw_ j), 0, fun _ => by rw [List.length_map, List.length_range, hn], ?_, rfl, rfl⟩
   ·intro x hx
    obtain ⟨p, _, rfl⟩ := List.mem_map.1 hx
    rfl
   ·intro p hp
    obtain ⟨j, _, rfl⟩ := List.mem_map.1 hp
    rw [hn]
    exact hir j
 ·refine (tr nl ns h hn t c).rows fun r H' hK => ?_
  rcases hK with ⟨e, he, rfl, rfl⟩ | ⟨fl, rw_, hir, rfl, rfl⟩
  ·exact .inl ⟨rfl, true, [], e, fun h => absurd h he, by simp [GrV], rfl, rfl⟩
  ·refine .inr ⟨[1, 2], 0, 1, ((List.range 2).map fun j => (fl j, rw_ j)).map fI, pI 0, rfl, by unfold live; kernel_rfl, ?_, false, (List.range 2).map fun j => (fl j, rw_ j), 0, fun _ => by rw [List.length_map, List.length_range, hn], ?_, rfl, rfl⟩
   ·intro x hx
    obtain ⟨p, _, rfl⟩ := List.mem_map.1 hx
    rfl
   ·intro p hp
    obtain ⟨j, _, rfl⟩ := List.mem_map.1 hp
    rw [hn]
    exact hir j
 ·refine (tq nl ns h hn t c).rows fun r H' hK => ?_
  rcases hK with ⟨e, he, rfl, rfl⟩ | ⟨fl, rw_, hir, rfl, rfl⟩
  ·exact .inl ⟨rfl, true, [], e, fun h => absurd h he, by simp [GrV], rfl, rfl⟩
  ·refine .inr ⟨[1, 2, 3], 0, 1, ((List.range 3).map fun j => (fl j, rw_ j)).map fI, pI 0, rfl, by unfold live; kernel_rfl, ?_, false, (List.range 3).map fun j => (fl j, rw_ j), 0, fun _ => by rw [List.length_map, List.length_range, hn], ?_, rfl, rfl⟩
   ·intro x hx
    obtain ⟨p, _, rfl⟩ := List.mem_map.1 hx
    rfl
   ·intro p hp
    obtain ⟨j, _, rfl⟩ := List.mem_map.1 hp
    rw [hn]
    exact hir j
 ·refine (tp nl ns h hn t c).rows fun r H' hK => ?_
  rcases hK with ⟨e, he, rfl, rfl⟩ | ⟨fl, rw_, hir, rfl, rfl⟩
  ·exact .inl ⟨rfl, true, [], e, fun h => absurd h he, by simp [GrV], rfl, rfl⟩
  ·refine .inr ⟨[1, 2, 3, 4], 0, 1, ((List.range 4).map fun j => (fl j, rw_ j)).map fI, pI 0, rfl, by unfold live; kernel_rfl, ?_, false, (List.range 4).map fun j => (fl j, rw_ j), 0, fun _ => by rw [List.length_map, List.length_range, hn], ?_, rfl, rfl⟩
   ·intro x hx
    obtain ⟨p, _, rfl⟩ := List.mem_map.1 hx
    rfl
   ·intro p hp
    obtain ⟨j, _, rfl⟩ := List.mem_map.1 hp
    rw [hn]
    exact hir j
 ·refine (tn nl ns h hn t c).rows fun r H' hK => ?_
  rcases hK with ⟨e, he, rfl, rfl⟩ | ⟨fl, rw_, hir, rfl, rfl⟩
  ·exact .inl ⟨rfl, true, [], e, fun h => absurd h he, by simp [GrV], rfl, rfl⟩
  ·refine .inr ⟨[1, 2, 3, 4, 5], 0, 1, ((List.range 5).map fun j => (fl j, rw_ j)).map fI, pI 0, rfl, by unfold live; kernel_rfl, ?_, false, (List.range 5).map fun j => (fl j, rw_ j), 0, fun _ => by rw [List.length_map, List.length_range, hn], ?_, rfl, rfl⟩
   ·intro x hx
    obtain ⟨p, _, rfl⟩ := List.mem_map.1 hx
    rfl
   ·intro p hp
    obtain ⟨j, _, rfl⟩ := List.mem_map.1 hp
    rw [hn]
    exact hir j
 ·refine (tm nl ns h hn t c).rows fun r H' hK => ?_
  rcases hK with ⟨e, he, rfl, rfl⟩ | ⟨fl, rw_, hir, rfl, rfl⟩
  ·exact .inl ⟨rfl, true, [], e, fun h => absurd h he, by simp [GrV], rfl, rfl⟩
  ·refine .inr ⟨[1, 2, 3, 4, 5, 6], 0, 1, ((List.range 6).map fun j => (fl j, rw_ j)).map fI, pI 0, rfl, by unfold live; kernel_rfl, ?_, false, (List.range 6).map fun j => (fl j, rw_ j), 0, fun _ => by rw [List.length_map, List.length_range, hn], ?_, rfl, rfl⟩
   ·intro x hx
    obtain ⟨p, _, rfl⟩ := List.mem_map.1 hx
    rfl
   ·intro p hp
    obtain ⟨j, _, rfl⟩ := List.mem_map.1 hp
    rw [hn]
    exact hir j
 ·refine (tj nl ns h hn t c).rows fun r H' hK => ?_
  rcases hK with ⟨e, he, rfl, rfl⟩ | ⟨fl, rw_, hir, rfl, rfl⟩
  ·exact .inl ⟨rfl, true, [], e, fun h => absurd h he, by simp [GrV], rfl, rfl⟩
  ·refine .inr ⟨[1, 2, 3, 4, 5, 6, 7], 0, 1, ((List.range 7).map fun j => (fl j, rw_ j)).map fI, pI 0, rfl, by unfold live; kernel_rfl, ?_, false, (List.range 7).map fun j => (fl j, rw_ j), 0, fun _ => by rw [List.length_map, List.length_range, hn], ?_, rfl, rfl⟩
   ·intro x hx
    obtain ⟨p, _, rfl⟩ := List.mem_map.1 hx
    rfl
   ·intro p hp
    obtain ⟨j, _, rfl⟩ := List.mem_map.1 hp
    rw [hn]
    exact hir j
 ·refine (th nl ns h hn t c).rows fun r H' hK => ?_
  rcases hK with ⟨e, he, rfl, rfl⟩ | ⟨fl, rw_, hir, rfl, rfl⟩
  ·exact .inl ⟨rfl, true, [], e, fun h => absurd h he, by simp [GrV], rfl, rfl⟩
  ·refine .inr ⟨[1, 2, 3, 4, 5, 6, 7, 8], 0, 1, ((List.range 8).map fun j => (fl j, rw_ j)).map fI, pI 0, rfl, by unfold live; kernel_rfl, ?_, false, (List.range 8).map fun j => (fl j, rw_ j), 0, fun _ => by rw [List.length_map, List.length_range, hn], ?_, rfl, rfl⟩
   ·intro x hx
    obtain ⟨p, _, rfl⟩ := List.mem_map.1 hx
    rfl
   ·intro p hp
    obtain ⟨j, _, rfl⟩ := List.mem_map.1 hp
    rw [hn]
    exact hir j
theorem y980a {P : Prop} (h : P := by
 ((conv => whnf); repeat' ((first | apply aB.plain | refine' gC | refine' gpI | refine' gpB | refine' gpS | refine' bh | refine' bj | refine' mb | refine' gfI | refine' gE | (apply ax.quiet (by kernel_rfl) (by kernel_rfl); (conv => whnf); fail_if_success (show False))) <;> (conv => whnf))) <;> (solve_by_elim (newGoals := .nonDependentOnly) -symm -exfalso (transparency := .reducible) only [rfl, aC])) : P := h
theorem yR (nd : Bool) (d : List Bool) (y : Int) (hy : 0 <= y /\ y < d.length) : ao Tryz.prog 88 [.p (pI y), .ptr 0 0] [some (.cells [.buf 1]), some (AO.buf 4 nd (d.map pB))] fun r H => ∃ b : Bool, r = .p (pB b) /\ H = [some (.cells [.buf 1]), some (AO.buf 4 nd (d.map pB))] := by
 refine aa Tryz.func88 rfl rfl au rfl ?_
 obtain ⟨k, rfl⟩ := Int.eq_ofNat_of_zero_le hy.1
 have hk : k < d.length := by omega
 refine' y980a
 (refine' ay.auto (.p (pB _)) ([some (.cells [.buf 1]), some (AO.buf 4 nd (d.map pB))]) rfl rfl rfl rfl _ _ _ <;> try refine' aj)
 exact ⟨_, rfl, rfl⟩
theorem yV (nd : Bool) (d : List Bool) (nb : Bool) (l : List Int) (hl : InR d.length l) : ao Tryz.prog 137 [.p (.list nb (l.map pI)), .clo (.func 88) [.ptr 0 0]] [some (.cells [.buf 1]), some (AO.buf 4 nd (d.map pB))] fun r H => ∃ i : Int, -1 <= i /\ i <= 9223372036854775807 /\ r = .p (pI i) /\ H = [some (.cells [.buf 1]), some (AO.buf 4 nd (d.map pB))] := by
 refine aa Tryz.func137 rfl rfl au rfl ?_
 refine' y980a
 refine ai (fun (c : Nat) => ⟨[(0, .p (.list nb (l.map pI))), (1, .clo (.func 88) [.ptr 0 0]), (7, .p (pI l.length)), (8, .p (pI c))], [some (.cells [.buf 1]), some (AO.buf 4 nd (d.map pB))]⟩) (fun c => c <= l.length) (fun c => l.length - c) 0 ?_ ?_ ?_; (refine aq.auto rfl rfl rfl rfl ?_ ?_ <;> refine' aj)
 ·omega
 rintro c hc
 rcases Nat.lt_or_ge c l.length with hlt | hge
 ·refine' y980a
  refine ab.loc [0, 1] [] rfl rfl ((yR nd d l[c] (hl.at hlt)).mono ?_)
  rintro _ _ ⟨b, rfl, rfl⟩
  refine' y980a
  ·(refine' ay.auto (.p (pI c)) ([some (.cells [.buf 1]), some (AO.buf 4 nd (d.map pB))]) rfl rfl rfl rfl _ _ _ <;> refine' aj)
   exact ⟨c, by omega, by omega, rfl, rfl⟩
  ·(refine' ⟨c + 1, _, _, _⟩; rotate_right; (refine aq.auto rfl rfl rfl rfl ?_ ?_ <;> refine' aj); rotate_right; exact aw)
   omega
 ·refine' y980a
  (refine' ay.auto (.p (pI (-1))) ([some (.cells [.buf 1]), some (AO.buf 4 nd (d.map pB))]) rfl rfl rfl rfl _ _ _ <;> refine' aj)
  exact ⟨-1, by omega, by omega, rfl, rfl⟩
theorem vC (nd : Bool) (d : List Bool) (nb : Bool) (l : List Int) (hl : InR d.length l) : ao Tryz.prog 87 [.p (.list nb (l.map pI)), .clo (.func 88) [.ptr 0 0]] [some (.cells [.buf 1]), some (AO.buf 4 nd (d.map pB))] fun r H => ∃ b : Bool, r = .p (pB b) /\ H = [some (.cells [.buf 1]), some (AO.buf 4 nd (d.map pB))] := by
 refine aa Tryz.func87 rfl rfl au rfl ?_
 refine' y980a
 refine ab.loc [0, 1] [] rfl rfl ((yV nd d nb l hl).mono ?_)
 rintro _ _ ⟨i, h1, h2, rfl, rfl⟩
 refine' y980a
 (refine' ay.auto (.p (pB _)) ([some (.cells [.buf 1]), some (AO.buf 4 nd (d.map pB))]) rfl rfl rfl rfl _ _ _ <;> try refine' aj)
 exact ⟨_, rfl, rfl⟩
theorem te (nl : Bool) (ns : List Nd) (h : FV ns) (t c : ByteArray) : ao Tryz.prog 32 [.p (.agg [.list nl (ns.map Nd.pv)]), .p (pS t), .p (pS c)] [] fun r H => ∃ (nb : Bool) (out : List Int) (e : Int), InR ns.length out /\ out.length <= 8 /\ r = .tup [.p (.list nb (out.map pI)), .p (pI e)] /\ H = [] := by
 refine aa Tryz.func32 rfl rfl au rfl ?_
 have h8 := h.l8
 refine' y980a
 refine ab.loc [] [] rfl rfl ((uX nl ns h t c).mono ?_)
 rintro _ _ ⟨nb, rows, e, hrl, hrow, rfl, rfl⟩
 refine' y980a
 ·(refine' ay.auto (.tup [.p (.list true []), .p (pI e)]) ([]) rfl rfl rfl rfl _ _ _ <;> refine' aj)
  exact ⟨true, [], e, by simp [InR], by simp, rfl, rfl⟩
 replace hrl := hrl (by assumption)
 refine' y980a
 refine ai (fun (⟨out, d, nb2, nd⟩ : List Int × List Bool × Bool × Bool) => ⟨[(8, .p (.list nb (rows.map fI))), (10, .buf 0), (11, .ptr 1 0)], [some (AO.buf 3 nb2 (out.map pI)), some (.cells [.buf 2]), some (AO.buf 4 nd (d.map pB))]⟩) (fun ⟨out, d, nb2, nd⟩ => InR ns.length out /\ out.length <= ns.length /\ d.length = ns.length) (fun ⟨out, d, nb2, nd⟩ => ns.length - out.length) ([], List.replicate ns.length false, true, false) ?_ ?_ ?_; (refine aq.kM (3, 10) rfl rfl rfl rfl rfl ?_ ?_ <;> refine' aj)
 ·rw [hrl]
  rfl
 ·exact ⟨by simp [InR], by simp, by simp⟩
 rintro ⟨out, d, nb2, nd⟩ ⟨hin, hol, hdl⟩
 try simp only at hin hol hdl
 rcases Nat.lt_or_ge out.length ns.length with hlt | hge
 ·refine' y980a
  refine ai (fun (k : Nat) => ⟨[(8, .p (.list nb (rows.map fI))), (10, .buf 0), (11, .ptr 1 0), (32, .p (pI rows.length)), (33, .p (pI k))], [some (AO.buf 3 nb2 (out.map pI)), some (.cells [.buf 2]), some (AO.buf 4 nd (d.map pB))]⟩) (fun k => k <= ns.length) (fun k => ns.length - k) 0 ?_ ?_ ?_; (refine aq.auto rfl rfl rfl rfl ?_ ?_ <;> refine' aj)
  ·omega
  rintro k hk
  rcases Nat.lt_or_ge k ns.length with hkl | hkg
  ·have hkr : k < rows.length := by omega
   have hkd : k < d.length := by omega
   have hro := hrow _ (List.getElem_mem hkr)
   have hro2 : InR d.length rows[k].2 := by rw [hdl]; exact hro
   refine' y980a
   ·refine ab.loc [1, 2] [] rfl rfl ((vC nd d rows[k].1 rows[k].2 hro2).mono ?_)
    rintro _ _ ⟨b, rfl, rfl⟩
    have hin2 : InR ns.length (out ++ [(k : Int)]) := fun x hx => (List.mem_append.1 hx).elim (hin x) fun hx => by simp at hx; omega
    cases b with
    | true =>
     refine' y980a
     (refine' ⟨k + 1, _, _, _⟩; rotate_right; (refine aq.auto rfl rfl rfl rfl ?_ ?_ <;> refine' aj); rotate_right; exact aw)
     omega
    | false =>
     refine' y980a
     (refine' ⟨(out ++ [(k : Int)], d.set k true, false, nd), _, _, _⟩; rotate_right; (refine aq.of [4, 1, 2] rfl ?_ ?_ rfl rfl <;> refine' aj); rotate_right; exact aw)
     exact ⟨hin2, by simp; omega, by simpa using hdl⟩
   ·(refine' ⟨k + 1, _, _, _⟩; rotate_right; (refine aq.auto rfl rfl rfl rfl ?_ ?_ <;> refine' aj); rotate_right; exact aw)
    omega
  ·refine' y980a
   (refine' ay.auto (.tup [.p (.list true []), .p (pI 10)]) ([]) rfl rfl rfl rfl _ _ _ <;> refine' aj)
   exact ⟨true, [], 10, by simp [InR], by simp, rfl, rfl⟩
 ·refine' y980a
  (refine ay.frz _ _ _ [0] ?_; refine' ay.auto (.tup [.p (.list nb2 (out.map pI)), .p (pI 0)]) ([]) rfl rfl rfl rfl _ _ _ <;> refine' aj)
  exact ⟨nb2, out, 0, hin, by omega, rfl, rfl⟩
def BY : ByteArray := ⟨#[115, 117, 112, 112, 108, 121]⟩
theorem zf : (bk Tryz.prog ti xf 10000 (fun _ => 2) [] 30).1 183 [.p (pS wR)] = some (.tup [.p (.list false [pS BY]), .p (pB true)]) := by kernel_rfl
theorem zg : (bk Tryz.prog ti xf 10000 (fun _ => 2) [] 30).1 183 [.p (pS ByteArray.empty)] = some (.tup [.p (.list true []), .p (pB false)]) := by kernel_rfl
theorem qO : ao Tryz.prog 183 [.p (pS wR)] [] fun r H => r = .tup [.p (.list false [pS BY]), .p (pB true)] /\ H = [] := cd au mixed fD cg 30 zf
theorem qP : ao Tryz.prog 183 [.p (pS ByteArray.empty)] [] fun r H => r = .tup [.p (.list true []), .p (pB false)] /\ H = [] := cd au mixed fD cg 30 zg
theorem yadfd {P : Prop} (h : P := by
 ((conv => whnf); repeat' ((first | apply aB.plain | refine' gC | refine' gpI | refine' gpB | refine' gpS | refine' bh | refine' bj | refine' mb | refine' aI | refine' gE | (apply ax.quiet (by kernel_rfl) (by kernel_rfl); (conv => whnf); fail_if_success (show False))) <;> (conv => whnf))) <;> (solve_by_elim (newGoals := .nonDependentOnly) -symm -exfalso (transparency := .reducible) only [rfl, aC])) : P := h
theorem vc (n : Nd) (t : ByteArray) (hl : n.ps.length <= 100) : ao Tryz.prog 182 [.p n.pv, .p (pS t)] [] fun r H => ∃ (v : ByteArray) (b : Bool), wI n.ps t v b /\ r = .tup [.p (pS v), .p (pB b)] /\ H = [] := by
 refine aa Tryz.func182 rfl rfl au rfl ?_
 refine' yadfd
 refine ab.loc [] [] rfl rfl ((ji _ t (fun p => Ak p t) n.nl n.ps hl).mono ?_)
 rintro _ _ ⟨i, b, hF, rfl, rfl⟩
 cases b with
 | false =>
  refine' yadfd
  (refine' ay.auto (.tup [.p (pS ByteArray.empty), .p (pB false)]) ([]) rfl rfl rfl rfl _ _ _ <;> refine' aj)
  exact ⟨_, _, .inl ⟨rfl, rfl⟩, rfl, rfl⟩
 | true =>
  obtain ⟨hi, he⟩ := hF.2 rfl
  refine' yadfd
  (refine' ay.auto (.tup [.p (pS n.ps[i].2), .p (pB true)]) ([]) rfl rfl rfl rfl _ _ _ <;> refine' aj)
  refine ⟨_, _, .inr ⟨rfl, ?_⟩, rfl, rfl⟩
  rw [<- he]
  exact List.getElem_mem hi
def Al (b : Bool) : PV := match b with
 | true => .list false [pS BY]
 | false => .list true []
theorem rX (n : Nd) (hp : PsV n.ps) : ao Tryz.prog 140 [.p n.pv] [] fun r H => ∃ b : Bool, r = .p (Al b) /\ H = [] := by
 refine aa Tryz.func140 rfl rfl au rfl ?_
 have h7 := hp.len
 refine' yadfd
 refine ab.loc [] [] rfl rfl ((vc n (pn 2) (by omega)).mono ?_)
 rintro _ _ ⟨v, b, hv, rfl, rfl⟩
 rcases hv with ⟨rfl, rfl⟩ | ⟨rfl, hv⟩
 ·refine' yadfd
  refine ab.loc [] [] rfl rfl (qP.mono ?_)
  rintro _ _ ⟨rfl, rfl⟩
  refine' yadfd
  (refine' ay.auto (.p (Al false)) ([]) rfl rfl rfl rfl _ _ _ <;> refine' aj)
  exact ⟨false, rfl, rfl⟩
 ·obtain rfl : v = wR := (hp.2 _ hv).2.2 rfl
  refine' yadfd
  refine ab.loc [] [] rfl rfl (qO.mono ?_)
  rintro _ _ ⟨rfl, rfl⟩
  refine' yadfd
  (refine' ay.auto (.p (Al true)) ([]) rfl rfl rfl rfl _ _ _ <;> refine' aj)
  exact ⟨true, rfl, rfl⟩
theorem zadfd {P : Prop} (h : P := by
 ((first | apply aB.plain | refine' gC | refine' gpI | refine' gpB | refine' gpS | refine' bh | refine' bj | refine' mb | refine' aI | refine' gE | (apply ax.quiet (by kernel_rfl) (by kernel_rfl); (conv => whnf); fail_if_success (show False))) <;> (conv => whnf)) <;> (solve_by_elim (newGoals := .nonDependentOnly) -symm -exfalso (transparency := .reducible) only [rfl, aC])) : P := h
theorem rZ (nl : Bool) (ns : List Nd) (h : FV ns) (k : Nat) (hk : k < ns.length) : ao Tryz.prog 90 [.p (.agg [.list nl (ns.map Nd.pv)]), .p (pI k)] [] fun r H => ∃ b : Bool, r = .p (Al b) /\ H = [] := by
 refine aa Tryz.func90 rfl rfl au rfl ?_
 (conv => whnf); repeat' ((first | refine' zadfd | (refine ab.scalar (cb nl ns h) ?_)) <;> (conv => whnf))
 refine ab.loc [] [] rfl rfl ((rX ns[k] (h.fG hk)).mono ?_)
 rintro _ _ ⟨b, rfl, rfl⟩
 refine' yadfd
 (refine' ay.auto (.p (Al b)) ([]) rfl rfl rfl rfl _ _ _ <;> refine' aj)
 exact ⟨b, rfl, rfl⟩
theorem Bg (nl : Bool) (ns : List Nd) (h : FV ns) (k : Nat) (hk : k < ns.length) : ao Tryz.prog 34 [.p (.agg [.list nl (ns.map Nd.pv)]), .p (pI k)] [] fun r H => ∃ b : Bool, r = .p (pB b) /\ H = [] := by
 refine aa Tryz.func34 rfl rfl au rfl ?_
 refine' yadfd
 refine ab.loc [] [] rfl rfl ((rZ nl ns h k hk).mono ?_)
 rintro _ _ ⟨b, rfl, rfl⟩
 cases b with
 | false =>
  (conv => whnf); repeat' ((first | ((refine cq.mk 0 rfl ?_; intro _)) | refine' zadfd | fail) <;> (conv => whnf))
  (refine ay.p ?_ <;> refine' aj; all_goals try first | refine Et ?_ | refine Dq ?_)
  exact ⟨_, rfl, rfl⟩
 | true =>
  (conv => whnf); repeat' ((first | ((refine cq.mk 1 rfl ?_; intro _)) | refine' zadfd | fail) <;> (conv => whnf))
  (refine ay.p ?_ <;> refine' aj; all_goals try first | refine Et ?_ | refine Dq ?_)
  exact ⟨_, rfl, rfl⟩
theorem nv (nl : Bool) (ns : List Nd) (h : FV ns) (t : ByteArray) (k : Nat) (hk : k < ns.length) (z : Int) : ao Tryz.prog 94 [.p (.agg [.list nl (ns.map Nd.pv)]), .p (pI k), .p (pS t), .p (pI z)] [] fun r H => ∃ (y : Int) (b : Bool), r = .tup [.p (pI y), .p (pB b)] /\ H = [] := by
 refine aa Tryz.func94 rfl rfl au rfl ?_
 refine' yadfd
 refine ab.loc [] [] rfl rfl ((dD nl ns h t k hk).mono ?_)
 rintro _ _ ⟨v, b, hv, rfl, rfl⟩
 have hs := hv.size (h.fG hk)
 cases b with
 | false =>
  refine' yadfd
  (refine' ay.auto (.tup [.p (pI z), .p (pB true)]) ([]) rfl rfl rfl rfl _ _ _ <;> refine' aj)
  exact ⟨_, _, rfl, rfl⟩
 | true =>
  refine' yadfd
  refine ab.loc [] [] rfl rfl ((fe v hs).mono ?_)
  rintro _ _ ⟨nb, l, ok, hl, hl5, rfl, rfl⟩
  cases ok with
  | false =>
   refine' yadfd
   (refine' ay.auto (.tup [.p (pI 0), .p (pB false)]) ([]) rfl rfl rfl rfl _ _ _ <;> refine' aj)
   exact ⟨_, _, rfl, rfl⟩
  | true =>
   refine' yadfd
   ·(refine' ay.auto (.tup [.p (pI 0), .p (pB false)]) ([]) rfl rfl rfl rfl _ _ _ <;> refine' aj)
    exact ⟨_, _, rfl, rfl⟩
   ·(refine' ay.auto (.tup [.p (pI l[0]), .p (pB true)]) ([]) rfl rfl rfl rfl _ _ _ <;> refine' aj)
    exact ⟨_, _, rfl, rfl⟩
theorem zr : ((List.range 9).all fun k => wB 3 (List.replicate k (pI (-1))) (gu Tryz.prog ti (bk Tryz.prog ti xf 1000 md0 [] 6).2 (tK (bk Tryz.prog ti xf 1000 md0 [] 6).1) 1000 33 [.p (.list false [pI (-1)]), .p (pI (k : Nat))] [])) = true := by kernel_rfl
theorem w9 (k : Nat) (hk : k <= 8) : ao Tryz.prog 33 [.p (.list false [pI (-1)]), .p (pI k)] [] fun r H => ∃ nb, r = .buf 0 /\ H = [some (AO.buf 3 nb ((List.replicate k (-1 : Int)).map pI))] := by
 have h := List.all_eq_true.1 zr k (by simp; omega)
 have hp := iL (P := Tryz.prog) (ti := ti) au mixed fD (fuel := 1000) (mode := md0) (tab := []) cg 6
 rw [List.map_replicate]
 exact zZ au mixed hp.2 (mM hp.1) h
theorem w_ (nl : Bool) (ns : List Nd) (h : FV ns) (k : Nat) (hk : k < ns.length) (nu : Bool) (us : List Int) (hu : us.length = ns.length) : ao Tryz.prog 35 [.p (.agg [.list nl (ns.map Nd.pv)]), .p (pI k), .buf 0] [some (AO.buf 3 nu (us.map pI))] fun r H => ∃ (s : Sup) (e : Int), r = .tup [.p s.pv, .p (pI e)] /\ H = [some (AO.buf 3 nu (us.map pI))] := by
 refine aa Tryz.func35 rfl rfl au rfl ?_
 refine' yadfd
 refine ab.loc [] [] rfl rfl ((zO nl ns h _ _ k hk).mono ?_)
 rintro _ _ ⟨nb, l, e, ⟨hl5, hl⟩, rfl, rfl⟩
 refine' yadfd
 refine ai (fun (⟨c, par⟩ : Nat × Int) => ⟨[(1, .p (pI k)), (2, .buf 0), (3, .ptr 1 0), (6, .ptr 2 0), (8, .ptr 3 0), (9, .p (.list nb (l.map Lk.pv))), (30, .p (.list nb (l.map Lk.pv))), (31, .p (pI l.length)), (32, .p (pI c))], [some (AO.buf 3 nu (us.map pI)), some (.cells [.p (.list nl (ns.map Nd.pv))]), some (.cells [.p (pI 0), .p (.list true []), .p (pI 0), .p (pI 0), .p (pB false)]), some (.cells [.p (pI par), .p (.list true []), .p (pI 0), .p (pI 0), .p (pB false)])]⟩) (fun ⟨c, par⟩ => c <= l.length) (fun ⟨c, par⟩ => l.length - c) (0, -1) ?_ ?_ ?_; (refine aq.auto rfl rfl rfl rfl ?_ ?_ <;> refine' aj)
 ·omega
 rintro ⟨c, par⟩ hc
 try simp only at hc
 rcases Nat.lt_or_ge c l.length with hlt | hge
 ·obtain ⟨x, hx⟩ : ∃ x, l[c]? = some x := ⟨l[c], List.getElem?_eq_getElem hlt⟩
  obtain ⟨g1, g2, g3⟩ := hl x (List.mem_of_getElem? hx)
  have hx2 : (l.map Lk.pv)[((c : Int)).toNat]? = some (Lk.pv x) := by rw [Int.toNat_natCast, List.getElem?_map, hx]; rfl
  obtain ⟨nd, pv, pp, ix, an, ar⟩ := x
  simp only at g1 g2 g3
  obtain ⟨q, rfl⟩ := Int.eq_ofNat_of_zero_le g2
  have hq : q < us.length := by omega
  clear hx
  (conv => whnf); repeat' ((first | (refine bO.mk (Lk.pv ⟨nd, q, pp, ix, an, ar⟩) (by omega) hx2 ?_) | refine' zadfd | fail) <;> (conv => whnf))
  ·(refine' ay.auto (.tup [.p (⟨par, true, [], 0, 0, false⟩ : Sup).pv, .p (pI 4)]) ([some (AO.buf 3 nu (us.map pI))]) rfl rfl rfl rfl _ _ _ <;> refine' aj)
   exact ⟨_, _, rfl, rfl⟩
  ·(refine' ⟨(c + 1, us[q]), _, _, _⟩; rotate_right; (refine aq.auto rfl rfl rfl rfl ?_ ?_ <;> refine' aj); rotate_right; exact aw)
   omega
 ·refine' yadfd
  ·(refine' ay.auto (.tup [.p (⟨par, true, [], 0, 0, false⟩ : Sup).pv, .p (pI 1)]) ([some (AO.buf 3 nu (us.map pI))]) rfl rfl rfl rfl _ _ _ <;> refine' aj)
   exact ⟨_, _, rfl, rfl⟩
  ·(refine' ay.auto (.tup [.p (⟨par, true, [], 0, 0, false⟩ : Sup).pv, .p (pI 1)]) ([some (AO.buf 3 nu (us.map pI))]) rfl rfl rfl rfl _ _ _ <;> refine' aj)
   exact ⟨_, _, rfl, rfl⟩
  all_goals
   refine ab.loc [] [] rfl rfl ((dD nl ns h _ k hk).mono ?_)
   rintro _ _ ⟨v, b, hv, rfl, rfl⟩
   refine' yadfd
   refine ab.loc [] [] rfl rfl ((fe v (hv.size (h.fG hk))).mono ?_)
   rintro _ _ ⟨nb2, lv, ok, hlv, hlv5, rfl, rfl⟩
   refine' yadfd
   refine ab.loc [] [] rfl rfl ((nv nl ns h _ k hk 0).mono ?_)
   rintro _ _ ⟨y1, b1, rfl, rfl⟩
   refine' yadfd
   refine ab.loc [] [] rfl rfl ((nv nl ns h _ k hk 10000).mono ?_)
   rintro _ _ ⟨y2, b2, rfl, rfl⟩
   refine' yadfd
   refine ab.loc [] [] rfl rfl ((dD nl ns h _ k hk).mono ?_)
   rintro _ _ ⟨w, b3, hw, rfl, rfl⟩
   cases ok <;> cases b1 <;> cases b2
   all_goals
    refine' yadfd
    all_goals first
     | ((refine' ay.auto (.tup [.p (⟨par, true, [], 0, 0, false⟩ : Sup).pv, .p (pI 1)]) ([some (AO.buf 3 nu (us.map pI))]) rfl rfl rfl rfl _ _ _ <;> refine' aj); exact ⟨_, _, rfl, rfl⟩)
     | ((refine' ay.auto (.tup [.p (⟨par, nb2, lv, y1, y2, b3⟩ : Sup).pv, .p (pI 0)]) ([some (AO.buf 3 nu (us.map pI))]) rfl rfl rfl rfl _ _ _ <;> refine' aj); exact ⟨_, _, rfl, rfl⟩)
theorem ye32a {P : Prop} (h : P := by
 ((conv => whnf); repeat' ((first | apply aB.plain | refine' gC | refine' gpI | refine' gpB | refine' gpS | refine' bh | refine' bj | refine' aI | refine' gE | (apply ax.quiet (by kernel_rfl) (by kernel_rfl); (conv => whnf); fail_if_success (show False))) <;> (conv => whnf))) <;> (solve_by_elim (newGoals := .nonDependentOnly) -symm -exfalso (transparency := .reducible) only [rfl, aC])) : P := h
theorem ze32a {P : Prop} (h : P := by
 ((first | apply aB.plain | refine' gC | refine' gpI | refine' gpB | refine' gpS | refine' bh | refine' bj | refine' aI | refine' gE | (apply ax.quiet (by kernel_rfl) (by kernel_rfl); (conv => whnf); fail_if_success (show False))) <;> (conv => whnf)) <;> (solve_by_elim (newGoals := .nonDependentOnly) -symm -exfalso (transparency := .reducible) only [rfl, aC])) : P := h
theorem pT (nl : Bool) (ns : List Nd) (h : FV ns) : ao Tryz.prog 9 [.p (.agg [.list nl (ns.map Nd.pv)])] [] fun r H => ∃ (nb nu : Bool) (l : List Sup) (us : List Int) (e : Int), (e = 0 -> aT l) /\ r = .tup [.p (.list nb (l.map Sup.pv)), .p (.list nu (us.map pI)), .p (pI e)] /\ H = [] := by
 refine aa Tryz.func9 rfl rfl au rfl ?_
 have h8 := h.l8
 refine' ye32a
 refine ab.loc [] [] rfl rfl ((te nl ns h _ _).mono ?_)
 rintro _ _ ⟨nb, out, e, hin, ho8, rfl, rfl⟩
 refine' ye32a
 ·(refine' ay.auto (.tup [.p (.list true []), .p (.list true []), .p (pI e)]) ([]) rfl rfl rfl rfl _ _ _ <;> refine' aj)
  exact ⟨true, true, [], [], e, fun h => absurd h (by assumption), rfl, rfl⟩
 refine ab.loc [] [1] rfl rfl ((w9 ns.length h8).mono ?_)
 rintro _ _ ⟨nu, rfl, rfl⟩
 refine' ye32a
 refine ai (fun (⟨c, l, us, nb2, nu2⟩ : Nat × List Sup × List Int × Bool × Bool) => ⟨[(1, .ptr 0 0), (7, .buf 1), (8, .buf 2), (27, .p (.list nb (out.map pI))), (28, .p (pI out.length)), (29, .p (pI c))], [some (.cells [.p (.list nl (ns.map Nd.pv))]), some (AO.buf 3 nu2 (us.map pI)), some (AO.buf 70 nb2 (l.map Sup.pv))]⟩) (fun ⟨c, l, us, nb2, nu2⟩ => c <= out.length /\ us.length = ns.length /\ l.length <= c) (fun ⟨c, l, us, nb2, nu2⟩ => out.length - c) (0, [], List.replicate ns.length (-1), true, nu) ?_ ?_ ?_; (refine aq.kM (70, 8) rfl rfl rfl rfl rfl ?_ ?_ <;> refine' aj)
 ·exact ⟨by omega, by simp, by simp⟩
 rintro ⟨c, l, us, nb2, nu2⟩ ⟨hc, hu, hl⟩
 try simp only at hc hu hl
 rcases Nat.lt_or_ge c out.length with hlt | hge
 ·have hk := hin.at hlt
  obtain ⟨k, hke⟩ := Int.eq_ofNat_of_zero_le hk.1
  have hx : (out.map pI)[((c : Int)).toNat]? = some (pI k) := by rw [Int.toNat_natCast, List.getElem?_map, List.getElem?_eq_getElem hlt, hke]; rfl
  have hkn : k < ns.length := by omega
  clear hk hke
  (conv => whnf); repeat' ((first | (refine bO.mk (pI k) (by omega) hx ?_) | refine' ze32a | fail) <;> (conv => whnf))
  refine ab.loc [] [] rfl rfl ((Bg nl ns h k hkn).mono ?_)
  rintro _ _ ⟨b, rfl, rfl⟩
  cases b with
  | false =>
   refine' ye32a
   (refine' ⟨(c + 1, l, us, nb2, nu2), _, _, _⟩; rotate_right; (refine aq.auto rfl rfl rfl rfl ?_ ?_ <;> refine' aj); rotate_right; exact aw)
   exact ⟨by omega, hu, by omega⟩
  | true =>
   refine' ye32a
   refine ab.loc [1] [] rfl rfl ((w_ nl ns h k hkn nu2 us hu).mono ?_)
   rintro _ _ ⟨s, e2, rfl, rfl⟩
   refine' ye32a
   ·(refine' ay.auto (.tup [.p (.list true []), .p (.list true []), .p (pI e2)]) ([]) rfl rfl rfl rfl _ _ _ <;> refine' aj)
    exact ⟨true, true, [], [], e2, fun h => absurd h (by assumption), rfl, rfl⟩
   ·(refine' ⟨(c + 1, l ++ [s], us.set k (l.length : Int), false, nu2), _, _, _⟩; rotate_right; (refine aq.auto rfl rfl rfl rfl ?_ ?_ <;> refine' aj); rotate_right; exact aw)
    exact ⟨by omega, by simpa using hu, by simp; omega⟩
 ·refine' ye32a
  refine dL (dH nb2 l) ?_
  intro e2 he2
  refine' ye32a
  ·(refine' ay.auto (.tup [.p (.list true []), .p (.list true []), .p (pI e2)]) ([]) rfl rfl rfl rfl _ _ _ <;> refine' aj)
   exact ⟨true, true, [], [], e2, fun h => absurd h (by assumption), rfl, rfl⟩
  ·(refine ay.frz _ _ _ [1, 2] ?_; refine' ay.auto (.tup [.p (.list nb2 (l.map Sup.pv)), .p (.list nu2 (us.map pI)), .p (pI 0)]) ([]) rfl rfl rfl rfl _ _ _ <;> refine' aj)
   exact ⟨nb2, nu2, l, us, 0, fun _ => he2.1 (by assumption), rfl, rfl⟩
theorem CR (s : ByteArray) : (s.toList == s.toList) = true := by simp
theorem pQ (p : Int) (s : ByteArray) (c c' : Bool) (ps : List bf) (h7 : ps.length <= 100) : ao Tryz.prog 37 [.p (.agg [pI p, pS s, .list c (ps.map Pr.pv)]), .p (.agg [pI p, pS s, .list c' (ps.map Pr.pv)])] [] fun r H => r = .p (pB true) /\ H = [] := by
 refine aa Tryz.func37 rfl rfl au rfl ?_
 have hb := CR s
 refine' yabc4
 refine ai (fun (k : Nat) => ⟨[(2, .ptr 0 0), (3, .ptr 1 0), (29, .p (pI ps.length)), (30, .p (pI k))], [some (.cells [.p (pI p), .p (pS s), .p (.list c (ps.map Pr.pv))]), some (.cells [.p (pI p), .p (pS s), .p (.list c' (ps.map Pr.pv))])]⟩) (fun k => k <= ps.length) (fun k => ps.length - k) 0 ?_ ?_ ?_; (refine aq.auto rfl rfl rfl rfl ?_ ?_ <;> refine' aj)
 ·omega
 rintro k hk
 rcases Nat.lt_or_ge k ps.length with hlt | hge
 ·have h1 := CR ps[k].1
  have h2 := CR ps[k].2
  refine' yabc4
  ·exact absurd h0 (by simp)
  ·(refine' ⟨k + 1, _, _, _⟩; rotate_right; (refine aq.auto rfl rfl rfl rfl ?_ ?_ <;> refine' aj); rotate_right; exact aw)
   omega
 ·refine' yabc4
  (refine ay.p ?_ <;> refine' aj; all_goals try first | refine Et ?_ | refine Dq ?_)
theorem yP (nl n2 : Bool) (ns ms : List Nd) (h : FV ns) (e : ms.map Nd.b = ns.map Nd.b) : ao Tryz.prog 10 [.p (.agg [.list nl (ns.map Nd.pv)]), .p (.agg [.list n2 (ms.map Nd.pv)])] [] fun r H => r = .p (pB true) /\ H = [] := by
 refine aa Tryz.func10 rfl rfl au rfl ?_
 have hl : ms.length = ns.length := by simpa using congrArg List.length e
 have hx : ∀ (i : Nat) (hi : i < ns.length), Nd.b (ms[i]'(by omega)) = Nd.b ns[i] := fun i hi => by
  have h1 : (ms.map Nd.b)[i]? = (ns.map Nd.b)[i]? := by rw [e]
  rw [List.getElem?_map, List.getElem?_map, List.getElem?_eq_getElem hi, List.getElem?_eq_getElem (by omega)] at h1
  exact Option.some.inj h1
 refine' yabc4
 refine ai (fun (c : Nat) => ⟨[(2, .ptr 0 0), (3, .ptr 1 0), (15, .p (pI ns.length)), (16, .p (pI c))], [some (.cells [.p (.list nl (ns.map Nd.pv))]), some (.cells [.p (.list n2 (ms.map Nd.pv))])]⟩) (fun c => c <= ns.length) (fun c => ns.length - c) 0 ?_ ?_ ?_; (refine aq.auto rfl rfl rfl rfl ?_ ?_ <;> refine' aj)
 ·omega
 rintro c hc
 rcases Nat.lt_or_ge c ns.length with hlt | hge
 ·have h7 := (h.fG hlt).len
  have hm : c < ms.length := by omega
  have h1 : ms[c].par = ns[c].par := congrArg (·.1) (hx c hlt)
  have h2 : ms[c].nm = ns[c].nm := congrArg (·.2.1) (hx c hlt)
  have h3 : ms[c].ps = ns[c].ps := congrArg (·.2.2) (hx c hlt)
  have hs := pQ ns[c].par ns[c].nm ns[c].nl ms[c].nl ns[c].ps (by omega)
  have hs2 : ao Tryz.prog 37 [.p ns[c].pv, .p ms[c].pv] [] fun r H => r = .p (pB true) /\ H = [] := by
   unfold Nd.pv
   rw [h1, h2, h3]
   exact hs
  (conv => whnf); repeat' ((first | refine' zabc4 | (refine gD.mk' (hs2) ?_)) <;> (conv => whnf))
  (refine' ⟨c + 1, _, _, _⟩; rotate_right; (refine aq.auto rfl rfl rfl rfl ?_ ?_ <;> refine' aj); rotate_right; exact aw)
  omega
 ·refine' yabc4
  (refine ay.p ?_ <;> refine' aj; all_goals try first | refine Et ?_ | refine Dq ?_)
def B_ : Sc := (.one 10 (.take 11 (.one 12 (.take 13 (.load 14 (.take 15 .done))))))
def B9 : Sc := (.one 12 (.take 13 (.load 14 (.take 15 .done))))
def B8 : Sc := (.one 4 (.take 13 (.load 14 (.take 15 .done))))
def B7 : Sc := (.take 11 (.two 4 12 B9 B8))
def rdA : Sc := (.take 0 (.take 1 (.take 2 (.take 3 (.take 5 (.take 6 (.take 7 (.take 8 (.take 9 (.two 4 10 B_ B7))))))))))
theorem b9.snoc {n : Nat} {d : List Dr} (h : b9 n d) (hl : d.length < 32) {x : Dr} (hx : DrV n x) : b9 n (d ++ [x]) := by
 refine ⟨by simp; omega, fun y hy => ?_⟩
 rcases List.mem_append.1 hy with hy | hy
 ·exact h.2 y hy
 ·simp at hy; subst hy; exact hx
theorem ya5f6 {P : Prop} (h : P := by
 ((conv => whnf); repeat' ((first | apply aB.plain | refine' gC | refine' gpI | refine' gpB | refine' ba | refine' aI | refine' gE | (apply ax.quiet (by kernel_rfl) (by kernel_rfl); (conv => whnf); fail_if_success (show False))) <;> (conv => whnf))) <;> (solve_by_elim (newGoals := .nonDependentOnly) -symm -exfalso (transparency := .reducible) only [rfl, aC])) : P := h
theorem za5f6 {P : Prop} (h : P := by
 ((first | apply aB.plain | refine' gC | refine' gpI | refine' gpB | refine' ba | refine' aI | refine' gE | (apply ax.quiet (by kernel_rfl) (by kernel_rfl); (conv => whnf); fail_if_success (show False))) <;> (conv => whnf)) <;> (solve_by_elim (newGoals := .nonDependentOnly) -symm -exfalso (transparency := .reducible) only [rfl, aC])) : P := h
theorem y0a20 {P : Prop} (h : P := by
 ((conv => whnf); repeat' ((first | apply aB.plain | refine' gC | refine' gpI | refine' gpB | refine' ba | refine' aI | refine' gE | fail) <;> (conv => whnf))) <;> (solve_by_elim (newGoals := .nonDependentOnly) -symm -exfalso (transparency := .reducible) only [rfl, aC])) : P := h
set_option maxHeartbeats 4000000 in
theorem o5 (nl : Bool) (ts : List Int) (i : Nat) (h : i <= ts.length) (nq : Bool) (l : List Sup) (hl : aT l) (h1 : 1 <= l.length) (n : Nat) (hn : n <= 8) :
  ao Tryz.prog 13 [.ptr 0 0, .p (.list nq (l.map Sup.pv)), .p (pI n)] (src nl ts i) fun r H => ∃ (d : List Dr) (nb : Bool) (i' : Nat), b9 l.length d /\ d.length <= n /\ i' <= ts.length /\ r = .buf 1 /\ H = src nl ts i' ++ [some (AO.buf 103 nb (d.map Dr.pv))] := by
 refine aa Tryz.func13 rfl rfl au rfl ?_
 refine' ya5f6
 refine ab.loc [0] [] rfl rfl ((dU nl ts i h (n + 1) (by omega)).mono ?_)
 rintro r H ⟨j0, i2, hj0, hj2, hi2, rfl, rfl⟩
 refine' ya5f6
 refine ai (fun (⟨j, d, nb, i⟩ : Int × List Dr × Bool × Nat) => ⟨[(0, .ptr 0 0), (1, .p (.list nq (l.map Sup.pv))), (7, .buf 1), (8, .p (pI j))], src nl ts i ++ [some (AO.buf 103 nb (d.map Dr.pv))]⟩) (fun ⟨j, d, nb, i⟩ => 0 <= j /\ b9 l.length d /\ (d.length : Int) + j <= n /\ i <= ts.length) (fun ⟨j, d, nb, i⟩ => j.toNat) (j0, [], true, i2) ?_ ?_ ?_; (refine aq.kM (103, 7) rfl rfl rfl rfl rfl ?_ ?_ <;> refine' aj)
 ·exact ⟨by omega, ⟨by simp, by simp⟩, by simp; omega, hi2⟩
 rintro ⟨j, d, nb, i3⟩ ⟨hj, hv, hl1, hi3⟩
 try simp only at hj hv hl1 hi3
 have h16 := hl.1
 refine' y0a20
 ·refine ab.loc [0] [] rfl rfl ((dU nl ts i3 hi3 l.length (by omega)).mono ?_)
  rintro r H ⟨k, i4, hk0, hk1, hi4, rfl, rfl⟩
  obtain ⟨k, rfl⟩ := Int.eq_ofNat_of_zero_le hk0
  have hkl : k < l.length := by omega
  have hsv := hl.2.2 k hkl
  have hlv := hsv.2.1
  have hlw := hsv.2.2.2.2.2.1
  have hlx := hl.2.1 _ (List.getElem_mem hkl)
  refine' y0a20
  refine ax.meet (fun (⟨v, i⟩ : Int × Nat) => ⟨[(0, .ptr 0 0), (1, .p (.list nq (l.map Sup.pv))), (7, .buf 1), (8, .p (pI j)), (9, .p (pI k)), (10, .p (pI v))], src nl ts i ++ [some (AO.buf 103 nb (d.map Dr.pv))]⟩) (fun (⟨v, i⟩ : Int × Nat) => 1 <= v /\ v <= 5000 /\ i <= ts.length) (dN.bA rdA (by kernel_rfl) (by kernel_rfl) (by kernel_rfl) ?_) ?_
  ·refine' y0a20
   all_goals
    refine ab.loc [0] [] rfl rfl ((dU nl ts i4 hi4 (l[k]).lv.length (by omega)).mono ?_)
    rintro r H ⟨q, i5, hq0, hq1, hi5, rfl, rfl⟩
    obtain ⟨q, rfl⟩ := Int.eq_ofNat_of_zero_le hq0
    have hql : q < (l[k]).lv.length := by omega
    have hqv := hlw _ (List.getElem_mem hql)
    refine' y0a20
    all_goals (refine' ⟨((l[k]).lv[q], i5), _, _⟩; rotate_right; (refine aq.auto rfl rfl rfl rfl ?_ ?_ <;> refine' aj); rotate_right; exact aw)
  rintro ⟨v, i5⟩ ⟨hv0, hv1, hi5⟩
  try simp only at hv0 hv1 hi5
  (conv => whnf); repeat' ((first | refine' za5f6 | (apply IsL.lit (f := pI) [0, 10, 100, 1000] rfl)) <;> (conv => whnf))
  refine ab.loc [0] [2] rfl rfl ((cO nl false ts i5 hi5 [0, 10, 100, 1000] (by simp) (by simp)).mono ?_)
  rintro r H ⟨w1, i6, hw1, hi6, rfl, rfl⟩
  have hr1 : 0 <= w1 /\ w1 <= 1000 := by simp at hw1; omega
  (conv => whnf); repeat' ((first | refine' za5f6 | (apply IsL.lit (f := pI) [0, 50, 500, 2000] rfl)) <;> (conv => whnf))
  refine ab.loc [0] [3] rfl rfl ((cO nl false ts i6 hi6 [0, 50, 500, 2000] (by simp) (by simp)).mono ?_)
  rintro r H ⟨w2, i7, hw2, hi7, rfl, rfl⟩
  have hr2 : 0 <= w2 /\ w2 <= 2000 := by simp at hw2; omega
  (conv => whnf); repeat' ((first | refine' za5f6 | (apply IsL.lit (f := pI) [0, 10, 100, 300] rfl)) <;> (conv => whnf))
  refine ab.loc [0] [4] rfl rfl ((cO nl false ts i7 hi7 [0, 10, 100, 300] (by simp) (by simp)).mono ?_)
  rintro r H ⟨w3, i8, hw3, hi8, rfl, rfl⟩
  have hr3 : 0 <= w3 /\ w3 <= 300 := by simp at hw3; omega
  refine' ya5f6
  (refine' ⟨(j - 1, d ++ [⟨k, if 0 < v - w1 then v - w1 else 0, if v + w2 < 5000 then v + w2 else 5000, w3⟩], _, i8), _, _, _⟩; rotate_right; (refine aq.auto rfl rfl rfl rfl ?_ ?_ <;> refine' aj); rotate_right; exact aw)
  have e1 : 0 <= (if 0 < v - w1 then v - w1 else 0) /\ (if 0 < v - w1 then v - w1 else 0) <= v := by split <;> omega
  have e2 : v <= (if v + w2 < 5000 then v + w2 else 5000) /\ (if v + w2 < 5000 then v + w2 else 5000) <= 5000 := by split <;> omega
  exact ⟨by omega, hv.snoc (by omega) ⟨⟨by show (0 : Int) <= k; omega, by show (k : Int) < l.length; omega⟩, ⟨by show 0 <= ite _ _ _; omega, e2.2⟩, ⟨e1.1, Int.le_trans e1.2 e2.1⟩, hr3.1, by show w3 <= _; omega⟩, by simp; omega, hi8⟩
 ·(refine' ay.auto (.buf 1) (src nl ts i3 ++ [some (AO.buf 103 nb (d.map Dr.pv))]) rfl rfl rfl rfl _ _ _ <;> refine' aj)
  exact ⟨d, nb, i3, hv, by omega, hi3, rfl, rfl⟩
structure Lm where
 clk : Int
 lo : Int
 hi : Int
def Lm.pv (m : Lm) : PV := .agg [pI m.clk, pI m.lo, pI m.hi]
def raA : Sc := (.take 0 (.frz 1 (.take 2 (.take 3 (.take 4 (.take 5 (.take 6 (.frz 7 (.take 8 (.take 9 (.frz 10 (.take 11 (.take 12 (.one 13 (.take 14 (.take 15 (.take 16 (.take 17 (.take 18 (.take 19 (.take 20 (.take 21 (.take 22 (.frz 23 (.take 24 (.take 25 (.take 26 (.take 27 .done))))))))))))))))))))))))))))
theorem kQ (a : Rq) (w : Wr) (n : Nat) (hn : n <= 16) (h1 : a.r.on.length = n) (h2 : a.r.lev.length = n) (hu : 0 <= w.unit /\ w.unit < n) : ao Tryz.prog 160 [.p a.pv, .p w.pv] [] fun r' H => ∃ c1 c2, r' = .agg [.buf 0, .buf 1] /\ H = rlH c1 c2 (bc a.r w) := by
 refine aa Tryz.func160 rfl rfl au rfl ?_
 refine' y5334
 refine ab.loc [] [] rfl rfl ((fm a.n1 a.n3 a.r (by omega) (by omega)).mono ?_)
 rintro _ _ ⟨c1, c2, rfl, rfl⟩
 refine' y5334
 ·(refine' ay.auto (.agg [.buf 0, .buf 1]) (rlH c1 c2 (bc a.r w)) rfl rfl rfl rfl _ _ _ <;> refine' aj)
  ·rw [bc, if_pos (by assumption)]
  ·rw [bc, if_pos (by assumption)]
  ·exact ⟨c1, c2, rfl, rfl⟩
 ·(refine' ay.auto (.agg [.buf 0, .buf 1]) (rlH c1 c2 (bc a.r w)) rfl rfl rfl rfl _ _ _ <;> refine' aj)
  ·rw [bc, if_neg (by assumption)]
   rfl
  ·rw [bc, if_neg (by assumption)]
  ·exact ⟨c1, c2, rfl, rfl⟩
theorem y53ea {P : Prop} (h : P := by
 ((conv => whnf); repeat' ((first | apply aB.plain | refine' gC | refine' gpI | refine' gpB | refine' aI | refine' gB | refine' iX | refine' gE | fail) <;> (conv => whnf))) <;> (solve_by_elim (newGoals := .nonDependentOnly) -symm -exfalso (transparency := .reducible) only [rfl, aC])) : P := h
theorem vF (nl : Bool) (l : List Sup) (a : Rq) (w : Wr) (hl : aT l) (ha : RlV l a.r) (hw : WrV l w) : ao Tryz.prog 117 [.p (.list nl (l.map Sup.pv)), .p a.pv, .p w.pv] [] fun r' H => ∃ c1 c2, r' = .tup [.p (Rq.pv ⟨c1, c2, bc a.r w⟩), .p (pI 0)] /\ H = [] := by
 refine aa Tryz.func117 rfl rfl au rfl ?_
 (conv => whnf); repeat' ((first | refine' z53ea | ((apply IsL.lit (f := Rq.pv) [a] rfl))) <;> (conv => whnf))
 refine ab.loc [] [3] rfl rfl ((gT nl false l [a]).mono ?_)
 rintro _ _ ⟨e, rfl, rfl, he⟩
 have he0 : e = 0 := he.2 ⟨hl, fun q hq => by simp at hq; rcases hq with rfl; exact ha⟩
 subst he0
 obtain ⟨hu, hk⟩ := hw
 have h16 := hl.1
 obtain ⟨u, hu'⟩ := Int.eq_ofNat_of_zero_le hu.1
 have eu : l.getD w.unit.toNat default = l[w.unit.toNat]'(by omega) := ak _
 rw [eu] at hk
 have hlv := hl.2.1 _ (List.getElem_mem (show w.unit.toNat < l.length by omega))
 rcases hk with ⟨hk, hk2⟩ | ⟨hk, hk2⟩
 ·refine' y53ea
  refine ax.dO 5 1 [pI w.kind, pI w.unit, pI w.value] rfl rfl ?_
  (conv => whnf); repeat' ((first | refine' z53ea | (apply ax.bA raA (by kernel_rfl) (by kernel_rfl) (by decide +kernel))) <;> (conv => whnf))
  refine ab.loc [] [] rfl rfl ((kQ a w l.length hl.1 ha.1 ha.2.1 hu).mono ?_)
  rintro _ _ ⟨c1, c2, rfl, rfl⟩
  refine' y5334
  (refine ay.frz _ _ _ [4, 5] ?_; refine' ay.auto (.tup [.p (Rq.pv ⟨c1, c2, bc a.r w⟩), .p (pI 0)]) ([]) rfl rfl rfl rfl _ _ _ <;> refine' aj)
  exact ⟨c1, c2, rfl, rfl⟩
 ·refine' y53ea
  refine ax.dO 5 1 [pI w.kind, pI w.unit, pI w.value] rfl rfl ?_
  (conv => whnf); repeat' ((first | refine' z53ea | (apply ax.bA raA (by kernel_rfl) (by kernel_rfl) (by decide +kernel))) <;> (conv => whnf))
  refine ab.loc [] [] rfl rfl ((kQ a w l.length hl.1 ha.1 ha.2.1 hu).mono ?_)
  rintro _ _ ⟨c1, c2, rfl, rfl⟩
  refine' y5334
  (refine ay.frz _ _ _ [4, 5] ?_; refine' ay.auto (.tup [.p (Rq.pv ⟨c1, c2, bc a.r w⟩), .p (pI 0)]) ([]) rfl rfl rfl rfl _ _ _ <;> refine' aj)
  exact ⟨c1, c2, rfl, rfl⟩
def rs8 : Ln := (.lazy 0 (.lazy 1 (.lazy 2 (.lazy 3 (.lazy 4 (.lazy 5 (.lazy 6 (.lazy 7 (.two 8 12 (.lazy 9 (.lazy 10 (.lazy 11 (.one 12 (.one 13 (.lazy 14 .done)))))) (.one 8 (.lazy 9 (.lazy 10 (.lazy 11 (.one 13 (.lazy 14 .done)))))))))))))))
theorem vd (a : Rq) (h1 : a.r.on.length <= 16) (h2 : a.r.lev.length <= 16) : ao Tryz.prog 54 [.p a.pv] [] fun r' H => ∃ (b1 b2 : Bool), r' = .p (Rq.pv ⟨b1, b2, a.r⟩) /\ H = [some (.frz b1 (a.r.on.map pB)), some (.frz b2 (a.r.lev.map pI))] :=
 (fm a.n1 a.n3 a.r h1 h2).frz [0, 1] fun r H' ⟨b1, b2, hr, hH⟩ => ⟨b1, b2, by subst hr; subst hH; rfl, by subst hH; rfl⟩
theorem z91ed {P : Prop} (h : P := by
 ((first | apply aB.plain | refine' gC | refine' gpI | refine' gpB | refine' aI | refine' ba | refine' gB | refine' iX | refine' gE | fail) <;> (conv => whnf)) <;> (solve_by_elim (newGoals := .nonDependentOnly) -symm -exfalso (transparency := .reducible) only [rfl, aC])) : P := h
theorem tZ (nl n2 : Bool) (l : List Sup) (d : List Dr) (q : Rq) (hl : aT l) (hm : bm l q.r d) : ao Tryz.prog 59 [.p q.pv, .ptr 0 0, .ptr 1 0] [some (.cells [.p (.list nl (l.map Sup.pv))]), some (.cells [.p (.list n2 (d.map Dr.pv))])] fun r H => r = .p (pB false) /\ H = [some (.cells [.p (.list nl (l.map Sup.pv))]), some (.cells [.p (.list n2 (d.map Dr.pv))])] := by
 refine aa Tryz.func59 rfl rfl au rfl ?_
 (conv => whnf); repeat' ((first | refine' z91ed | ((refine b4 (e8 nl q.n1 n2 q.n3 l q.r d) ?_; intro b hb))) <;> (conv => whnf))
 obtain rfl := hb.2 ⟨hl, hm⟩
 (refine' ay.auto (.p (pB false)) ([some (.cells [.p (.list nl (l.map Sup.pv))]), some (.cells [.p (.list n2 (d.map Dr.pv))])]) rfl rfl rfl rfl _ _ _ <;> refine' aj)
theorem yfdc9 {P : Prop} (h : P := by
 ((conv => whnf); repeat' ((first | apply aB.plain | refine' gC | refine' gpI | refine' gpB | refine' aI | refine' ba | refine' gB | refine' iX | refine' gE | (apply ax.quiet (by kernel_rfl) (by kernel_rfl); (conv => whnf); fail_if_success (show False))) <;> (conv => whnf))) <;> (solve_by_elim (newGoals := .nonDependentOnly) -symm -exfalso (transparency := .reducible) only [rfl, aC])) : P := h
theorem yS (nl n2 : Bool) (l : List Sup) (d : List Dr) (nq : Bool) (qs : List Rq) (hl : aT l) (hm : ∀ q ∈ qs, bm l q.r d) : ao Tryz.prog 58 [.p (.list nq (qs.map Rq.pv)), .clo (.func 59) [.ptr 0 0, .ptr 1 0]] [some (.cells [.p (.list nl (l.map Sup.pv))]), some (.cells [.p (.list n2 (d.map Dr.pv))])] fun r H => r = .p (pI (-1)) /\ H = [some (.cells [.p (.list nl (l.map Sup.pv))]), some (.cells [.p (.list n2 (d.map Dr.pv))])] := by
 refine aa Tryz.func58 rfl rfl au rfl ?_
 refine' yfdc9
 refine ai (fun (c : Nat) => ⟨[(0, .p (.list nq (qs.map Rq.pv))), (1, .clo (.func 59) [.ptr 0 0, .ptr 1 0]), (7, .p (pI qs.length)), (8, .p (pI c))], [some (.cells [.p (.list nl (l.map Sup.pv))]), some (.cells [.p (.list n2 (d.map Dr.pv))])]⟩) (fun c => c <= qs.length) (fun c => qs.length - c) 0 ?_ ?_ ?_; (refine aq.auto rfl rfl rfl rfl ?_ ?_ <;> refine' aj)
 ·omega
 rintro c hc
 rcases Nat.lt_or_ge c qs.length with hlt | hge
 ·refine' yfdc9
  refine ab.loc [0, 1] [] rfl rfl ((tZ nl n2 l d qs[c] hl (hm _ (List.getElem_mem hlt))).mono ?_)
  rintro _ _ ⟨rfl, rfl⟩
  refine' yfdc9
  (refine' ⟨c + 1, _, _, _⟩; rotate_right; (refine aq.auto rfl rfl rfl rfl ?_ ?_ <;> refine' aj); rotate_right; exact aw)
  omega
 ·refine' yfdc9
  (refine' ay.auto (.p (pI (-1))) ([some (.cells [.p (.list nl (l.map Sup.pv))]), some (.cells [.p (.list n2 (d.map Dr.pv))])]) rfl rfl rfl rfl _ _ _ <;> refine' aj)
theorem z15d4 {P : Prop} (h : P := by
 ((first | refine' gC | refine' gpI | refine' gpB | refine' aI | refine' ba | refine' gB | refine' iX | refine' gE | fail) <;> (conv => whnf)) <;> (solve_by_elim (newGoals := .nonDependentOnly) -symm -exfalso (transparency := .reducible) only [rfl, aC])) : P := h
theorem tW (nl nw : Bool) (l : List Sup) (d : List Dr) (a : Rq) (b : Rl) (ws : List Wr) (hl : aT l) (hw : jJ l d a.r b ws) (hwl : ws.length <= 64) : ao Tryz.prog 57 [.p (.list nl (l.map Sup.pv)), .p a.pv, .p (.list nw (ws.map Wr.pv))] [] fun r H => ∃ (nq : Bool) (qs : List Rq), (∀ q ∈ qs, bm l q.r d) /\ r = .tup [.p (.list nq (qs.map Rq.pv)), .p (pI 0)] /\ H = [] := by
 refine aa Tryz.func57 rfl rfl au rfl ?_
 have h16 := hl.1
 have hst := hw.start.1
 have ho := hst.rv.1
 have hlv := hst.rv.2.1
 (conv => whnf); repeat' ((first | refine' z91ed | (apply IsL.lit (f := Rq.pv) [a] rfl) | ((refine dL (gT nl _ l [a]) ?_; intro e he))) <;> (conv => whnf))
 ·exact absurd (he.2 ⟨hl, fun q hq => by simp at hq; subst hq; exact hst.rv⟩) (by assumption)
 refine ab.loc [] [] rfl rfl ((vd a (by omega) (by omega)).mono ?_)
 rintro _ _ ⟨b1, b2, rfl, rfl⟩
 (conv => whnf); repeat' ((first | (refine IsL.lit (f := Rq.pv) [⟨b1, b2, a.r⟩] rfl ?_) | refine' z91ed | fail) <;> (conv => whnf))
 refine ai (fun (⟨c, qs, nq⟩ : Nat × List Rq × Bool) => ⟨[(0, .p (.list nl (l.map Sup.pv))), (9, .buf 0), (24, .p (.list nw (ws.map Wr.pv))), (25, .p (pI ws.length)), (26, .p (pI c))], [some (AO.buf 46 nq (qs.map Rq.pv))]⟩) (fun ⟨c, qs, nq⟩ => c <= ws.length /\ qs.length = c + 1 /\ (∀ q ∈ qs, bm l q.r d) /\ ∀ h : c < qs.length, (qs[c]'h).r = (ws.take c).foldl bc a.r) (fun ⟨c, qs, nq⟩ => ws.length - c) (0, [⟨b1, b2, a.r⟩], false) ?_ ?_ ?_; (refine aq.auto rfl rfl rfl rfl ?_ ?_ <;> refine' aj)
 ·exact ⟨by omega, rfl, fun q hq => by simp at hq; subst hq; exact hst, fun _ => rfl⟩
 rintro ⟨c, qs, nq⟩ ⟨hc, hql, hqm, hqc⟩
 try simp only at hc hql hqm hqc
 rcases Nat.lt_or_ge c ws.length with hlt | hge
 ·have hcq : c < qs.length := by omega
  have hqcr := hqc hcq
  have hmq := hqm _ (List.getElem_mem hcq)
  have hwv := hw.1 _ (List.getElem_mem hlt)
  have hgd := (hw.2 (c + 1) (by omega)).1
  rw [List.take_succ_eq_append_getElem hlt, List.foldl_append, <- hqcr] at hgd
  obtain ⟨q0, hq0⟩ : ∃ q0, q0 = qs[c] := ⟨_, rfl⟩
  have hx : (qs.map Rq.pv)[(((c + 1 : Nat) : Int) - 1).toNat]? = some (Rq.pv q0) := by rw [show (((c + 1 : Nat) : Int) - 1).toNat = c by omega, List.getElem?_map, List.getElem?_eq_getElem hcq, hq0]; rfl
  rw [<- hq0] at hgd hmq hqcr
  (conv => whnf); repeat' ((first | ((refine cq.mk (c + 1) (by rw [List.length_map]; exact hql) ?_; intro _)) | refine' z91ed | fail) <;> (conv => whnf))
  apply ax.lin rs8 (by kernel_rfl) (by decide +kernel)
  (conv => whnf); repeat' ((first | (apply PdC.same; · with_reducible rfl) | apply PdC.chk | apply PdA.mk | (apply EqA.mk; rfl) | (apply LzA.mk; · ((conv => whnf); repeat' ((first | (apply EqA.mk; rfl) | (apply And.intro; omega) | ((first | apply NW.as | apply fA.as); with_reducible assumption) | ((first | apply NW.i64 | apply NW.u32 | apply NW.u64 | apply NW.u8 | apply aX.hi | apply aX.lo); omega) | (apply SzA.map; (intro _; rfl)) | ((refine cq.mk (c + 1) (by rw [List.length_map]; exact hql) ?_; intro _)) | (refine bO.mk (Rq.pv q0) (by omega) hx ?_) | refine' z15d4 | fail) <;> (conv => whnf)))) | ((refine cq.mk (c + 1) (by rw [List.length_map]; exact hql) ?_; intro _)) | (refine bO.mk (Rq.pv q0) (by omega) hx ?_) | refine' z91ed | (fail "DrawA.lin")) <;> (conv => whnf))
  all_goals
   refine ab.loc [] [] rfl rfl ((vF nl l q0 ws[c] hl hmq.rv hwv).mono ?_)
   rintro _ _ ⟨c1, c2, rfl, rfl⟩
   (conv => whnf); repeat' ((first | (apply PdC.same; · with_reducible rfl) | apply PdC.chk | apply PdA.mk | (apply EqA.mk; rfl) | (apply LzA.mk; · ((conv => whnf); repeat' ((first | (apply EqA.mk; rfl) | (apply And.intro; omega) | ((first | apply NW.as | apply fA.as); with_reducible assumption) | ((first | apply NW.i64 | apply NW.u32 | apply NW.u64 | apply NW.u8 | apply aX.hi | apply aX.lo); omega) | (apply SzA.map; (intro _; rfl)) | (refine IsL.lit (f := Rq.pv) [⟨c1, c2, bc q0.r ws[c]⟩] rfl ?_) | refine' z15d4 | fail) <;> (conv => whnf)))) | (refine IsL.lit (f := Rq.pv) [⟨c1, c2, bc q0.r ws[c]⟩] rfl ?_) | refine' z91ed | (fail "DrawA.lin")) <;> (conv => whnf))
  any_goals exact EqA.mk (by rw [hql])
  all_goals
   (refine' ⟨(c + 1, qs ++ [⟨c1, c2, bc q0.r ws[c]⟩], false), _, _, _⟩; rotate_right; (refine aq.auto rfl rfl rfl rfl ?_ ?_ <;> refine' aj); rotate_right; exact aw)
   refine ⟨by omega, by simp [hql], fun q hq => ?_, fun hh => ?_⟩
   ·rcases List.mem_append.1 hq with h1 | h1
    ·exact hqm q h1
    ·simp at h1
     subst h1
     exact hgd
   ·rw [List.take_succ_eq_append_getElem hlt, List.foldl_append, <- hqcr, List.getElem_append_right (by omega)]
    simp [hql]
 ·refine' yfdc9
  (refine ay.frz _ _ _ [0] ?_; refine' ay.auto (.tup [.p (.list nq (qs.map Rq.pv)), .p (pI 0)]) ([]) rfl rfl rfl rfl _ _ _ <;> refine' aj)
  exact ⟨nq, qs, hqm, rfl, rfl⟩
theorem y91ed {P : Prop} (h : P := by
 ((conv => whnf); repeat' ((first | apply aB.plain | refine' gC | refine' gpI | refine' gpB | refine' aI | refine' ba | refine' gB | refine' iX | refine' gE | fail) <;> (conv => whnf))) <;> (solve_by_elim (newGoals := .nonDependentOnly) -symm -exfalso (transparency := .reducible) only [rfl, aC])) : P := h
theorem o4 (nl n2 nw : Bool) (l : List Sup) (d : List Dr) (a : Rq) (b : Rl) (ws : List Wr) (hl : aT l) (hw : jJ l d a.r b ws) (hwl : ws.length <= 64) : ao Tryz.prog 18 [.p (.list nl (l.map Sup.pv)), .p a.pv, .p (.list nw (ws.map Wr.pv)), .p (.list n2 (d.map Dr.pv))] [] fun r H => r = .p (pI (-1)) /\ H = [] := by
 refine aa Tryz.func18 rfl rfl au rfl ?_
 have hd := hw.start.1.dv
 refine' y91ed
 refine ab.loc [] [] rfl rfl ((tW nl nw l d a b ws hl hw hwl).mono ?_)
 rintro _ _ ⟨nq, qs, hqm, rfl, rfl⟩
 (conv => whnf); repeat' ((first | refine' z91ed | ((refine b4 (e9 nl n2 l d) ?_; intro b2 hb2))) <;> (conv => whnf))
 ·rw [hb2.2 ⟨hl, hd⟩] at h0
  cases h0
 refine ab.loc [0, 2] [] rfl rfl ((yS nl n2 l d nq qs hl hqm).mono ?_)
 rintro _ _ ⟨rfl, rfl⟩
 refine' yfdc9
 (refine ay.p ?_ <;> refine' aj; all_goals try first | refine Et ?_ | refine Dq ?_)
theorem Cp {xs : List Int} {v : Int} (h : lvK xs v < xs.length) : v <= xs[lvK xs v] := by
 unfold lvK at h ⊢
 have := List.findIdx_getElem (w := h)
 simpa using this
theorem uQ {xs : List Int} {v : Int} {i : Nat} (hi : i < xs.length) (h : v <= xs[i]) : lvK xs v <= i := by
 unfold lvK
 rcases Nat.lt_or_ge i (xs.findIdx fun x => decide (v <= x)) with h1 | h1
 ·have := List.not_of_lt_findIdx h1
  simp at this
  omega
 ·exact h1
structure eT (l : List Sup) (d : List Dr) (k : Nat) (xs : List De) (ks : List Int) : Prop where
 lx : xs.length = l.length
 lk : ks.length = l.length
 dr : ∀ x ∈ d, x.lo <= (xs.getD x.sup.toNat default).vol
 ok : ∀ c, k <= c -> c < l.length -> Usd l d c -> dmK l xs c < (l.getD c default).lv.length
 lev : ∀ c, k <= c -> c < l.length -> Usd l d c -> ks.getD c 0 = dmK l xs c /\ (0 <= bu l c -> dmV l xs c <= (xs.getD (bu l c).toNat default).vol)
 zero : ∀ c, c < l.length -> (c < k \/ ¬ Usd l d c) -> ks.getD c 0 = 0
 org : ∀ j, j < l.length -> xs.getD j default = ⟨0, -1, -1⟩ \/ (∃ (i : Nat) (h : i < d.length), xs.getD j default = ⟨d[i].lo, i, -1⟩ /\ d[i].sup.toNat = j) \/
  (∃ c, k <= c /\ c < l.length /\ Usd l d c /\ bu l c = (j : Int) /\ xs.getD j default = ⟨dmV l xs c, -1, c⟩)
theorem dg (xs : List De) (i j : Nat) (v : De) : (xs.set i v).getD j default = if i = j /\ j < xs.length then v else xs.getD j default := by
 simp only [List.getD_eq_getElem?_getD, List.getElem?_set]
 by_cases h : i = j
 ·subst h
  by_cases hl : i < xs.length <;> simp [hl]
 ·simp [h]
theorem wy {n : Nat} {d : List Dr} (hd : ∀ x ∈ d, 0 <= x.sup /\ x.sup < (n : Int) /\ 0 <= x.lo) : ∀ c, c <= d.length -> (∀ (i : Nat) (h : i < d.length), i < c -> d[i].lo <= ((dm0 n d c).getD d[i].sup.toNat default).vol) /\
  (∀ j, j < n -> 0 <= ((dm0 n d c).getD j default).vol /\ ((dm0 n d c).getD j default = ⟨0, -1, -1⟩ \/ ∃ (i : Nat) (h : i < d.length), (dm0 n d c).getD j default = ⟨d[i].lo, i, -1⟩ /\ d[i].sup.toNat = j))
 | 0, _ => ⟨fun i _ h => by omega, fun j hj => by
   have : (dm0 n d 0).getD j default = ⟨0, -1, -1⟩ := by
    unfold dm0
    rw [ak (by simpa using hj)]
    simp
   rw [this]
   exact ⟨Int.le_refl _, .inl rfl⟩⟩
 | c + 1, hc => by
  obtain ⟨h1, h2⟩ := wy hd c (by omega)
  have hcl : c < d.length := by omega
  have hg : d.getD c default = d[c] := ak hcl
  have hx := hd _ (List.getElem_mem hcl)
  have hln := iJ n d c
  have hsn : d[c].sup.toNat < n := by omega
  unfold dm0
  rw [hg]
  split
  ·rename_i hlt
   refine ⟨fun i hi hic => ?_, fun j hj => ?_⟩
   ·rw [dg]
    split
    ·rename_i he
     rcases Nat.lt_or_ge i c with h3 | h3
     ·have := h1 i hi h3
      rw [<- he.1] at this
      show d[i].lo <= d[c].lo
      omega
     ·obtain rfl : i = c := by omega
      exact Int.le_refl _
    ·rename_i he
     rcases Nat.lt_or_ge i c with h3 | h3
     ·exact h1 i hi h3
     ·obtain rfl : i = c := by omega
      exact absurd ⟨rfl, by omega⟩ he
   ·rw [dg]
    split
    ·rename_i he
     exact ⟨hx.2.2, .inr ⟨c, hcl, rfl, he.1⟩⟩
    ·exact h2 j hj
  ·rename_i hge
   refine ⟨fun i hi hic => ?_, h2⟩
   rcases Nat.lt_or_ge i c with h3 | h3
   ·exact h1 i hi h3
   ·obtain rfl : i = c := by omega
    omega
section
variable {l : List Sup} {d : List Dr}
theorem eT.init (hd : b9 l.length d) : eT l d l.length (dm0 l.length d d.length) (List.replicate l.length 0) := by
 obtain ⟨h1, h2⟩ := wy (n := l.length) (d := d) (fun x hx => by have := hd.2 x hx; exact ⟨this.1.1, this.1.2, this.2.2.1.1⟩) d.length (Nat.le_refl _)
 refine ⟨iJ _ _ _, by simp, fun x hx => ?_, fun c h1 h2 => by omega, fun c h1 h2 => by omega, fun c hc _ => ?_, fun j hj => ?_⟩
 ·obtain ⟨i, hi, rfl⟩ := List.getElem_of_mem hx
  exact h1 i hi hi
 ·rw [ak (by simpa using hc)]
  simp
 ·rcases (h2 j hj).2 with h | ⟨i, hi, h3, h4⟩
  ·exact .inl h
  ·exact .inr (.inl ⟨i, hi, h3, h4⟩)
theorem eT.skip {k : Nat} {xs : List De} {ks : List Int} (h : eT l d (k + 1) xs ks) (hu : ¬ Usd l d k) : eT l d k xs ks := by
 refine ⟨h.lx, h.lk, h.dr, fun c h1 h2 h3 => ?_, fun c h1 h2 h3 => ?_, fun c h1 h2 => ?_, fun j hj => ?_⟩
 ·rcases Nat.lt_or_eq_of_le h1 with h4 | rfl
  ·exact h.ok c h4 h2 h3
  ·exact absurd h3 hu
 ·rcases Nat.lt_or_eq_of_le h1 with h4 | rfl
  ·exact h.lev c h4 h2 h3
  ·exact absurd h3 hu
 ·refine h.zero c h1 ?_
  rcases h2 with h2 | h2
  ·exact .inl (by omega)
  ·exact .inr h2
 ·rcases h.org j hj with h1 | h1 | ⟨c, h1, h2⟩
  ·exact .inl h1
  ·exact .inr (.inl h1)
  ·exact .inr (.inr ⟨c, by omega, h2⟩)
theorem eT.step (hl : aT l) (hd : b9 l.length d) {k : Nat} (hk : k < l.length) {xs : List De} {ks : List Int} (h : eT l d (k + 1) xs ks) (hf : dmF l (aL l d) xs k = false) : eT l d k (dmS l (aL l d) (xs, ks) k).1 (dmS l (aL l d) (xs, ks) k).2 := by
 have hui := dC hl hd hk
 by_cases hu : Usd l d k
 rotate_left
 ·have : dmS l (aL l d) (xs, ks) k = (xs, ks) := if_neg fun hc => hu (hui.1 hc.1)
  rw [this]
  exact h.skip hu
 have hu' := hui.2 hu
 have hK : dmK l xs k < (l.getD k default).lv.length := by
  unfold dmF at hf
  rw [hu'] at hf
  simpa using hf
 have hpk : 0 <= bu l k -> (bu l k).toNat < k := ju hl hk
 obtain ⟨ys, hys⟩ : ∃ ys, (if 0 <= (l.getD k default).par /\ (xs.getD (l.getD k default).par.toNat default).vol < dmV l xs k then xs.set (l.getD k default).par.toNat ⟨dmV l xs k, -1, k⟩ else xs) = ys := ⟨_, rfl⟩
 have hS : dmS l (aL l d) (xs, ks) k = (ys, ks.set k (dmK l xs k)) := by
  unfold dmS
  rw [if_pos ⟨hu', hK⟩]
  simp only [hys]
 rw [hS]
 have hyl : ys.length = l.length := by rw [<- hys]; split <;> simp [h.lx]
 have hyc : ∀ c, k <= c -> ys.getD c default = xs.getD c default := fun c hc => by
  rw [<- hys]
  split
  ·rename_i hp
   rw [dg, if_neg]
   rintro ⟨he, _⟩
   have := hpk hp.1
   unfold bu at this
   omega
  ·rfl
 have hKc : ∀ c, k <= c -> dmK l ys c = dmK l xs c := fun c hc => by unfold dmK; rw [hyc c hc]
 have hVc : ∀ c, k <= c -> dmV l ys c = dmV l xs c := fun c hc => by unfold dmV; rw [hKc c hc]
 have hge : ∀ j, (xs.getD j default).vol <= (ys.getD j default).vol := fun j => by
  rw [<- hys]
  split
  ·rename_i hp
   rw [dg]
   split
   ·rename_i he
    rw [<- he.1]
    exact Int.le_of_lt hp.2
   ·exact Int.le_refl _
  ·exact Int.le_refl _
 refine ⟨hyl, by rw [List.length_set]; exact h.lk, fun x hx => Int.le_trans (h.dr x hx) (hge _), fun c h1 h2 h3 => ?_, fun c h1 h2 h3 => ?_, fun c h1 h2 => ?_, fun j hj => ?_⟩
 ·rw [hKc c h1]
  rcases Nat.lt_or_eq_of_le h1 with h4 | rfl
  ·exact h.ok c h4 h2 h3
  ·exact hK
 ·rw [hKc c h1, hVc c h1]
  rcases Nat.lt_or_eq_of_le h1 with h4 | rfl
  ·obtain ⟨g1, g2⟩ := h.lev c h4 h2 h3
   rw [bK, if_neg (by omega)]
   exact ⟨g1, fun hp => Int.le_trans (g2 hp) (hge _)⟩
  ·rw [bK, if_pos ⟨rfl, by rw [h.lk]; exact hk⟩]
   refine ⟨rfl, fun hp => ?_⟩
   have hpn := hpk hp
   rw [<- hys]
   split
   ·rename_i hc
    rw [dg]
    show dmV l xs k <= (if (l.getD k default).par.toNat = (bu l k).toNat /\ (bu l k).toNat < xs.length then (⟨dmV l xs k, -1, k⟩ : De) else xs.getD (bu l k).toNat default).vol
    rw [if_pos ⟨rfl, by rw [h.lx]; omega⟩]
    exact Int.le_refl _
   ·rename_i hc
    have : ¬ (xs.getD (l.getD k default).par.toNat default).vol < dmV l xs k := fun hlt => hc ⟨hp, hlt⟩
    show dmV l xs k <= (xs.getD (l.getD k default).par.toNat default).vol
    omega
 ·rw [bK, if_neg]
  ·exact h.zero c h1 (by rcases h2 with h2 | h2; exact .inl (by omega); exact .inr h2)
  ·rintro ⟨rfl, _⟩
   rcases h2 with h2 | h2
   ·omega
   ·exact h2 hu
 ·by_cases hch : 0 <= (l.getD k default).par /\ (xs.getD (l.getD k default).par.toNat default).vol < dmV l xs k
  ·have hy2 : ys = xs.set (l.getD k default).par.toNat ⟨dmV l xs k, -1, k⟩ := by rw [<- hys, if_pos hch]
   by_cases hje : (l.getD k default).par.toNat = j
   ·refine .inr (.inr ⟨k, Nat.le_refl _, hk, hu, ?_, ?_⟩)
    ·unfold bu
     have := hch.1
     omega
    ·rw [hVc k (Nat.le_refl _), hy2, dg, if_pos ⟨hje, by rw [h.lx]; exact hj⟩]
   ·have e : ys.getD j default = xs.getD j default := by
     rw [hy2, dg, if_neg]
     exact fun hc => hje hc.1
    rw [e]
    rcases h.org j hj with g | g | ⟨c, g1, g2, g3, g4, g5⟩
    ·exact .inl g
    ·exact .inr (.inl g)
    ·exact .inr (.inr ⟨c, by omega, g2, g3, g4, by rw [hVc c (by omega)]; exact g5⟩)
  ·have hy2 : ys = xs := by rw [<- hys, if_neg hch]
   rw [hy2]
   rcases h.org j hj with g | g | ⟨c, g1, g2⟩
   ·exact .inl g
   ·exact .inr (.inl g)
   ·exact .inr (.inr ⟨c, by omega, g2⟩)
theorem eT.of (hl : aT l) (hd : b9 l.length d) : ∀ (m k : Nat), k + m = l.length -> yz l d ((List.finRange l.length).drop k).reverse -> eT l d k (dmP l d ((List.finRange l.length).drop k).reverse).1 (dmP l d ((List.finRange l.length).drop k).reverse).2
 | 0, k, hk, _ => by
  have : (List.finRange l.length).drop k = [] := List.drop_eq_nil_of_le (by simp; omega)
  rw [this]
  obtain rfl : k = l.length := by omega
  exact eT.init hd
 | m + 1, k, hk, hok => by
  have hkl : k < l.length := by omega
  have e := ig hkl
  rw [<- e] at hok ⊢
  have hok2 : yz l d ((List.finRange l.length).drop (k + 1)).reverse := fun p y s he => hok p y (s ++ [⟨k, hkl⟩]) (by rw [he]; simp)
  have ih := eT.of hl hd m (k + 1) (by omega) hok2
  rw [tI]
  exact ih.step hl hd hkl (hok _ _ [] rfl)
end
open Go.Abs
section
variable {l : List Sup} {d : List Dr}
theorem eT.bound (hl : aT l) {k : Nat} {xs : List De} {ks : List Int} (h : eT l d k xs ks) {r : Rl} (hm : bm l r d) : ∀ (m j : Nat), l.length <= j + m -> j < l.length -> Usd l d j -> (xs.getD j default).vol <= vt l j (lvA r j)
 | 0, j, h1, h2, _ => by omega
 | m + 1, j, h1, hj, hu => by
  have hr := hm.rv.at_ hj
  rcases h.org j hj with g | ⟨i, hi, g1, g2⟩ | ⟨c, g1, g2, g3, g4, g5⟩
  ·rw [g]
   show (0 : Int) <= _
   unfold vt
   rw [ak hj, ak (by omega)]
   have := (hl.2.2 j hj).2.2.2.2.2.1 _ (List.getElem_mem (show (lvA r j).toNat < l[j].lv.length by omega))
   omega
  ·rw [g1]
   have := (hm.draw _ (List.getElem_mem hi)).1
   rw [g2] at this
   exact this
  ·rw [g5]
   show dmV l xs c <= _
   have hcp : (bu l c).toNat = j := by omega
   have hcj := ju hl g2 (by omega)
   have hb := eT.bound hl h hm m c (by omega) g2 g3
   have hrc := hm.rv.at_ g2
   have hko := h.ok c g1 g2 g3
   rw [ak g2] at hko
   have hp := (hm.par c g2 (hm.use c g2 g3) (by omega)).2
   rw [hcp] at hp
   refine Int.le_trans ?_ hp
   unfold dmV jc
   have e1 : vt l c (lvA r c) = (l[c].lv)[(lvA r c).toNat]'(by omega) := by unfold vt; rw [ak g2, ak (by omega)]
   have hle : dmK l xs c <= (lvA r c).toNat := by
    unfold dmK
    rw [ak g2]
    exact uQ (by omega) (by rw [e1] at hb; exact hb)
   have : (l.getD c default).lv.getD (dmK l xs c) 0 <= vt l c (lvA r c) := by
    have := cT hl g2 (j := (dmK l xs c : Int)) (k := lvA r c) (by omega) (by omega) (by omega)
    unfold vt at this ⊢
    simpa using this
   omega
theorem CD {pre : List (Fin l.length)} {f : Int} (h : DmR l d pre f) : ∃ k, k <= l.length /\ pre = ((List.finRange l.length).drop k).reverse /\ ((f = -1 /\ k = 0) \/ ∃ y, f = ((y : Nat) : Int) /\ k = y + 1 /\ y < l.length /\ dmF l (aL l d) (dmP l d pre).1 y = true) := by
 rcases h.2 with ⟨h1, h2⟩ | ⟨y, s, h1, h2, h3⟩
 ·exact ⟨0, by omega, by simpa using h2, .inl ⟨h1, rfl⟩⟩
 ·have hr : (pre ++ [y] ++ s).reverse = List.finRange l.length := by rw [h2, List.reverse_reverse]
  have hr2 : s.reverse ++ (y :: pre.reverse) = List.finRange l.length := by rw [<- hr]; simp
  have hsl : s.length < l.length := by
   have := congrArg List.length hr2
   simp at this
   omega
  have hy : y.val = s.length := by
   have : (List.finRange l.length)[s.length]'(by simpa using hsl) = y := by
    simp only [<- hr2]
    rw [List.getElem_append_right (by simp)]
    simp
   rw [<- this]
   simp
  have hp : pre.reverse = (List.finRange l.length).drop (s.length + 1) := by
   rw [<- hr2, List.drop_append]
   simp
  refine ⟨y.val + 1, by have := y.isLt; omega, ?_, .inr ⟨y.val, h1, rfl, y.isLt, h3⟩⟩
  rw [hy, <- hp, List.reverse_reverse]
theorem DmR.inv (hl : aT l) (hd : b9 l.length d) {pre : List (Fin l.length)} {f : Int} (h : DmR l d pre f) : ∃ k, eT l d k (dmP l d pre).1 (dmP l d pre).2 /\ ((f = -1 /\ k = 0) \/ ∃ y, f = ((y : Nat) : Int) /\ k = y + 1 /\ y < l.length /\ Usd l d y /\ ¬ dmK l (dmP l d pre).1 y < (l.getD y default).lv.length) := by
 obtain ⟨k, hk, hp, hc⟩ := CD h
 have hok := h.1
 rw [hp] at hok
 have := eT.of hl hd (l.length - k) k (by omega) hok
 rw [<- hp] at this
 refine ⟨k, this, ?_⟩
 rcases hc with hc | ⟨y, h1, h2, h3, h4⟩
 ·exact .inl hc
 ·refine .inr ⟨y, h1, h2, h3, ?_⟩
  unfold dmF at h4
  rw [Bool.and_eq_true] at h4
  exact ⟨(dC hl hd h3).1 h4.1, by simpa using h4.2⟩
theorem eT.meet (hl : aT l) (hd : b9 l.length d) {xs : List De} {ks : List Int} (h : eT l d 0 xs ks) (hload : ∀ i, i < l.length -> Usd l d i -> (aS l d).getD i 0 <= (l.getD i default).cap)
  (hhi : ∀ x ∈ d, vt l x.sup.toNat (ks.getD x.sup.toNat 0) <= x.hi) : bm l ⟨aL l d, ks⟩ d := by
 have hon : ∀ i, i < l.length -> (onA ⟨aL l d, ks⟩ i = true ↔ Usd l d i) := fun i hi => dC hl hd hi
 have hlv : ∀ i, lvA ⟨aL l d, ks⟩ i = ks.getD i 0 := fun i => rfl
 have hks : ∀ i (hi : i < l.length), 0 <= ks.getD i 0 /\ ks.getD i 0 < (l[i]).lv.length := fun i hi => by
  by_cases hu : Usd l d i
  ·rw [(h.lev i (Nat.zero_le _) hi hu).1]
   have := h.ok i (Nat.zero_le _) hi hu
   rw [ak hi] at this
   omega
  ·rw [h.zero i hi (.inr hu)]
   have := (hl.2.2 i hi).2.1
   omega
 have hvol : ∀ i (hi : i < l.length), Usd l d i -> (xs.getD i default).vol <= vt l i (ks.getD i 0) := fun i hi hu => by
  have h1 := (h.lev i (Nat.zero_le _) hi hu).1
  have h2 := h.ok i (Nat.zero_le _) hi hu
  rw [ak hi] at h2
  rw [h1]
  unfold vt dmK at *
  rw [ak hi] at h2 ⊢
  rw [Int.toNat_natCast, ak h2]
  exact Cp h2
 refine ⟨.of (ej l d) h.lk fun i hi => by rw [hlv]; exact hks i hi, hd, fun i hi hu => (hon i hi).2 hu, fun i hi ho hp => ?_, fun i hi ho => hload i hi ((hon i hi).1 ho), fun x hx => ?_⟩
 ·have hu := (hon i hi).1 ho
  have hpl := ju hl hi hp
  have hpu : Usd l d (bu l i).toNat := by
   have := Usd.par i hi hu (by unfold bu at hp; rw [ak hi] at hp; exact hp)
   unfold bu
   rw [ak hi]
   exact this
  refine ⟨(hon _ (by omega)).2 hpu, ?_⟩
  rw [hlv, hlv]
  obtain ⟨g1, g2⟩ := h.lev i (Nat.zero_le _) hi hu
  refine Int.le_trans ?_ (Int.le_trans (g2 hp) (hvol _ (by omega) hpu))
  rw [g1]
  unfold dmV vt jc
  rw [Int.toNat_natCast]
  exact Int.le_refl _
 ·have hu : Usd l d x.sup.toNat := .draw x hx
  have hi := uk hl hd hu
  rw [hlv]
  exact ⟨Int.le_trans (h.dr x hx) (hvol _ hi hu), hhi x hx⟩
theorem tH (hl : aT l) (hd : b9 l.length d) {r : Rl} (hm : bm l r d) {pre : List (Fin l.length)} {f : Int} (h : DmR l d pre f) : f = -1 /\ bm l ⟨aL l d, (dmP l d pre).2⟩ d := by
 obtain ⟨k, hI, hc⟩ := h.inv hl hd
 rcases hc with ⟨h1, rfl⟩ | ⟨y, _, rfl, hy, hu, hno⟩
 ·refine ⟨h1, hI.meet hl hd (fun i hi hu => hm.load i hi (hm.use i hi hu)) fun x hx => ?_⟩
  have hu : Usd l d x.sup.toNat := .draw x hx
  have hi := uk hl hd hu
  obtain ⟨g1, _⟩ := hI.lev _ (Nat.zero_le _) hi hu
  have g2 := hI.ok _ (Nat.zero_le _) hi hu
  have hb := hI.bound hl hm l.length x.sup.toNat (by omega) hi hu
  have hr := hm.rv.at_ hi
  refine Int.le_trans ?_ (hm.draw x hx).2
  rw [g1]
  have e1 : vt l x.sup.toNat (lvA r x.sup.toNat) = (l[x.sup.toNat].lv)[(lvA r x.sup.toNat).toNat]'(by omega) := by unfold vt; rw [ak hi, ak (by omega)]
  have hle : dmK l (dmP l d pre).1 x.sup.toNat <= (lvA r x.sup.toNat).toNat := by
   unfold dmK
   rw [ak hi]
   exact uQ (by omega) (by rw [e1] at hb; exact hb)
  exact cT hl hi (by omega) (by omega) hr.2
 ·exfalso
  apply hno
  have hb := hI.bound hl hm l.length y (by omega) hy hu
  have hr := hm.rv.at_ hy
  have e1 : vt l y (lvA r y) = (l[y].lv)[(lvA r y).toNat]'(by omega) := by unfold vt; rw [ak hy, ak (by omega)]
  unfold dmK
  rw [ak hy]
  have := uQ (xs := l[y].lv) (v := ((dmP l d pre).1.getD y default).vol) (i := (lvA r y).toNat) (by omega) (by rw [e1] at hb; exact hb)
  omega
end
open Go.Abs
structure vD (l : List Sup) (d : List Dr) (xs : List De) (ss : List Int) (first last : Int) : Prop where
 ne : 0 < ss.length
 rng : ∀ (i : Nat) (h : i < ss.length), (0 <= ss[i] /\ ss[i] < (l.length : Int)) /\ Usd l d ss[i].toNat
 par : ∀ (i : Nat) (h : i + 1 < ss.length), bu l ss[i].toNat = ss[i + 1]
 fst : (first = -1 /\ (xs.getD ss[0].toNat default).vol = 0) \/ ∃ (i : Nat) (h : i < d.length), first = i /\ d[i].sup = ss[0] /\ d[i].lo = (xs.getD ss[0].toNat default).vol
 mid : ∀ (i : Nat) (h : i + 1 < ss.length), dmK l xs ss[i].toNat < (l.getD ss[i].toNat default).lv.length /\ dmV l xs ss[i].toNat = (xs.getD ss[i + 1].toNat default).vol
 lst : (last = -1 /\ ¬ dmK l xs (ss[ss.length - 1]'(by omega)).toNat < (l.getD (ss[ss.length - 1]'(by omega)).toNat default).lv.length) \/
  ∃ (i : Nat) (h : i < d.length), last = i /\ d[i].sup = ss[ss.length - 1]'(by omega) /\ dmK l xs (ss[ss.length - 1]'(by omega)).toNat < (l.getD (ss[ss.length - 1]'(by omega)).toNat default).lv.length /\ d[i].hi < vt l (ss[ss.length - 1]'(by omega)).toNat (dmK l xs (ss[ss.length - 1]'(by omega)).toNat)
structure UpI (l : List Sup) (d : List Dr) (xs : List De) (to : Int) (us : List Int) (at_ : Int) : Prop where
 rng : ∀ (i : Nat) (h : i < us.length), (0 <= us[i] /\ us[i] < (l.length : Int)) /\ Usd l d us[i].toNat
 par : ∀ (i : Nat) (h : i + 1 < us.length), bu l us[i].toNat = us[i + 1]
 mid : ∀ (i : Nat) (h : i + 1 < us.length), dmK l xs us[i].toNat < (l.getD us[i].toNat default).lv.length /\ dmV l xs us[i].toNat = (xs.getD us[i + 1].toNat default).vol
 hd : (us = [] /\ at_ = to) \/ ∃ h : 0 < us.length, us[us.length - 1]'(by omega) = to /\ at_ = (xs.getD (us[0]'h).toNat default).child
 up : us.length <= l.length /\ ∀ h : 0 < us.length, (us.length : Int) <= us[0]'h + 1
section
variable {l : List Sup} {d : List Dr} {xs : List De} {ks : List Int} {k : Nat} {to : Int} {us : List Int} {a : Int}
theorem UpI.init (hto : 0 <= to) : UpI l d xs to [] to := ⟨by simp, by simp, by simp, .inl ⟨rfl, rfl⟩, by simp, by simp⟩
theorem UpI.child (h : eT l d k xs ks) (hu : UpI l d xs to us a) (h0 : 0 <= a) (hne : 0 < us.length) : ∃ c : Nat, a = c /\ k <= c /\ c < l.length /\ Usd l d c /\ bu l c = us[0] /\ (xs.getD us[0].toNat default).vol = dmV l xs c := by
 rcases hu.hd with ⟨rfl, _⟩ | ⟨hl, _, hat⟩
 ·simp at hne
 ·have hr := (hu.rng 0 hl).1
  rcases h.org us[0].toNat (by omega) with g | ⟨i, hi, g, _⟩ | ⟨c, g1, g2, g3, g4, g5⟩
  ·rw [g] at hat
   simp only at hat
   omega
  ·rw [g] at hat
   simp only at hat
   omega
  ·rw [g5] at hat
   refine ⟨c, hat, g1, g2, g3, ?_, by rw [g5]⟩
   rw [g4]
   omega
theorem UpI.step (hl : aT l) (h : eT l d k xs ks) (hto : 0 <= to /\ to < (l.length : Int) /\ Usd l d to.toNat) (hu : UpI l d xs to us a) (h0 : 0 <= a) : (a < (l.length : Int)) /\ UpI l d xs to (a :: us) (xs.getD a.toNat default).child := by
 rcases Nat.eq_zero_or_pos us.length with he | hne
 ·have hn : us = [] := List.length_eq_zero_iff.1 he
  subst hn
  rcases hu.hd with ⟨_, rfl⟩ | ⟨hl, _⟩
  ·refine ⟨hto.2.1, fun i hi => ?_, fun i hi => by simp at hi, fun i hi => by simp at hi, .inr ⟨by simp, rfl, rfl⟩, by simp; omega, fun _ => by simp; omega⟩
   simp at hi
   subst hi
   exact ⟨⟨hto.1, hto.2.1⟩, hto.2.2⟩
  ·simp at hl
 ·obtain ⟨c, rfl, g1, g2, g3, g4, g5⟩ := hu.child h h0 hne
  have hko := h.ok c g1 g2 g3
  have hr0 := (hu.rng 0 hne).1
  have hpl := ju hl g2 (by omega)
  have hup := hu.up.2 hne
  refine ⟨by omega, fun i hi => ?_, fun i hi => ?_, fun i hi => ?_, .inr ⟨by simp, ?_, rfl⟩, by simp; omega, fun _ => by simp; omega⟩
  ·rcases i with _ | i
   ·exact ⟨⟨by simp, by simpa using g2⟩, by simpa using g3⟩
   ·exact hu.rng i (by simpa using hi)
  ·rcases i with _ | i
   ·simpa using g4
   ·exact hu.par i (by simpa using hi)
  ·rcases i with _ | i
   ·simp only [List.getElem_cons_zero, List.getElem_cons_succ, Int.toNat_natCast]
    exact ⟨hko, g5.symm⟩
   ·exact hu.mid i (by simpa using hi)
  ·rcases hu.hd with ⟨rfl, _⟩ | ⟨_, h2, _⟩
   ·simp at hne
   ·simp only [List.length_cons, Nat.add_sub_cancel]
    rw [List.getElem_cons, dif_neg (by omega)]
    exact h2
theorem UpI.done (h : eT l d k xs ks) (hu : UpI l d xs to us a) (h0 : a < 0) (hto : 0 <= to) {last : Int}
  (hlast : (last = -1 /\ ¬ dmK l xs to.toNat < (l.getD to.toNat default).lv.length) \/ ∃ (i : Nat) (h : i < d.length), last = i /\ d[i].sup = to /\ dmK l xs to.toNat < (l.getD to.toNat default).lv.length /\ d[i].hi < vt l to.toNat (dmK l xs to.toNat))
  (hd : b9 l.length d) : ∃ hne : 0 < us.length, vD l d xs us (xs.getD us[0].toNat default).draw last := by
 rcases hu.hd with ⟨rfl, hat⟩ | ⟨hne, h1, h2⟩
 ·omega
 subst h1
 refine ⟨hne, hne, hu.rng, hu.par, ?_, hu.mid, ?_⟩
 ·have hr := (hu.rng 0 hne).1
  rcases h.org us[0].toNat (by omega) with g | ⟨i, hi, g, g2⟩ | ⟨c, g1, g2, g3, g4, g5⟩
  ·rw [g]
   exact .inl ⟨rfl, rfl⟩
  ·rw [g]
   have := (hd.2 _ (List.getElem_mem hi)).1
   exact .inr ⟨i, hi, rfl, by omega, rfl⟩
  ·rw [g5] at h2
   simp only at h2
   omega
 ·exact hlast
theorem yk (hl : aT l) (hd : b9 l.length d) {i : Nat} (hi : i < l.length) (h : (aS l d).getD i 0 ≠ 0) : Usd l d i := by
 have hpar : ∀ c, c < l.length -> (l.getD c default).par < c := fun c hc => by rw [ak hc]; exact (hl.2.2 c hc).1.2
 have h0 : ∀ (d' : List Dr), (∀ x ∈ d', x ∈ d) -> ∀ (xs : List Int), (∀ j, xs.getD j 0 ≠ 0 -> Usd l d j) -> ∀ j, (d'.foldl (fun xs x => dd xs x.sup.toNat x.load) xs).getD j 0 ≠ 0 -> Usd l d j := by
  intro d'
  induction d' with
  | nil => exact fun _ xs h j hj => h j hj
  | cons x d' ih =>
   intro hm xs h j hj
   refine ih (fun y hy => hm y (List.mem_cons_of_mem _ hy)) _ (fun j hj => ?_) j hj
   rw [bQ] at hj
   split at hj
   ·rename_i he
    rw [<- he.1]
    exact .draw x (hm x (List.mem_cons_self ..))
   ·exact h j hj
 have hz : ∀ j, (ld0 l.length d).getD j 0 ≠ 0 -> Usd l d j := fun j hj => h0 d (fun _ h => h) _ (fun j hj => by
  rw [List.getD_eq_getElem?_getD, List.getElem?_replicate] at hj
  split at hj <;> simp at hj) j hj
 have h1 : ∀ (is : List (Fin l.length)) (xs : List Int), (∀ j, xs.getD j 0 ≠ 0 -> Usd l d j) -> ∀ j, (is.foldl (fun xs i => ldS l xs i.val) xs).getD j 0 ≠ 0 -> Usd l d j := by
  intro is
  induction is with
  | nil => exact fun xs h j hj => h j hj
  | cons c is ih =>
   intro xs h j hj
   refine ih _ (fun j hj => ?_) j hj
   replace hj : (ldS l xs c.val).getD j 0 ≠ 0 := hj
   unfold ldS at hj
   split at hj
   ·rename_i hp
    rw [bQ] at hj
    split at hj
    ·rename_i he
     by_cases hx : xs.getD c.val 0 = 0
     ·rw [hx] at hj
      rw [<- he.1]
      exact h _ (by simpa using hj)
     ·have hu := h _ hx
      have := Usd.par c.val c.isLt hu (by rw [ak c.isLt] at hp; exact hp)
      rw [ak c.isLt] at he
      rw [he.1] at this
      exact this
    ·exact h j hj
   ·exact h j hj
 exact h1 _ _ hz i h
end
open Go.Abs
set_option maxRecDepth 100000
theorem zp (n lo hi : Int) : ao Tryz.prog 40 [.p (pI n), .p (pI lo), .p (pI hi)] [] fun r H => r = .p (pB (decide (lo <= n /\ n <= hi))) /\ H = [] := by
 refine aa Tryz.func40 rfl rfl au rfl ?_
 refine' y2c33
 all_goals
  (refine ay.p ?_ <;> refine' aj; all_goals try first | refine Et ?_ | refine Dq ?_)
 ·by_cases h : n <= hi <;> simp [h] <;> omega
 ·simp; omega
theorem b7 {n lo hi : Int} (h : lo <= n /\ n <= hi) : ao Tryz.prog 40 [.p (pI n), .p (pI lo), .p (pI hi)] [] fun r H => r = .p (pB true) /\ H = [] := by
 have := zp n lo hi
 rwa [decide_eq_true h] at this
theorem iD (nl : Bool) (l : List Sup) (hl : aT l) : ao Tryz.prog 12 [.p (.list nl (l.map Sup.pv))] [] fun r H => r = .p (pI 0) /\ H = [] := by
 refine aa Tryz.func12 rfl rfl au rfl ?_
 obtain ⟨h16, hm, hv⟩ := hl
 refine' y2c33
 refine ai (fun (c : Nat) => ⟨[(0, .p (.list nl (l.map Sup.pv))), (12, .p (.list nl (l.map Sup.pv))), (13, .p (pI l.length)), (14, .p (pI c))], []⟩) (fun c => c <= l.length) (fun c => l.length - c) 0 ?_ ?_ ?_; (refine aq.auto rfl rfl rfl rfl ?_ ?_ <;> refine' aj)
 ·omega
 rintro c hc
 rcases Nat.lt_or_ge c l.length with hlt | hge
 ·have h1 := hm _ (List.getElem_mem hlt)
  refine' y2c33
  (refine' ⟨c + 1, _, _, _⟩; rotate_right; (refine aq.auto rfl rfl rfl rfl ?_ ?_ <;> refine' aj); rotate_right; exact aw)
  omega
 refine' y2c33
 refine ai (fun (c : Nat) => ⟨[(23, .p (.list nl (l.map Sup.pv))), (24, .p (pI l.length)), (25, .p (pI c))], []⟩) (fun c => c <= l.length) (fun c => l.length - c) 0 ?_ ?_ ?_; (refine aq.auto rfl rfl rfl rfl ?_ ?_ <;> refine' aj)
 ·omega
 clear hge hc
 rintro c hc
 rcases Nat.lt_or_ge c l.length with hlt | hge
 ·obtain ⟨g1, g2, g3, g4, g5, g6, g7⟩ := hv c hlt
  have h1 := hm _ (List.getElem_mem hlt)
  (conv => whnf); repeat' ((first | refine' z2c33 | (refine ab.scalar (b7 (show -1 <= l[c].par /\ l[c].par <= (c : Int) - 1 by omega)) ?_) | (refine ab.scalar (b7 g3) ?_) | (refine ab.scalar (b7 g5) ?_)) <;> (conv => whnf))
  all_goals
   refine ai (fun (k : Nat) => ⟨[(6, .ptr 0 0), (23, .p (.list nl (l.map Sup.pv))), (24, .p (pI l.length)), (25, .p (pI c)), (65, .p (.list l[c].ln (l[c].lv.map pI))), (66, .p (pI l[c].lv.length)), (67, .p (pI k))], [some (.cells [.p (pI l[c].par), .p (.list l[c].ln (l[c].lv.map pI)), .p (pI l[c].drop), .p (pI l[c].cap), .p (pB l[c].alw)])]⟩) (fun k => k <= l[c].lv.length) (fun k => l[c].lv.length - k) 0 ?_ ?_ ?_; (refine aq.auto rfl rfl rfl rfl ?_ ?_ <;> refine' aj)
   ·omega
   rintro k hk
   rcases Nat.lt_or_ge k l[c].lv.length with hlt2 | hge2
   ·have h6 := g6 _ (List.getElem_mem hlt2)
    rcases Nat.eq_zero_or_pos k with rfl | hk0
    ·(conv => whnf); repeat' ((first | refine' z2c33 | (refine ab.scalar (b7 h6) ?_)) <;> (conv => whnf))
     (refine' ⟨1, _, _, _⟩; rotate_right; (refine aq.auto rfl rfl rfl rfl ?_ ?_ <;> refine' aj); rotate_right; exact aw)
     omega
    ·have h7 := g7 (k - 1) (by omega)
     have h8 : l[c].lv[k - 1 + 1]'(by omega) = l[c].lv[k] := getElem_congr rfl (by omega) _
     rw [h8] at h7
     have h9 : l[c].lv[k - 1]'(by omega) = l[c].lv[((k : Int) - 1).toNat]'(by omega) := getElem_congr rfl (by omega) _
     rw [h9] at h7
     (conv => whnf); repeat' ((first | refine' z2c33 | (refine ab.scalar (b7 h6) ?_)) <;> (conv => whnf))
     (refine' ⟨k + 1, _, _, _⟩; rotate_right; (refine aq.auto rfl rfl rfl rfl ?_ ?_ <;> refine' aj); rotate_right; exact aw)
     omega
   ·refine' y2c33
    (refine' ⟨c + 1, _, _, _⟩; rotate_right; (refine aq.auto rfl rfl rfl rfl ?_ ?_ <;> refine' aj); rotate_right; exact aw)
    omega
 ·refine' y2c33
  (refine ay.p ?_ <;> refine' aj; all_goals try first | refine Et ?_ | refine Dq ?_)
theorem l7 (nl n2 : Bool) (l : List Sup) (d : List Dr) (hl : aT l) (hd : b9 l.length d) : ao Tryz.prog 60 [.p (.list nl (l.map Sup.pv)), .p (.list n2 (d.map Dr.pv))] [] fun r H => r = .p (pB true) /\ H = [] := by
 refine aa Tryz.func60 rfl rfl au rfl ?_
 obtain ⟨h32, hv⟩ := hd
 (conv => whnf); repeat' ((first | refine' z2c33 | (refine ab.scalar (iD nl l hl) ?_)) <;> (conv => whnf))
 refine ai (fun (c : Nat) => ⟨[(0, .p (.list nl (l.map Sup.pv))), (15, .p (.list n2 (d.map Dr.pv))), (16, .p (pI d.length)), (17, .p (pI c))], []⟩) (fun c => c <= d.length) (fun c => d.length - c) 0 ?_ ?_ ?_; (refine aq.auto rfl rfl rfl rfl ?_ ?_ <;> refine' aj)
 ·omega
 rintro c hc
 rcases Nat.lt_or_ge c d.length with hlt | hge
 ·obtain ⟨g1, g2, g3, g4⟩ := hv _ (List.getElem_mem hlt)
  (conv => whnf); repeat' ((first | refine' z2c33 | (refine ab.scalar (b7 (show 0 <= d[c].sup /\ d[c].sup <= (l.length : Int) - 1 by omega)) ?_) | (refine ab.scalar (b7 g3) ?_) | (refine ab.scalar (b7 g4) ?_)) <;> (conv => whnf))
  (refine' ⟨c + 1, _, _, _⟩; rotate_right; (refine aq.auto rfl rfl rfl rfl ?_ ?_ <;> refine' aj); rotate_right; exact aw)
  omega
 ·refine' y2c33
  (refine ay.p ?_ <;> refine' aj; all_goals try first | refine Et ?_ | refine Dq ?_)
theorem pq (nl n2 : Bool) (l : List Sup) (d : List Dr) (hl : aT l) (hd : b9 l.length d) : ao Tryz.prog 47 [.p (.list nl (l.map Sup.pv)), .p (.list n2 (d.map Dr.pv))] [] fun r H => r = .p (pI 0) /\ H = [] := by
 refine aa Tryz.func47 rfl rfl au rfl ?_
 (conv => whnf); repeat' ((first | refine' z2c33 | (refine ab.scalar (iD nl l hl) ?_) | (refine ab.scalar (l7 nl n2 l d hl hd) ?_)) <;> (conv => whnf))
 (refine ay.p ?_ <;> refine' aj; all_goals try first | refine Et ?_ | refine Dq ?_)
theorem sU (nl n3 n4 : Bool) (l : List Sup) (r : Rl) (hl : aT l) (hr : RlV l r) : ao Tryz.prog 61 [.p (.list nl (l.map Sup.pv)), .p (.agg [.list n3 (r.on.map pB), .list n4 (r.lev.map pI)])] [] fun r H => r = .p (pB true) /\ H = [] := by
 refine aa Tryz.func61 rfl rfl au rfl ?_
 obtain ⟨h1, h2, hv⟩ := hr
 have h16 := hl.1
 (conv => whnf); repeat' ((first | refine' z2c33 | (refine ab.scalar (iD nl l hl) ?_)) <;> (conv => whnf))
 refine ai (fun (c : Nat) => ⟨[(3, .ptr 0 0), (26, .p (.list nl (l.map Sup.pv))), (27, .p (pI l.length)), (28, .p (pI c))], [some (.cells [.p (.list n3 (r.on.map pB)), .p (.list n4 (r.lev.map pI))])]⟩) (fun c => c <= l.length) (fun c => l.length - c) 0 ?_ ?_ ?_; (refine aq.auto rfl rfl rfl rfl ?_ ?_ <;> refine' aj)
 ·omega
 rintro c hc
 rcases Nat.lt_or_ge c l.length with hlt | hge
 ·have g := hv c hlt (by omega)
  have hc2 : c < r.lev.length := by omega
  (conv => whnf); repeat' ((first | refine' z2c33 | (refine gD.mk' (b7 (show 0 <= r.lev[c] /\ r.lev[c] <= (l[c].lv.length : Int) - 1 by omega)) ?_)) <;> (conv => whnf))
  (refine' ⟨c + 1, _, _, _⟩; rotate_right; (refine aq.auto rfl rfl rfl rfl ?_ ?_ <;> refine' aj); rotate_right; exact aw)
  omega
 ·refine' y2c33
  (refine ay.p ?_ <;> refine' aj; all_goals try first | refine Et ?_ | refine Dq ?_)
def sg (l : List Sup) (d : List Dr) (k : Nat) (ys : List Bool) : Prop := ys.length = l.length /\ ∀ j, j < l.length -> (ys.getD j false = true ↔ (k <= j /\ Usd l d j) \/ (j < k /\ ∃ c, k <= c /\ c < l.length /\ Usd l d c /\ 0 <= (l.getD c default).par /\ (l.getD c default).par.toNat = j))
theorem sg.start (l : List Sup) (d : List Dr) : sg l d l.length (List.replicate l.length false) := by
 refine ⟨by simp, fun j hj => ?_⟩
 constructor
 ·intro h
  simp [List.getD_eq_getElem?_getD, List.getElem?_replicate, hj] at h
 ·rintro (⟨h, _⟩ | ⟨_, c, h1, h2, _⟩)
  ·omega
  ·omega
theorem sg.step {l : List Sup} {d : List Dr} (hl : aT l) {k : Nat} (hk : k < l.length) {ys : List Bool} (h : sg l d (k + 1) ys) {b : Bool} (hb : b = true ↔ (ys.getD k false = true \/ (l.getD k default).alw = true \/ ∃ x ∈ d, x.sup.toNat = k)) :
  (b = true ↔ Usd l d k) /\ sg l d k (if b = true /\ 0 <= (l.getD k default).par then (ys.set k b).set (l.getD k default).par.toNat true else ys.set k b) := by
 have hpar : ∀ c, c < l.length -> (l.getD c default).par < c := fun c hc => by rw [ak hc]; exact (hl.2.2 c hc).1.2
 obtain ⟨hlen, hx⟩ := h
 have hpk := hpar k hk
 have hv : b = true ↔ Usd l d k := by
  rw [hb, hx k hk]
  constructor
  ·rintro ((⟨h, _⟩ | ⟨_, c, h1, h2, h3, h4, h5⟩) | h | ⟨x, h, rfl⟩)
   ·omega
   ·rw [ak h2] at h4 h5
    rw [<- h5]
    exact .par c h2 h3 h4
   ·rw [ak hk] at h
    exact .alw k hk h
   ·exact .draw x h
  ·intro h
   cases h with
   | draw x h => exact .inr (.inr ⟨x, h, rfl⟩)
   | alw _ _ h => exact .inr (.inl (by rw [ak hk]; exact h))
   | par c h2 h3 h4 =>
    have := hpar c h2
    rw [ak h2] at this
    exact .inl (.inr ⟨by omega, c, by omega, h2, h3, by rw [ak h2]; exact h4, by rw [ak h2]⟩)
 refine ⟨hv, ?_, fun j hj => ?_⟩
 ·split <;> simp [hlen]
 have hxj := hx j hj
 rcases Nat.lt_trichotomy j k with hjk | hjk | hjk
 ·have e1 : (ys.set k b).getD j false = ys.getD j false := by rw [bC, if_neg (by omega)]
  split
  ·rename_i hc
   rw [bC]
   by_cases he : (l.getD k default).par.toNat = j
   ·rw [if_pos ⟨he, by simp; omega⟩]
    exact ⟨fun _ => .inr ⟨hjk, k, Nat.le_refl _, hk, hv.1 hc.1, hc.2, he⟩, fun _ => rfl⟩
   ·rw [if_neg (fun h => he h.1), e1, hxj]
    constructor
    ·rintro (⟨h, _⟩ | ⟨_, c, h1, h2⟩)
     ·omega
     ·exact .inr ⟨hjk, c, by omega, h2⟩
    ·rintro (⟨h, _⟩ | ⟨_, c, h1, h2, h3, h4, h5⟩)
     ·omega
     ·refine .inr ⟨by omega, c, ?_, h2, h3, h4, h5⟩
      rcases Nat.lt_or_eq_of_le h1 with h | h
      ·exact h
      ·subst h; exact absurd h5 he
  ·rename_i hc
   rw [e1, hxj]
   constructor
   ·rintro (⟨h, _⟩ | ⟨_, c, h1, h2⟩)
    ·omega
    ·exact .inr ⟨hjk, c, by omega, h2⟩
   ·rintro (⟨h, _⟩ | ⟨_, c, h1, h2, h3, h4, h5⟩)
    ·omega
    ·refine .inr ⟨by omega, c, ?_, h2, h3, h4, h5⟩
     rcases Nat.lt_or_eq_of_le h1 with h | h
     ·exact h
     ·subst h; exact absurd ⟨hv.2 h3, h4⟩ hc
 ·subst hjk
  have e1 : (ys.set j b).getD j false = b := by rw [bC, if_pos ⟨rfl, by omega⟩]
  have e2 : (if b = true /\ 0 <= (l.getD j default).par then (ys.set j b).set (l.getD j default).par.toNat true else ys.set j b).getD j false = b := by
   split
   ·rename_i hc
    rw [bC, if_neg (by omega), e1]
   ·exact e1
  rw [e2, hv]
  exact ⟨fun h => .inl ⟨Nat.le_refl _, h⟩, fun h => by rcases h with ⟨_, h⟩ | ⟨h, _⟩; exact h; omega⟩
 ·have e1 : (ys.set k b).getD j false = ys.getD j false := by rw [bC, if_neg (by omega)]
  have e2 : (if b = true /\ 0 <= (l.getD k default).par then (ys.set k b).set (l.getD k default).par.toNat true else ys.set k b).getD j false = ys.getD j false := by
   split
   ·rename_i hc
    rw [bC, if_neg (by omega), e1]
   ·exact e1
  rw [e2, hxj]
  exact ⟨fun h => by rcases h with ⟨_, h⟩ | ⟨h, _⟩; exact .inl ⟨by omega, h⟩; omega, fun h => by rcases h with ⟨_, h⟩ | ⟨h, _⟩; exact .inl ⟨by omega, h⟩; omega⟩
theorem sg.done {l : List Sup} {d : List Dr} (hl : aT l) (hd : b9 l.length d) {ys : List Bool} (h : sg l d 0 ys) : ys = aL l d := by
 obtain ⟨hlen, hx⟩ := h
 have hul := ej l d
 refine List.ext_getElem (by omega) fun j h1 h2 => ?_
 have h3 := hx j (by omega)
 have h4 := dC hl hd (i := j) (by omega)
 rw [<- ak (d := false) h1, <- ak (d := false) h2, Bool.eq_iff_iff, h3, h4]
 simp
def xsK (l : List Sup) (d : List Dr) (k : Nat) : List Int := ldP l d ((List.finRange l.length).drop k).reverse
theorem yX (l : List Sup) (d : List Dr) {k : Nat} (hk : k < l.length) : xsK l d k = ldS l (xsK l d (k + 1)) k := by
 unfold xsK
 rw [<- ig hk, ta]
theorem AF (l : List Sup) (d : List Dr) : xsK l d 0 = aS l d := by
 unfold xsK
 rw [List.drop_zero]
 rfl
theorem yY (l : List Sup) (d : List Dr) : xsK l d l.length = ld0 l.length d := by
 unfold xsK
 rw [List.drop_eq_nil_of_le (by simp)]
 rfl
def RL (l : List Sup) (d : List Dr) (k : Nat) (ys : List Int) : Prop := ys.length = l.length /\ ∀ j, j < l.length -> ys.getD j 0 + (if j < k then (ld0 l.length d).getD j 0 else 0) = (xsK l d k).getD j 0
theorem RL.start (l : List Sup) (d : List Dr) : RL l d l.length (List.replicate l.length 0) := by
 refine ⟨by simp, fun j hj => ?_⟩
 rw [if_pos hj, yY]
 simp [List.getD_eq_getElem?_getD, List.getElem?_replicate, hj]
theorem RL.step {l : List Sup} {d : List Dr} (hl : aT l) {k : Nat} (hk : k < l.length) {ys : List Int} (h : RL l d (k + 1) ys) {v : Int} (hv : v = ys.getD k 0 + (ld0 l.length d).getD k 0) :
  RL l d k (if 0 <= (l.getD k default).par then (ys.set k v).set (l.getD k default).par.toNat (ys.getD (l.getD k default).par.toNat 0 + v) else ys.set k v) := by
 have hpk : (l.getD k default).par < k := by rw [ak hk]; exact (hl.2.2 k hk).1.2
 obtain ⟨hlen, hx⟩ := h
 have hxl := f_ l d ((List.finRange l.length).drop (k + 1)).reverse
 change (xsK l d (k + 1)).length = _ at hxl
 have hkv := hx k hk
 rw [if_pos (by omega), <- hv] at hkv
 refine ⟨by split <;> simp [hlen], fun j hj => ?_⟩
 have hxj := hx j hj
 rw [yX l d hk]
 unfold ldS
 rcases Nat.lt_trichotomy j k with hjk | rfl | hjk
 ·rw [if_pos (by omega)] at hxj
  rw [if_pos hjk]
  split
  ·rename_i hc
   have h1 := hx (l.getD k default).par.toNat (by omega)
   rw [if_pos (by omega)] at h1
   rw [bQ, bK, bK, if_neg (fun h => by omega : ¬ (k = j /\ j < ys.length)), List.length_set, hlen, hxl, <- hkv]
   by_cases h2 : (l.getD k default).par.toNat = j
   ·subst h2
    rw [if_pos ⟨rfl, hj⟩, if_pos ⟨rfl, hj⟩]
    omega
   ·rw [if_neg (fun h => h2 h.1), if_neg (fun h => h2 h.1)]
    exact hxj
  ·rw [bK, if_neg (fun h => by omega)]
   exact hxj
 ·rw [if_neg (show ¬ j < j by omega), Int.add_zero]
  split
  ·rename_i hc
   rw [bQ, bK, bK, if_neg (fun h => by omega), if_pos ⟨rfl, by omega⟩, if_neg (fun h => by omega)]
   exact hkv
  ·rw [bK, if_pos ⟨rfl, by omega⟩]
   exact hkv
 ·rw [if_neg (by omega), Int.add_zero] at hxj
  rw [if_neg (show ¬ j < k by omega), Int.add_zero]
  split
  ·rename_i hc
   rw [bQ, bK, bK, if_neg (fun h => by omega), if_neg (fun h => by omega), if_neg (fun h => by omega)]
   exact hxj
  ·rw [bK, if_neg (fun h => by omega)]
   exact hxj
theorem RL.done {l : List Sup} {d : List Dr} {ys : List Int} (h : RL l d 0 ys) : ys = aS l d := by
 obtain ⟨hlen, hx⟩ := h
 have hxl := f_ l d ((List.finRange l.length).drop 0).reverse
 change (xsK l d 0).length = _ at hxl
 rw [<- AF]
 refine List.ext_getElem (by omega) fun j h1 h2 => ?_
 have h3 := hx j (by omega)
 rw [if_neg (by omega), Int.add_zero, ak h1, ak h2] at h3
 exact h3
theorem RL.bnd {l : List Sup} {d : List Dr} (h16 : l.length <= 16) (hd : b9 l.length d) {k : Nat} {ys : List Int} (h : RL l d k ys) (j : Nat) (hj : j < l.length) : -20971520000 <= ys.getD j 0 /\ ys.getD j 0 <= 20971520000 := by
 have h1 := h.2 j hj
 have h2 := (wa hd ((List.finRange l.length).drop k).reverse).le (c := 20971520000) (by
  have : (2 : Int) ^ ((List.finRange l.length).drop k).reverse.length <= 2 ^ 16 := by
   exact_mod_cast Nat.pow_le_pow_right (by decide) (by simp; omega)
  omega) j
 change 0 <= (xsK l d k).getD j 0 /\ (xsK l d k).getD j 0 <= _ at h2
 have h3 := mG hd d.length (Nat.le_refl _) j
 rw [List.take_length] at h3
 have := hd.1
 split at h1 <;> omega
theorem AR {d : List Dr} {c k : Nat} (hc : c < d.length) : (∃ x ∈ d.take (c + 1), x.sup.toNat = k) ↔ (∃ x ∈ d.take c, x.sup.toNat = k) \/ d[c].sup.toNat = k := by
 rw [List.take_succ_eq_append_getElem hc]
 simp only [List.mem_append, List.mem_singleton, or_and_right, exists_or, exists_eq_left]
theorem nC (nl n2 : Bool) (l : List Sup) (d : List Dr) (hl : aT l) (hd : b9 l.length d) : ao Tryz.prog 48 [.p (.list nl (l.map Sup.pv)), .p (.list n2 (d.map Dr.pv))] [] fun r H => ∃ nb : Bool, r = .p (.list nb ((aL l d).map pB)) /\ H = [] := by
 refine aa Tryz.func48 rfl rfl au rfl ?_
 have h16 := hl.1
 have h32 := hd.1
 (conv => whnf); repeat' ((first | refine' z2c33 | (apply IsL.rep (f := pB) (a := false) rfl)) <;> (conv => whnf))
 refine ai (fun (⟨i, ys, nb⟩ : Int × List Bool × Bool) => ⟨[(0, .p (.list nl (l.map Sup.pv))), (1, .p (.list n2 (d.map Dr.pv))), (5, .buf 0), (6, .p (pI i))], [some (AO.buf 4 nb (ys.map pB))]⟩) (fun ⟨i, ys, nb⟩ => -1 <= i /\ i < l.length /\ sg l d (i + 1).toNat ys) (fun ⟨i, ys, nb⟩ => (i + 1).toNat) ((l.length : Int) - 1, List.replicate l.length false, false) ?_ ?_ ?_; (refine aq.auto rfl rfl rfl rfl ?_ ?_ <;> refine' aj)
 ·refine ⟨by omega, by omega, ?_⟩
  rw [show ((l.length : Int) - 1 + 1).toNat = l.length by omega]
  exact .start l d
 rintro ⟨i, ys, nb⟩ ⟨hi1, hi2, hR⟩
 try simp only at hi1 hi2 hR
 rcases Int.lt_or_le i 0 with hn | hn
 ·obtain rfl : i = -1 := by omega
  have e := sg.done hl hd hR
  subst e
  refine' y2c33
  (refine ay.frz _ _ _ [0] ?_; refine' ay.auto (.p (.list nb ((aL l d).map pB))) ([]) rfl rfl rfl rfl _ _ _ <;> refine' aj)
  exact ⟨nb, rfl, rfl⟩
 ·obtain ⟨k, rfl⟩ := Int.eq_ofNat_of_zero_le hn
  rw [show ((k : Int) + 1).toNat = k + 1 by omega] at hR
  have hk : k < l.length := by omega
  have hyl := hR.1
  have hky : k < ys.length := by omega
  have hst := fun b hb => hR.step hl hk (b := b) hb
  rw [ak hky, ak hk] at hst
  have hpar := (hl.2.2 k hk).1
  have hb0 : ∀ b : Bool, b = (ys[k] || l[k].alw) -> (b = true ↔ ys[k] = true \/ l[k].alw = true \/ ∃ x ∈ d.take 0, x.sup.toNat = k) := fun b e => by subst e; simp
  refine' y2c33
  all_goals
   refine' ai (fun (⟨c, b⟩ : Nat × Bool) => ⟨[(0, .p (.list nl (l.map Sup.pv))), (1, .p (.list n2 (d.map Dr.pv))), (5, .buf 0), (6, .p (pI k)), (34, .p (.list n2 (d.map Dr.pv))), (35, .p (pI d.length)), (36, .p (pI c))], [some (AO.buf 4 nb ((ys.set k b).map pB))]⟩) (fun ⟨c, b⟩ => c <= d.length /\ (b = true ↔ ys[k] = true \/ l[k].alw = true \/ ∃ x ∈ d.take c, x.sup.toNat = k)) (fun ⟨c, b⟩ => d.length - c) (0, _) _ _ _; rotate_right; rotate_right; rotate_right; (refine aq.auto rfl rfl rfl rfl ?_ ?_ <;> refine' aj)
   ·refine ⟨Nat.zero_le _, hb0 _ ?_⟩
    rw [h0]
    rfl
   clear hb0 h0
   rintro ⟨c, b⟩ ⟨hc, hb⟩
   try simp only at hc hb
   obtain ⟨zs, hzs⟩ : ∃ zs, zs = ys.set k b := ⟨_, rfl⟩
   have hlz : zs.length = l.length := by rw [hzs, List.length_set, hyl]
   have hkk : zs[k]'(by omega) = b := by simp [hzs]
   have hss : ∀ b', zs.set k b' = ys.set k b' := fun b' => by rw [hzs, List.set_set]
   show wpG _ _ _ _ _ _ _ ⟨dQ [(0, .p (.list nl (l.map Sup.pv))), (1, .p (.list n2 (d.map Dr.pv))), (5, .buf 0), (6, .p (pI k)), (34, .p (.list n2 (d.map Dr.pv))), (35, .p (pI d.length)), (36, .p (pI c))], [some (AO.buf 4 nb ((ys.set k b).map pB))]⟩
   rw [<- hzs]
   rcases Nat.lt_or_ge c d.length with hlt | hge
   ·have hx := (hd.2 _ (List.getElem_mem hlt)).1
    have ht := AR (k := k) hlt
    clear hst hzs
    refine' y2c33
    ·rw [hss]
     (refine' ⟨(c + 1, true), _, _, _⟩; rotate_right; (refine aq.auto rfl rfl rfl rfl ?_ ?_ <;> refine' aj); rotate_right; exact aw)
     refine ⟨by omega, iff_of_true rfl ?_⟩
     rcases hb.1 (by rw [<- hkk]; exact h0) with h1 | h1 | h1
     ·exact .inl h1
     ·exact .inr (.inl h1)
     ·exact .inr (.inr (ht.2 (.inl h1)))
    ·rw [hss]
     have hbf : b = false := by rw [<- hkk]; exact h0
     rw [hbf] at hb
     (refine' ⟨(c + 1, _), _, _, _⟩; rotate_right; (refine aq.auto rfl rfl rfl rfl ?_ ?_ <;> refine' aj); rotate_right; exact aw)
     refine ⟨by omega, ?_⟩
     rw [ht, cond_false, beq_iff_eq]
     have hno : ¬ (ys[k] = true \/ l[k].alw = true \/ ∃ x ∈ d.take c, x.sup.toNat = k) := fun h => by
      have := hb.2 h
      cases this
     simp only [not_or] at hno
     constructor
     ·exact fun h => .inr (.inr (.inr (by omega)))
     ·rintro (h | h | h | h)
      ·exact absurd h hno.1
      ·exact absurd h hno.2.1
      ·exact absurd h hno.2.2
      ·omega
   ·obtain rfl : c = d.length := by omega
    rw [List.take_length] at hb
    obtain ⟨hu, hR2⟩ := hst b hb
    rw [<- hzs] at hR2
    have hk1 : ((k : Int) - 1 + 1).toNat = k := by omega
    refine' y2c33
    ·(refine' ⟨((k : Int) - 1, zs.set l[k].par.toNat true, nb), _, _, _⟩; rotate_right; (refine aq.auto rfl rfl rfl rfl ?_ ?_ <;> refine' aj); rotate_right; exact aw)
     refine ⟨by omega, by omega, ?_⟩
     rw [hk1]
     rwa [if_pos ⟨by rw [<- hkk]; assumption, by omega⟩] at hR2
    ·(refine' ⟨((k : Int) - 1, zs, nb), _, _, _⟩; rotate_right; (refine aq.auto rfl rfl rfl rfl ?_ ?_ <;> refine' aj); rotate_right; exact aw)
     refine ⟨by omega, by omega, ?_⟩
     rw [hk1]
     rwa [if_neg (fun h => by omega)] at hR2
    ·(refine' ⟨((k : Int) - 1, zs, nb), _, _, _⟩; rotate_right; (refine aq.auto rfl rfl rfl rfl ?_ ?_ <;> refine' aj); rotate_right; exact aw)
     refine ⟨by omega, by omega, ?_⟩
     rw [hk1]
     rwa [if_neg (fun h => by rw [<- hkk, h0] at h; cases h.1)] at hR2
def rl9 : Ln := (.lazy 0 (.lazy 1 (.lazy 2 (.lazy 3 (.lazy 4 (.lazy 5 (.lazy 6 (.lazy 7 (.one 8 .done)))))))))
def El : Ln := (.lazy 0 (.lazy 1 (.lazy 2 (.lazy 3 (.lazy 4 (.lazy 5 (.lazy 6 (.lazy 7 (.lazy 8 (.lazy 9 (.one 10 .done)))))))))))
theorem z5454 {P : Prop} (h : P := by
 ((first | refine' gC | refine' gpI | refine' gpB | refine' aI | refine' ba | refine' gE | fail) <;> (conv => whnf)) <;> (solve_by_elim (newGoals := .nonDependentOnly) -symm -exfalso (transparency := .reducible) only [rfl, aC])) : P := h
theorem yd421 {P : Prop} (h : P := by
 ((conv => whnf); repeat' ((first | apply aB.plain | refine' gC | refine' gpI | refine' gpB | refine' aI | refine' ba | refine' gE | fail) <;> (conv => whnf))) <;> (solve_by_elim (newGoals := .nonDependentOnly) -symm -exfalso (transparency := .reducible) only [rfl, aC])) : P := h
theorem lW (nl n2 : Bool) (l : List Sup) (d : List Dr) (hl : aT l) (hd : b9 l.length d) : ao Tryz.prog 49 [.p (.list nl (l.map Sup.pv)), .p (.list n2 (d.map Dr.pv))] [] fun r H => ∃ nb : Bool, r = .p (.list nb ((aS l d).map pI)) /\ H = [] := by
 refine aa Tryz.func49 rfl rfl au rfl ?_
 have h16 := hl.1
 have h32 := hd.1
 (conv => whnf); repeat' ((first | refine' z2c33 | (apply IsL.rep (f := pI) (a := 0) rfl)) <;> (conv => whnf))
 refine ai (fun (⟨i, ys, nb⟩ : Int × List Int × Bool) => ⟨[(0, .p (.list nl (l.map Sup.pv))), (1, .p (.list n2 (d.map Dr.pv))), (5, .buf 0), (6, .p (pI i))], [some (AO.buf 3 nb (ys.map pI))]⟩) (fun ⟨i, ys, nb⟩ => -1 <= i /\ i < l.length /\ RL l d (i + 1).toNat ys) (fun ⟨i, ys, nb⟩ => (i + 1).toNat) ((l.length : Int) - 1, List.replicate l.length 0, false) ?_ ?_ ?_; (refine aq.auto rfl rfl rfl rfl ?_ ?_ <;> refine' aj)
 ·refine ⟨by omega, by omega, ?_⟩
  rw [show ((l.length : Int) - 1 + 1).toNat = l.length by omega]
  exact .start l d
 rintro ⟨i, ys, nb⟩ ⟨hi1, hi2, hR⟩
 try simp only at hi1 hi2 hR
 rcases Int.lt_or_le i 0 with hn | hn
 ·obtain rfl : i = -1 := by omega
  have e := RL.done hR
  subst e
  refine' y2c33
  (refine ay.frz _ _ _ [0] ?_; refine' ay.auto (.p (.list nb ((aS l d).map pI))) ([]) rfl rfl rfl rfl _ _ _ <;> refine' aj)
  exact ⟨nb, rfl, rfl⟩
 ·obtain ⟨k, rfl⟩ := Int.eq_ofNat_of_zero_le hn
  rw [show ((k : Int) + 1).toNat = k + 1 by omega] at hR
  have hk : k < l.length := by omega
  have hyl := hR.1
  have hky : k < ys.length := by omega
  have hst := hR.step hl hk (v := ys.getD k 0 + (ld0 l.length d).getD k 0) rfl
  have hb := fun j hj => hR.bnd h16 hd j hj
  have hbk := hb k hk
  rw [ak hk] at hst
  have hpar := (hl.2.2 k hk).1
  refine' y2c33
  refine ai (fun (⟨c, v⟩ : Nat × Int) => ⟨[(0, .p (.list nl (l.map Sup.pv))), (1, .p (.list n2 (d.map Dr.pv))), (5, .buf 0), (6, .p (pI k)), (20, .p (.list n2 (d.map Dr.pv))), (21, .p (pI d.length)), (22, .p (pI c))], [some (AO.buf 3 nb ((ys.set k v).map pI))]⟩) (fun ⟨c, v⟩ => c <= d.length /\ v = ys.getD k 0 + (ld0 l.length (d.take c)).getD k 0) (fun ⟨c, v⟩ => d.length - c) (0, ys.getD k 0) ?_ ?_ ?_; (refine aq.auto rfl rfl rfl rfl ?_ ?_ <;> refine' aj)
  ·rw [ak hky]
   simp
  ·refine ⟨Nat.zero_le _, ?_⟩
   have : (ld0 l.length (d.take 0)).getD k 0 = 0 := by
    rw [List.take_zero, ld0, List.foldl_nil]
    simp [List.getD_eq_getElem?_getD, List.getElem?_replicate]
    split <;> rfl
   rw [this, Int.add_zero]
  rintro ⟨c, v⟩ ⟨hc, hv⟩
  try simp only at hc hv
  have hz := mG hd c hc k
  obtain ⟨zs, hzs⟩ : ∃ zs, zs = ys.set k v := ⟨_, rfl⟩
  have hlz : zs.length = l.length := by rw [hzs, List.length_set, hyl]
  have hkk : zs[k]'(by omega) = v := by simp [hzs]
  have hss : ∀ b', zs.set k b' = ys.set k b' := fun b' => by rw [hzs, List.set_set]
  show wpG _ _ _ _ _ _ _ ⟨dQ [(0, .p (.list nl (l.map Sup.pv))), (1, .p (.list n2 (d.map Dr.pv))), (5, .buf 0), (6, .p (pI k)), (20, .p (.list n2 (d.map Dr.pv))), (21, .p (pI d.length)), (22, .p (pI c))], [some (AO.buf 3 nb ((ys.set k v).map pI))]⟩
  rw [<- hzs]
  rcases Nat.lt_or_ge c d.length with hlt | hge
  ·have hx := hd.2 _ (List.getElem_mem hlt)
   have hx1 := hx.1
   have hx2 := hx.2.2.2
   have hsn := nZ (n := l.length) hlt
   have hln := rf l.length (d.take c)
   clear hst
   have hnx : (ld0 l.length (d.take (c + 1))).getD k 0 = if d[c].sup.toNat = k then (ld0 l.length (d.take c)).getD k 0 + d[c].load else (ld0 l.length (d.take c)).getD k 0 := by
    rw [hsn, bQ]
    by_cases he : d[c].sup.toNat = k
    ·rw [if_pos ⟨he, by omega⟩, if_pos he, he]
    ·rw [if_neg (fun h => he h.1), if_neg he]
   have hzv : -20971520000 <= zs[k]'(by omega) /\ zs[k]'(by omega) <= 20971520000 + 320000 := by rw [hkk]; omega
   refine' yd421
   ·apply ax.lin rl9 (by kernel_rfl) (by decide +kernel)
    (conv => whnf); repeat' ((first | (apply PdC.same; · with_reducible rfl) | apply PdC.chk | apply PdA.mk | (apply EqA.mk; rfl) | (apply LzA.mk; · ((conv => whnf); repeat' ((first | (apply EqA.mk; rfl) | (apply And.intro; omega) | ((first | apply NW.as | apply fA.as); with_reducible assumption) | ((first | apply NW.i64 | apply NW.u32 | apply NW.u64 | apply NW.u8 | apply aX.hi | apply aX.lo); omega) | (apply SzA.map; (intro _; rfl)) | refine' z5454 | fail) <;> (conv => whnf)))) | refine' zd421 | (fail "DrawA.lin")) <;> (conv => whnf))
    rw [hss, hkk]
    (refine' ⟨(c + 1, v + d[c].load), _, _, _⟩; rotate_right; (refine aq.auto rfl rfl rfl rfl ?_ ?_ <;> refine' aj); rotate_right; exact aw)
    refine ⟨by omega, ?_⟩
    rw [hnx, if_pos (by omega), hv]
    omega
   ·(refine' ⟨(c + 1, v), _, _, _⟩; rotate_right; (refine aq.auto rfl rfl rfl rfl ?_ ?_ <;> refine' aj); rotate_right; exact aw)
    ·exact hzs
    refine ⟨by omega, ?_⟩
    rw [hnx, if_neg (by omega), hv]
  ·obtain rfl : c = d.length := by omega
   rw [List.take_length] at hv hz
   rw [<- hv, <- hzs] at hst
   have hk1 : ((k : Int) - 1 + 1).toNat = k := by omega
   have hzv : -20971520000 <= zs[k]'(by omega) /\ zs[k]'(by omega) <= 20971520000 + 320000 := by rw [hkk]; omega
   rcases Int.lt_or_le l[k].par 0 with hp | hp
   ·refine' yd421
    (refine' ⟨((k : Int) - 1, zs, nb), _, _, _⟩; rotate_right; (refine aq.auto rfl rfl rfl rfl ?_ ?_ <;> refine' aj); rotate_right; exact aw)
    refine ⟨by omega, by omega, ?_⟩
    rw [hk1]
    rwa [if_neg (by omega)] at hst
   ·obtain ⟨p, hpe⟩ := Int.eq_ofNat_of_zero_le hp
    have hbp := hb p (by omega)
    have hpz : zs[p]'(by omega) = ys.getD p 0 := by
     rw [<- ak (d := 0), hzs, bK, if_neg (fun h => by omega)]
    refine' yd421
    rw [hpe]
    apply ax.lin El (by kernel_rfl) (by decide +kernel)
    (conv => whnf); repeat' ((first | (apply PdC.same; · with_reducible rfl) | apply PdC.chk | apply PdA.mk | (apply EqA.mk; rfl) | (apply LzA.mk; · ((conv => whnf); repeat' ((first | (apply EqA.mk; rfl) | (apply And.intro; omega) | ((first | apply NW.as | apply fA.as); with_reducible assumption) | ((first | apply NW.i64 | apply NW.u32 | apply NW.u64 | apply NW.u8 | apply aX.hi | apply aX.lo); omega) | (apply SzA.map; (intro _; rfl)) | refine' z5454 | fail) <;> (conv => whnf)))) | refine' zd421 | (fail "DrawA.lin")) <;> (conv => whnf))
    rw [if_pos hp, hpe, Int.toNat_natCast, <- hpz, <- hkk] at hst
    (refine' ⟨((k : Int) - 1, zs.set p (zs[p]'(by omega) + zs[k]'(by omega)), nb), _, _, _⟩; rotate_right; (refine aq.auto rfl rfl rfl rfl ?_ ?_ <;> refine' aj); rotate_right; exact aw)
    refine ⟨by omega, by omega, ?_⟩
    rw [hk1]
    exact hst
theorem lY (nl n3 n4 : Bool) (l : List Sup) (r : Rl) (hl : aT l) (hr : RlV l r) (k : Nat) (hk : k < l.length) : ao Tryz.prog 118 [.p (.list nl (l.map Sup.pv)), .p (.agg [.list n3 (r.on.map pB), .list n4 (r.lev.map pI)]), .p (pI k)] [] fun s H => s = .p (pI (vt l k (lvA r k))) /\ H = [] := by
 refine aa Tryz.func118 rfl rfl au rfl ?_
 obtain ⟨h1, h2, hv⟩ := hr
 have h16 := hl.1
 have g := hv k hk (by omega)
 have hm := hl.2.1 _ (List.getElem_mem hk)
 have hk2 : k < r.lev.length := by omega
 refine' y2c33
 (refine ay.p ?_ <;> refine' aj; all_goals try first | refine Et ?_ | refine Dq ?_)
 unfold vt lvA
 rw [ak hk, ak hk2, ak (by omega)]
theorem nG (nl n3 n4 : Bool) (l : List Sup) (r : Rl) (hl : aT l) (hr : RlV l r) (i : Int) (hi : 0 <= i /\ i < l.length) : ao Tryz.prog 118 [.p (.list nl (l.map Sup.pv)), .p (.agg [.list n3 (r.on.map pB), .list n4 (r.lev.map pI)]), .p (pI i)] [] fun s H => s = .p (pI (vt l i.toNat (lvA r i.toNat))) /\ H = [] := by
 obtain ⟨k, rfl⟩ := Int.eq_ofNat_of_zero_le hi.1
 exact lY nl n3 n4 l r hl hr k (by omega)
theorem y3 {l : List Sup} {r : Rl} (hl : aT l) (hr : RlV l r) {k : Nat} (hk : k < l.length) : 1 <= vt l k (lvA r k) /\ vt l k (lvA r k) <= 5000 := by
 have g := hr.at_ hk
 have h := (hl.2.2 k hk).2.2.2.2.2.1
 unfold vt
 rw [ak hk, ak (by omega)]
 exact h _ (List.getElem_mem _)
theorem sO (nl n2 n3 n4 : Bool) (l : List Sup) (r : Rl) (d : List Dr) (hl : aT l) (hm : bm l r d) : ao Tryz.prog 62 [.p (.list nl (l.map Sup.pv)), .p (.agg [.list n3 (r.on.map pB), .list n4 (r.lev.map pI)]), .p (.list n2 (d.map Dr.pv))] [] fun s H => s = .p (pB true) /\ H = [] := by
 refine aa Tryz.func62 rfl rfl au rfl ?_
 have h16 := hl.1
 have h32 := hm.dv.1
 have hol := hm.rv.1
 have hll := hm.rv.2.1
 have hul := ej l d
 have hdl : (aS l d).length = l.length := f_ l d _
 refine' y2c33
 refine ab.loc [] [] rfl rfl ((nC nl n2 l d hl hm.dv).mono ?_)
 rintro _ _ ⟨m1, rfl, rfl⟩
 refine' y2c33
 refine ab.loc [] [] rfl rfl ((lW nl n2 l d hl hm.dv).mono ?_)
 rintro _ _ ⟨m2, rfl, rfl⟩
 refine' y2c33
 refine ai (fun (c : Nat) => ⟨[(0, .p (.list nl (l.map Sup.pv))), (2, .p (.list n2 (d.map Dr.pv))), (4, .ptr 0 0), (7, .p (.list m1 ((aL l d).map pB))), (8, .p (.list m2 ((aS l d).map pI))), (19, .p (.list nl (l.map Sup.pv))), (20, .p (pI l.length)), (21, .p (pI c))], [some (.cells [.p (.list n3 (r.on.map pB)), .p (.list n4 (r.lev.map pI))])]⟩) (fun c => c <= l.length) (fun c => l.length - c) 0 ?_ ?_ ?_; (refine aq.auto rfl rfl rfl rfl ?_ ?_ <;> refine' aj)
 ·omega
 rintro c hc
 rcases Nat.lt_or_ge c l.length with hlt | hge
 ·have hoc : c < r.on.length := by omega
  have hou : c < (aL l d).length := by omega
  have hod : c < (aS l d).length := by omega
  have hu := dC hl hm.dv hlt
  rw [ak hou] at hu
  have hon : onA r c = r.on[c] := ak hoc
  have huse := hm.use c hlt
  have hpar := hm.par c hlt
  have hload := hm.load c hlt
  rw [hon] at huse hpar hload
  rw [ak hod, ak hlt] at hload
  have hsv := hl.2.2 c hlt
  have hp1 : bu l c = l[c].par := by unfold bu; rw [ak hlt]
  have hd1 : jc l c = l[c].drop := by unfold jc; rw [ak hlt]
  rw [hp1, hd1] at hpar
  cases ho : r.on[c] with
  | false =>
   have huf : (aL l d)[c] = false := by
    cases he : (aL l d)[c] with
    | false => rfl
    | true => exact absurd (huse (hu.1 he)) (by rw [ho]; simp)
   refine' yd421
   (refine' ⟨c + 1, _, _, _⟩; rotate_right; (refine aq.auto rfl rfl rfl rfl ?_ ?_ <;> refine' aj); rotate_right; exact aw)
   omega
  | true =>
   have hld := hload ho
   have hpr := hpar ho
   have hvr := y3 hl hm.rv hlt
   obtain ⟨v1, v2, v3, v4, v5, v6, v7⟩ := hsv
   rcases Int.lt_or_le l[c].par 0 with hp | hp
   ·refine' yd421
    all_goals
     refine' y2c33
     (refine' ⟨c + 1, _, _, _⟩; rotate_right; (refine aq.auto rfl rfl rfl rfl ?_ ?_ <;> refine' aj); rotate_right; exact aw)
     omega
   ·obtain ⟨q1, q2⟩ := hpr hp
    have hop : r.on[l[c].par.toNat]'(by omega) = true := by
     rw [<- q1]
     exact (ak (by omega)).symm
    have w1 := nG nl n3 n4 l r hl hm.rv l[c].par (by omega)
    have w2 := lY nl n3 n4 l r hl hm.rv c hlt
    generalize vt l l[c].par.toNat (lvA r l[c].par.toNat) = V1 at *
    generalize vt l c (lvA r c) = V2 at *
    refine' yd421
    all_goals
     (conv => whnf); repeat' ((first | refine' z2c33 | (refine gD.mk' (w1) ?_) | (refine gD.mk' (w2) ?_)) <;> (conv => whnf))
     (refine' ⟨c + 1, _, _, _⟩; rotate_right; (refine aq.auto rfl rfl rfl rfl ?_ ?_ <;> refine' aj); rotate_right; exact aw)
     omega
 ·refine' y2c33
  refine ai (fun (c : Nat) => ⟨[(0, .p (.list nl (l.map Sup.pv))), (4, .ptr 0 0), (81, .p (.list n2 (d.map Dr.pv))), (82, .p (pI d.length)), (83, .p (pI c))], [some (.cells [.p (.list n3 (r.on.map pB)), .p (.list n4 (r.lev.map pI))])]⟩) (fun c => c <= d.length) (fun c => d.length - c) 0 ?_ ?_ ?_; (refine aq.auto rfl rfl rfl rfl ?_ ?_ <;> refine' aj)
  ·omega
  clear hc hge
  rintro c hc
  rcases Nat.lt_or_ge c d.length with hlt | hge
  ·have hx := hm.dv.2 _ (List.getElem_mem hlt)
   have hdr := hm.draw _ (List.getElem_mem hlt)
   have w1 := nG nl n3 n4 l r hl hm.rv d[c].sup hx.1
   have w2 := b7 hdr
   (conv => whnf); repeat' ((first | refine' z2c33 | (refine gD.mk' (w1) ?_) | (refine gD.mk' (w2) ?_)) <;> (conv => whnf))
   (refine' ⟨c + 1, _, _, _⟩; rotate_right; (refine aq.auto rfl rfl rfl rfl ?_ ?_ <;> refine' aj); rotate_right; exact aw)
   omega
  ·refine' y2c33
   (refine ay.p ?_ <;> refine' aj; all_goals try first | refine Et ?_ | refine Dq ?_)
theorem lZ (nl n2 n3 n4 : Bool) (l : List Sup) (r : Rl) (d : List Dr) (hl : aT l) (hm : bm l r d) : ao Tryz.prog 19 [.p (.list nl (l.map Sup.pv)), .p (.agg [.list n3 (r.on.map pB), .list n4 (r.lev.map pI)]), .p (.list n2 (d.map Dr.pv))] [] fun s H => s = .p (pB true) /\ H = [] := by
 refine aa Tryz.func19 rfl rfl au rfl ?_
 (conv => whnf); repeat' ((first | refine' z2c33 | (refine ab.scalar (l7 nl n2 l d hl hm.dv) ?_) | (refine ab.scalar (sU nl n3 n4 l r hl hm.rv) ?_) | (refine ab.scalar (sO nl n2 n3 n4 l r d hl hm) ?_)) <;> (conv => whnf))
 (refine ay.p ?_ <;> refine' aj; all_goals try first | refine Et ?_ | refine Dq ?_)
def lX (ws : List Int) (i k : Nat) : Int := if k < i \/ ws.length <= k + i then ws.getD (ws.length - 1 - k) 0 else ws.getD k 0
def gG (ws : List Int) (i : Nat) : List Int := (List.range ws.length).map (lX ws i)
theorem sQ (ws : List Int) (i : Nat) : (gG ws i).length = ws.length := by simp [gG]
theorem w7 (ws : List Int) : gG ws 0 = ws := by
 refine List.ext_getElem (by simp [gG]) fun k h1 h2 => ?_
 simp only [gG, lX, List.getElem_map, List.getElem_range]
 rw [if_neg (by omega)]
 simp [h2]
theorem zq (ws : List Int) {i : Nat} (h : ws.length <= i + i + 1) : gG ws i = ws.reverse := by
 refine List.ext_getElem (by simp [gG]) fun k h1 h2 => ?_
 have hk : k < ws.length := by simpa using h2
 simp only [gG, lX, List.getElem_map, List.getElem_range, List.getElem_reverse]
 split
 ·simp [show ws.length - 1 - k < ws.length by omega]
 ·have : k = ws.length - 1 - k := by omega
  simp [hk, <- this]
theorem w8 (ws : List Int) {i : Nat} (h : i + i + 1 < ws.length) : ((gG ws i).set i (lX ws i (ws.length - 1 - i))).set (ws.length - 1 - i) (lX ws i i) = gG ws (i + 1) := by
 refine List.ext_getElem (by simp [gG]) fun k h1 h2 => ?_
 have hk : k < ws.length := by simpa [gG] using h2
 rw [List.getElem_set, List.getElem_set]
 simp only [gG, lX, List.getElem_map, List.getElem_range]
 split
 ·rename_i he
  rw [if_neg (by omega), if_pos (by omega)]
  congr 1
  omega
 ·split
  ·rename_i he
   rw [if_neg (by omega), if_pos (by omega)]
   congr 1
   omega
  ·by_cases hc : k < i \/ ws.length <= k + i
   ·rw [if_pos hc, if_pos (by omega)]
   ·rw [if_neg hc, if_neg (by omega)]
def Em : Ln := (.lazy 0 (.lazy 1 (.lazy 2 (.lazy 3 (.lazy 4 (.lazy 5 (.lazy 6 (.lazy 7 (.lazy 8 (.lazy 9 (.lazy 10 (.lazy 11 (.lazy 12 (.one 13 (.lazy 14 (.one 15 .done))))))))))))))))
theorem z8757 {P : Prop} (h : P := by
 ((first | refine' gC | refine' gpI | refine' gpB | refine' aI | refine' ba | refine' wg | refine' gE | fail) <;> (conv => whnf)) <;> (solve_by_elim (newGoals := .nonDependentOnly) -symm -exfalso (transparency := .reducible) only [rfl, aC])) : P := h
theorem yQ (nb : Bool) (ws : List Int) (hl : ws.length <= 100) : ao Tryz.prog 112 [.buf 0] [some (AO.buf 3 nb (ws.map pI))] fun r H => r = .tup [] /\ H = [some (AO.buf 3 nb (ws.reverse.map pI))] := by
 refine aa Tryz.func112 rfl rfl au rfl ?_
 refine' yb568
 refine ai (fun (⟨i, xs⟩ : Nat × List Int) => ⟨[(0, .buf 0), (2, .p (pI i)), (3, .p (pI ((ws.length : Int) - 1 - i)))], [some (AO.buf 3 nb (xs.map pI))]⟩) (fun ⟨i, xs⟩ => i + i <= ws.length + 1 /\ xs = gG ws i) (fun ⟨i, xs⟩ => ws.length + 1 - i) (0, ws) ?_ ?_ ?_; (refine aq.auto rfl rfl rfl rfl ?_ ?_ <;> refine' aj)
 ·exact ⟨by omega, (w7 ws).symm⟩
 rintro ⟨i, xs⟩ ⟨hi, hxs⟩
 try simp only at hi hxs
 have hxl : xs.length = ws.length := by rw [hxs, sQ]
 rcases Nat.lt_or_ge (i + i + 1) ws.length with hlt | hge
 ·have hst := w8 ws hlt
  have g1 : xs[i]'(by omega) = lX ws i i := by simp [hxs, gG]
  have g2 : xs[ws.length - 1 - i]'(by omega) = lX ws i (ws.length - 1 - i) := by simp [hxs, gG]
  rw [<- g1, <- g2, <- hxs] at hst
  obtain ⟨j, hj⟩ : ∃ j, j = ws.length - 1 - i := ⟨_, rfl⟩
  have hji : (ws.length : Int) - 1 - i = (j : Int) := by omega
  have hst2 : (xs.set i (xs[j]'(by omega))).set j (xs[i]'(by omega)) = gG ws (i + 1) := by subst hj; exact hst
  clear hst g1 g2 hxs
  show wpG _ _ _ _ _ _ _ ⟨dQ [(0, .buf 0), (2, .p (pI i)), (3, .p (pI ((ws.length : Int) - 1 - i)))], [some (AO.buf 3 nb (xs.map pI))]⟩
  rw [hji]
  refine' y196e
  apply ax.lin Em (by kernel_rfl) (by decide +kernel)
  (conv => whnf); repeat' ((first | (apply PdC.same; · with_reducible rfl) | apply PdC.chk | apply PdA.mk | (apply EqA.mk; rfl) | (apply LzA.mk; · ((conv => whnf); repeat' ((first | (apply EqA.mk; rfl) | (apply And.intro; omega) | ((first | apply NW.as | apply fA.as); with_reducible assumption) | ((first | apply NW.i64 | apply NW.u32 | apply NW.u64 | apply NW.u8 | apply aX.hi | apply aX.lo); omega) | (apply SzA.map; (intro _; rfl)) | refine' z8757 | fail) <;> (conv => whnf)))) | refine' z196e | (fail "DrawA.lin")) <;> (conv => whnf))
  rw [hst2]
  (refine' ⟨(i + 1, gG ws (i + 1)), _, _, _⟩; rotate_right; (refine aq.auto rfl rfl rfl rfl ?_ ?_ <;> refine' aj); rotate_right; exact aw)
  exact ⟨by omega, rfl⟩
 ·rw [zq ws hge] at hxs
  subst hxs
  refine' yb568
  (refine' ay.auto (.tup []) ([some (AO.buf 3 nb (ws.reverse.map pI))]) rfl rfl rfl rfl _ _ _ <;> refine' aj)
def Chn.pv (ov nb : Bool) (ss : List Int) (first last : Int) : PV := .agg [pB ov, .list nb (ss.map pI), pI first, pI last]
theorem oN (l : List Sup) (d : List Dr) (xs : List De) (ks : List Int) (k : Nat) (hl : aT l) (hd : b9 l.length d) (h : eT l d k xs ks) (hxl : xs.length = l.length) (n1 : Bool) (to last : Int) (hto : 0 <= to /\ to < (l.length : Int) /\ Usd l d to.toNat)
  (hlast : (last = -1 /\ ¬ dmK l xs to.toNat < (l.getD to.toNat default).lv.length) \/ ∃ (i : Nat) (h : i < d.length), last = i /\ d[i].sup = to /\ dmK l xs to.toNat < (l.getD to.toNat default).lv.length /\ d[i].hi < vt l to.toNat (dmK l xs to.toNat)) :
  ao Tryz.prog 46 [.p (.list n1 (xs.map De.pv)), .p (pI to), .p (pI last)] [] fun r H => ∃ (nb : Bool) (ss : List Int) (first : Int), vD l d xs ss first last /\ r = .p (Chn.pv false nb ss first last) /\ H = [] := by
 refine aa Tryz.func46 rfl rfl au rfl ?_
 have h16 := hl.1
 refine' yb568
 refine ai (fun (⟨us, a, nb, first⟩ : List Int × Int × Bool × Int) => ⟨[(0, .p (.list n1 (xs.map De.pv))), (6, .ptr 0 0), (7, .ptr 1 0), (8, .p (pI a))], [some (.cells [.p (pB false), .p (.list true []), .p (pI 0), .p (pI 0)]), some (.cells [.p (pB false), .buf 2, .p (pI first), .p (pI last)]), some (AO.buf 3 nb (us.reverse.map pI))]⟩) (fun ⟨us, a, nb, first⟩ => UpI l d xs to us a /\ us.length <= 16 /\ (∀ h : 0 < us.length, first = (xs.getD us[0].toNat default).draw)) (fun ⟨us, a, nb, first⟩ => l.length + 1 - us.length) ([], to, true, -1) ?_ ?_ ?_; (refine aq.cell _ 1 1 3 _ _ _ _ _ rfl rfl rfl ?_; refine aq.auto rfl rfl rfl rfl ?_ ?_ <;> refine' aj)
 ·exact ⟨.init hto.1, by simp, fun h => by simp at h⟩
 rintro ⟨us, a, nb, first⟩ ⟨hu, hul, hf⟩
 try simp only at hu hul hf
 rcases Int.lt_or_le a 0 with hn | hn
 ·obtain ⟨hne, hC⟩ := hu.done h hn hto.1 hlast hd
  have hf1 := hf hne
  rw [<- hf1] at hC
  refine' yb568
  refine ab.loc [2] [] rfl rfl ((yQ nb us.reverse (by simp; omega)).mono ?_)
  rw [List.reverse_reverse]
  rintro _ _ ⟨rfl, rfl⟩
  refine' yb568
  (refine ay.frz _ _ _ [2] ?_; refine' ay.auto (.p (Chn.pv false nb us first last)) ([]) rfl rfl rfl rfl _ _ _ <;> refine' aj)
  exact ⟨nb, us, first, hC, rfl, rfl⟩
 ·obtain ⟨hs1, hs2⟩ := hu.step hl h hto hn
  obtain ⟨q, rfl⟩ := Int.eq_ofNat_of_zero_le hn
  have hq : q < xs.length := by omega
  have hup := hs2.up.1
  rw [List.length_cons] at hup
  rw [Int.toNat_natCast, ak hq] at hs2
  have hrl : us.reverse.length <= 16 := by simp; omega
  refine' yb568
  (refine' ⟨((q : Int) :: us, xs[q].child, false, xs[q].draw), _, _, _⟩; rotate_right; (refine aq.of [0, 1, 4] rfl ?_ ?_ rfl rfl <;> refine' aj); rotate_right; exact aw)
  ·rw [List.reverse_cons]
  refine ⟨hs2, by simp; omega, fun _ => ?_⟩
  simp [List.getElem?_eq_getElem hq]
def Ed (l : List Sup) (d : List Dr) (ov : Bool) (ss : List Int) (first last : Int) : Prop :=
 (ov = true /\ ∃ i : Nat, i < l.length /\ ss = [(i : Int)] /\ first = -1 /\ last = -1 /\ (l.getD i default).cap < (aS l d).getD i 0) \/ (ov = false /\ ∃ xs, vD l d xs ss first last)
theorem si (nl n2 : Bool) (l : List Sup) (d : List Dr) (hl : aT l) (hd : b9 l.length d) (hno : ∀ r, ¬ bm l r d) : ao Tryz.prog 15 [.p (.list nl (l.map Sup.pv)), .p (.list n2 (d.map Dr.pv))] [] fun r H => ∃ (ov nb : Bool) (ss : List Int) (first last : Int), Ed l d ov ss first last /\ r = .tup [.p (Chn.pv ov nb ss first last), .p (pI 0)] /\ H = [] := by
 refine aa Tryz.func15 rfl rfl au rfl ?_
 have h16 := hl.1
 have h32 := hd.1
 have hdl : (aS l d).length = l.length := f_ l d _
 (conv => whnf); repeat' ((first | refine' z196e | ((refine dL (lS nl n2 l d) ?_; intro e he))) <;> (conv => whnf))
 ·exact absurd (he.2 ⟨hl, hd⟩) (by assumption)
 refine ab.loc [] [] rfl rfl ((nX nl n2 l d hl hd).mono ?_)
 rintro _ _ ⟨m2, rfl, rfl⟩
 refine' y196e
 refine ai (fun (c : Nat) => ⟨[(0, .p (.list nl (l.map Sup.pv))), (1, .p (.list n2 (d.map Dr.pv))), (4, .ptr 0 0), (7, .p (.list m2 ((aS l d).map pI))), (25, .p (.list nl (l.map Sup.pv))), (26, .p (pI l.length)), (27, .p (pI c))], [some (.cells [.p (pB false), .p (.list true []), .p (pI 0), .p (pI 0)])]⟩) (fun c => c <= l.length /\ ∀ i, i < c -> (aS l d).getD i 0 <= (l.getD i default).cap) (fun c => l.length - c) 0 ?_ ?_ ?_; (refine aq.auto rfl rfl rfl rfl ?_ ?_ <;> refine' aj)
 ·exact ⟨by omega, fun i hi => by omega⟩
 rintro c ⟨hc, hld⟩
 rcases Nat.lt_or_ge c l.length with hlt | hge
 ·have hcd : c < (aS l d).length := by omega
  refine' yb568
  ·(refine ay.frz _ _ _ [2] ?_; refine' ay.auto (.tup [.p (Chn.pv true false [(c : Int)] (-1) (-1)), .p (pI 0)]) ([]) rfl rfl rfl rfl _ _ _ <;> refine' aj)
   refine ⟨true, false, [(c : Int)], -1, -1, .inl ⟨rfl, c, hlt, rfl, rfl, rfl, ?_⟩, rfl, rfl⟩
   rw [ak hcd, ak hlt]
   exact h0
  ·(refine' ⟨c + 1, _, _, _⟩; rotate_right; (refine aq.auto rfl rfl rfl rfl ?_ ?_ <;> refine' aj); rotate_right; exact aw)
   refine ⟨by omega, fun i hi => ?_⟩
   rcases Nat.lt_or_ge i c with h1 | h1
   ·exact hld i h1
   ·obtain rfl : i = c := by omega
    rw [ak hcd, ak hlt]
    omega
 ·obtain rfl : c = l.length := by omega
  refine' yb568
  refine ab.loc [] [] rfl rfl ((kI nl n2 l d hl hd).mono ?_)
  rintro _ _ ⟨pre, f, b1, b2, rfl, rfl, hdm⟩
  obtain ⟨k, hI, hcs⟩ := hdm.inv hl hd
  obtain ⟨hxl, hkl⟩ := v_ l d pre
  generalize (dmP l d pre).1 = xs at *
  generalize (dmP l d pre).2 = ks at *
  refine' yb568
  ·rcases hcs with ⟨rfl, _⟩ | ⟨y, rfl, _, hy, hu, hny⟩
   ·omega
   refine ab.loc [] [] rfl rfl ((oN l d xs ks k hl hd hI hxl b1 (y : Int) (-1) ⟨by omega, by omega, by rw [Int.toNat_natCast]; exact hu⟩ (.inl ⟨rfl, by rw [Int.toNat_natCast]; exact hny⟩)).mono ?_)
   rintro _ _ ⟨nb, ss, first, hC, rfl, rfl⟩
   refine' yb568
   (refine' ay.auto (.tup [.p (Chn.pv false nb ss first (-1)), .p (pI 0)]) ([]) rfl rfl rfl rfl _ _ _ <;> refine' aj)
   exact ⟨false, nb, ss, first, -1, .inr ⟨rfl, xs, hC⟩, rfl, rfl⟩
  rcases hcs with ⟨rfl, rfl⟩ | ⟨y, rfl, _⟩
  rotate_left
  ·omega
  refine ai (fun (c : Nat) => ⟨[(0, .p (.list nl (l.map Sup.pv))), (4, .ptr 0 0), (10, .p (.list b1 (xs.map De.pv))), (11, .p (.list b2 (ks.map pI))), (55, .p (.list n2 (d.map Dr.pv))), (56, .p (pI d.length)), (57, .p (pI c))], [some (.cells [.p (pB false), .p (.list true []), .p (pI 0), .p (pI 0)])]⟩) (fun c => c <= d.length /\ ∀ (i : Nat) (h : i < d.length), i < c -> vt l d[i].sup.toNat (ks.getD d[i].sup.toNat 0) <= d[i].hi) (fun c => d.length - c) 0 ?_ ?_ ?_; (refine aq.auto rfl rfl rfl rfl ?_ ?_ <;> refine' aj)
  ·exact ⟨by omega, fun i _ hi => by omega⟩
  rintro c ⟨hc2, hhi⟩
  rcases Nat.lt_or_ge c d.length with hlt | hge2
  ·have hx := hd.2 _ (List.getElem_mem hlt)
   have hx1 := hx.1
   have hu : Usd l d d[c].sup.toNat := .draw _ (List.getElem_mem hlt)
   have hs : d[c].sup.toNat < l.length := by omega
   have hlev := (hI.lev _ (Nat.zero_le _) hs hu).1
   have hok := hI.ok _ (Nat.zero_le _) hs hu
   have hks : d[c].sup.toNat < ks.length := by omega
   rw [ak hks] at hlev
   rw [ak hs] at hok
   have hvt : vt l d[c].sup.toNat (ks.getD d[c].sup.toNat 0) = l[d[c].sup.toNat].lv[(ks[d[c].sup.toNat]).toNat]'(by omega) := by
    unfold vt
    rw [ak hks, ak hs, ak (by omega)]
   refine' yb568
   ·refine ab.loc [] [] rfl rfl ((oN l d xs ks 0 hl hd hI hxl b1 d[c].sup (c : Int) ⟨by omega, by omega, hu⟩ (.inr ⟨c, hlt, rfl, rfl, by rw [ak hs]; exact hok, ?_⟩)).mono ?_)
    ·rw [<- hlev, <- ak (d := 0) hks, hvt]
     exact h0
    rintro _ _ ⟨nb, ss, first, hC, rfl, rfl⟩
    refine' yb568
    (refine' ay.auto (.tup [.p (Chn.pv false nb ss first c), .p (pI 0)]) ([]) rfl rfl rfl rfl _ _ _ <;> refine' aj)
    exact ⟨false, nb, ss, first, c, .inr ⟨rfl, xs, hC⟩, rfl, rfl⟩
   ·(refine' ⟨c + 1, _, _, _⟩; rotate_right; (refine aq.auto rfl rfl rfl rfl ?_ ?_ <;> refine' aj); rotate_right; exact aw)
    refine ⟨by omega, fun i hi h => ?_⟩
    rcases Nat.lt_or_ge i c with h1 | h1
    ·exact hhi i hi h1
    ·obtain rfl : i = c := by omega
     rw [hvt]
     omega
  ·refine absurd (hI.meet hl hd (fun i hi _ => hld i hi) fun x hx => ?_) (hno _)
   obtain ⟨i, hi, rfl⟩ := List.getElem_of_mem hx
   exact hhi i hi (by omega)
end Go.Proofs.YtaocnijlcgohnaaGreatDoor
