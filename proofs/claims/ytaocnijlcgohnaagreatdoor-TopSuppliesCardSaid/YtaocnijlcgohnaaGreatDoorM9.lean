/- Whatever the list of numbers, TopSupplies returns true, and its argument reads as it did; its package variables are tied to the program's text. Part 9 of 9. -/
import Derived.Test.YtaocnijlcgohnaaGreatDoorM8
import Derived.Test.YtaocnijlcgohnaaGreatDoorM5
import Derived.Test.YtaocnijlcgohnaaGreatDoorM6
import Derived.Test.YtaocnijlcgohnaaGreatDoorM7
import Derived.Test.YtaocnijlcgohnaaGreatDoorTie
import Derived.Test.YtaocnijlcgohnaaGreatDoorCards
import Derived.LaidMore
import Derived.Lay
import Derived.OpenShut
import Derived.SevenTiedAt
import Derived.Stop.Joined
set_option linter.unusedSimpArgs false
set_option linter.unusedVariables false
set_option linter.unnecessarySimpa false
set_option maxHeartbeats 8000000
namespace Go.Proofs.YtaocnijlcgohnaaGreatDoor
open Go.Abs
set_option maxRecDepth 1000000
def z0 : Fin suA.length := ⟨0, by decide⟩
theorem ze : aT suA := by
 refine ⟨by decide, by decide, fun i h => ?_⟩
 match i, h with
 | 0, _ =>
  show oX (⟨-1, false, [1024], 0, 10000, false⟩ : Sup) 0
  exact ⟨by decide, by decide, by decide, by decide, by decide, by decide, fun k h => by simp at h⟩
theorem Ai : b9 suA.length drA := ⟨by decide, fun x hx => by
 simp only [drA, List.mem_singleton] at hx
 subst hx
 exact ⟨by decide, by decide, by decide, by decide⟩⟩
theorem uS {pre : List (Fin suA.length)} {f : Int} (h : DmR suA drA pre f) : f = -1 /\ pre = [z0] := by
 rcases h.2 with ⟨h1, h2⟩ | ⟨y, s, h1, h2, h3⟩
 ·exact ⟨h1, h2.trans (by decide +kernel)⟩
 ·exfalso
  have hr : (List.finRange suA.length).reverse = [z0] := by decide +kernel
  rw [hr] at h2
  match pre, h2 with
  | [], h2 =>
   have hy : y = z0 := by simpa using (List.cons.inj h2).1
   subst hy
   have : dmF suA (aL suA drA) (dmP suA drA []).1 0 = false := by decide +kernel
   rw [show z0.val = 0 from rfl] at h3
   rw [this] at h3
   cases h3
  | [_], h2 => simp at h2
  | _ :: _ :: _, h2 => simp at h2
theorem y7 : aL suA drA = [true] := by decide +kernel
theorem zH : bm suA ⟨aL suA drA, (dmP suA drA [z0]).2⟩ drA := by
 refine (qj ze ?_ Ai).2 ⟨fun c hc => ?_, fun x hx => ?_⟩
 ·refine RlV.of (by decide +kernel) (by decide +kernel) fun i h => ?_
  match i, h with
  | 0, _ =>
   show 0 <= lvA ⟨aL suA drA, (dmP suA drA [z0]).2⟩ 0 /\ lvA ⟨aL suA drA, (dmP suA drA [z0]).2⟩ 0 < (1 : Int)
   decide +kernel
 ·match c, hc with
  | 0, _ => exact ⟨fun h => absurd h (by decide +kernel), fun _ => ⟨fun h => absurd h (by decide), by decide +kernel⟩⟩
 ·simp only [drA, List.mem_singleton] at hx
  subst hx
  decide +kernel
theorem ze9e2 {P : Prop} (h : P := by
 ((first | apply aB.plain | refine' gC | refine' gpI | refine' gpB | refine' ba | refine' EJ | refine' gE | fail) <;> (conv => whnf)) <;> (solve_by_elim (newGoals := .nonDependentOnly) -symm -exfalso (transparency := .reducible) only [rfl, aC])) : P := h
set_option maxHeartbeats 2000000 in
theorem gz : ao Tryz.prog 11 [] [] fun r H => r = .p (pB true) /\ H = [] := by
 refine aa Tryz.func11 rfl rfl au rfl ?_
 (conv => whnf); repeat' ((first | refine' ze9e2 | ((refine IsL.mk _ rfl ?_))) <;> (conv => whnf))
 refine ab.loc [] [1] rfl rfl (mB.mono ?_)
 rintro _ _ ⟨rfl, rfl⟩
 (conv => whnf); repeat' ((first | refine' ze9e2 | ((refine IsL.mk _ rfl ?_))) <;> (conv => whnf))
 refine ab.loc [] [3] rfl rfl (k7.mono ?_)
 rintro _ _ ⟨rfl, rfl⟩
 (conv => whnf); repeat' ((first | (refine IsL.lit (f := Lm.pv) [⟨0, 24, 24⟩] rfl ?_) | refine' ze9e2 | fail) <;> (conv => whnf))
 refine ab.loc [] [4] rfl rfl (ni.mono ?_)
 rintro _ _ ⟨rfl, rfl⟩
 (conv => whnf); repeat' ((first | (refine IsL.lit (f := Dr.pv) drA rfl ?_) | refine' ze9e2 | fail) <;> (conv => whnf))
 refine ab.loc [] [5] rfl rfl ((jK false false suA drA ze Ai).mono ?_)
 rintro _ _ ⟨rl, m1, m3, e, pre, f, rfl, rfl, hdm, he0, hen⟩
 obtain ⟨rfl, rfl⟩ := uS hdm
 obtain rfl : e = 0 := by
  by_cases he : e = 0
  ·exact he
  ·rcases (hen he).2 with h | h
   ·omega
   ·exact absurd zH h
 obtain ⟨_, rfl, _⟩ := he0 rfl
 rw [y7]
 (conv => whnf); repeat' ((first | refine' ze9e2 | ((refine cq.mk 1 rfl ?_; intro _))) <;> (conv => whnf))
 (refine ay.p ?_ <;> refine' aj; all_goals try first | refine Et ?_ | refine Dq ?_)
set_option maxRecDepth 100000
theorem ya850 {P : Prop} (h : P := by
 ((conv => whnf); repeat' ((first | apply aB.plain | refine' gC | refine' gpI | refine' gpB | refine' gpS | refine' bh | refine' bj | refine' aI | refine' ba | refine' gB | refine' iX | refine' gE | (apply ax.quiet (by kernel_rfl) (by kernel_rfl); (conv => whnf); fail_if_success (show False))) <;> (conv => whnf))) <;> (solve_by_elim (newGoals := .nonDependentOnly) -symm -exfalso (transparency := .reducible) only [rfl, aC])) : P := h
theorem y82e9 {P : Prop} (h : P := by
 ((conv => whnf); repeat' ((first | apply aB.plain | refine' gC | refine' gpI | refine' gpB | refine' gpS | refine' bh | refine' bj | refine' aI | refine' ba | refine' gB | refine' iX | refine' gE | fail) <;> (conv => whnf))) <;> (solve_by_elim (newGoals := .nonDependentOnly) -symm -exfalso (transparency := .reducible) only [rfl, aC])) : P := h
theorem z82e9 {P : Prop} (h : P := by
 ((first | apply aB.plain | refine' gC | refine' gpI | refine' gpB | refine' gpS | refine' bh | refine' bj | refine' aI | refine' ba | refine' gB | refine' iX | refine' gE | fail) <;> (conv => whnf)) <;> (solve_by_elim (newGoals := .nonDependentOnly) -symm -exfalso (transparency := .reducible) only [rfl, aC])) : P := h
set_option maxHeartbeats 4000000 in
theorem lH (nl : Bool) (ts0 : List Int) : ao Tryz.prog 3 [.p (.list nl (ts0.map pI))] [] fun r H => r = .p (pB true) := by
 refine aa Tryz.func3 rfl rfl au rfl ?_
 refine' ya850
 refine ab.loc [] [] rfl rfl ((AA nl ts0).mono ?_)
 rintro _ _ ⟨ts, rfl, rfl⟩
 refine' ya850
 refine ab.loc [0] [] rfl rfl ((oW nl ts 0 (by omega) 7 (by omega)).mono ?_)
 rintro _ _ ⟨q, n1, i1, hq, hq5, hq1, hq7, hi1, rfl, rfl⟩
 refine' ya850
 refine ab.loc [0] [1] rfl rfl ((yN nl ts i1 hi1 n1 q hq hq7 hq5).mono ?_)
 rintro _ _ ⟨ns, n2, i2, hv, hi2, rfl, rfl⟩
 refine' ya850
 refine ab.loc [] [] rfl rfl ((t_ n2 ns hv).mono ?_)
 rintro _ _ ⟨n3, rfl, rfl⟩
 refine' ya850
 refine ab.loc [] [3] rfl rfl ((ua n3 ns hv).mono ?_)
 rintro _ _ ⟨n4, ms, hms, rfl, rfl⟩
 have hv2 := hv.same hms
 refine' ya850
 refine ab.loc [] [4] rfl rfl ((pT n4 ms hv2).mono ?_)
 rintro _ _ ⟨n5, nu, l, us, e, hle, rfl, rfl⟩
 (conv => whnf); repeat' ((first | refine' z82e9 | (refine ab.scalar (yP n2 n4 ns ms hv hms) ?_)) <;> (conv => whnf))
 ·refine ab.scalar gz ?_
  refine' ya850
  (refine' ay.auto (.p (pB true)) ([]) rfl rfl rfl rfl _ _ _ <;> refine' aj)
 ·refine ab.scalar gz ?_
  refine' ya850
  (refine' ay.auto (.p (pB true)) ([]) rfl rfl rfl rfl _ _ _ <;> refine' aj)
 have hl := hle (by assumption)
 have hl1 : 1 <= l.length := by omega
 (conv => whnf); repeat' ((first | refine' z82e9 | (refine ab.scalar (iD n5 l hl) ?_)) <;> (conv => whnf))
 refine ab.loc [0] [] rfl rfl ((o5 nl ts i2 hi2 n5 l hl hl1 3 (by omega)).mono ?_)
 rintro _ _ ⟨d1, n6, i3, hd1, hd1l, hi3, rfl, rfl⟩
 refine' y82e9
 refine ab.loc [0] [] rfl rfl ((o5 nl ts i3 hi3 n5 l hl hl1 3 (by omega)).mono ?_)
 rintro _ _ ⟨d2, n7, i4, hd2, hd2l, hi4, rfl, rfl⟩
 have hdd : b9 l.length (d1 ++ d2) := ⟨by simp; omega, fun x hx => (List.mem_append.1 hx).elim (hd1.2 x) (hd2.2 x)⟩
 refine' y82e9
 refine ab.loc [] [6] rfl rfl ((jK n5 n6 l d1 hl hd1).mono ?_)
 rintro _ _ ⟨r1, a1, a2, e1, pre1, f1, rfl, rfl, hdm1, he1, hen1⟩
 refine' y82e9
 refine ab.loc [] [10] rfl rfl ((jK n5 _ l (d1 ++ d2) hl hdd).mono ?_)
 rintro _ _ ⟨r2, c1, c2, e2, pre2, f2, rfl, rfl, hdm2, he2, hen2⟩
 refine' y82e9
 ·obtain ⟨rfl, hor⟩ := hen2 h0
  have hno : ∀ r, ¬ bm l r (d1 ++ d2) := fun r hm => by
   obtain ⟨g1, g2⟩ := tH hl hdd hm hdm2
   rcases hor with h | h
   ·omega
   ·exact h g2
  refine ab.loc [] [] rfl rfl ((si n5 _ l (d1 ++ d2) hl hdd hno).mono ?_)
  rintro _ _ ⟨ov, nb, ss, first, last, hsd, rfl, rfl⟩
  (conv => whnf); repeat' ((first | refine' z82e9 | (refine ab.scalar (mD n5 _ l (d1 ++ d2) hl hdd ov nb ss first last hsd) ?_) | (refine ab.scalar (gz) ?_)) <;> (conv => whnf))
  (refine' ay.auto (.p (pB true)) ([]) rfl rfl rfl rfl _ _ _ <;> refine' aj)
 subst h0
 obtain ⟨_, _, hme2⟩ := he2 rfl
 have hm2 := hme2.less
 obtain rfl : e1 = 0 := by
  by_cases he : e1 = 0
  ·exact he
  ·obtain ⟨g1, g2⟩ := tH hl hd1 hm2 hdm1
   rcases (hen1 he).2 with h | h
   ·omega
   ·exact absurd g2 h
 obtain ⟨_, _, hme1⟩ := he1 rfl
 clear hdm1 hdm2 he1 he2 hen1 hen2
 refine ab.loc [] [] rfl rfl ((qx n5 n6 l d1 ⟨a1, a2, r1⟩ ⟨c1, c2, r2⟩ hl hme1 hm2).mono ?_)
 rintro _ _ ⟨ws1, b1, rfl, rfl, hw1, _, hwl1⟩
 refine' y82e9
 refine ab.loc [] [] rfl rfl ((qx n5 n6 l d1 ⟨c1, c2, r2⟩ ⟨a1, a2, r1⟩ hl hm2 hme1).mono ?_)
 rintro _ _ ⟨ws2, b2, rfl, rfl, hw2, _, hwl2⟩
 (conv => whnf); repeat' ((first | refine' z82e9 | (refine ab.scalar (o4 n5 n6 b1 l d1 ⟨a1, a2, r1⟩ r2 ws1 hl hw1 hwl1) ?_) | (refine ab.scalar (o4 n5 n6 b2 l d1 ⟨c1, c2, r2⟩ r1 ws2 hl hw2 hwl2) ?_) | (refine ab.scalar (lZ n5 n6 a1 a2 l r1 d1 hl hme1) ?_) | (refine ab.scalar (lZ n5 _ c1 c2 l r2 (d1 ++ d2) hl hme2) ?_) | (refine ab.scalar (gz) ?_)) <;> (conv => whnf))
 (refine' ay.auto (.p (pB true)) ([]) rfl rfl rfl rfl _ _ _ <;> refine' aj)
end Go.Proofs.YtaocnijlcgohnaaGreatDoor
namespace Go.Abs
open Go.RowKit Go.ChangeShapes Go.WideShapes
theorem s8 {C : Checked} {f : FuncId} {fn : Func} {s : ChangeSpec} {os : Os} {H : Type} {enc : TypeId × Value -> H} {tb : TypeId} {shs : List (Bool × List Sh)} {X : World -> Prop}
  (hX : ∀ (w w' : World), w.heap = w'.heap -> X w -> X w')
  (own : ownKnob C.prog.godebug = none) (started : os.Started) (noInit : C.prog.inits.idxOf? f = none) (hfn : C.prog.funcs[f]? = some fn) (hl : laidOutB C.prog = true)
  (hr : fn.params.toList.all (fun t => C.prog.readableRec t && decide (t < C.prog.types.size)) = true) (hres : fn.resultTypes = #[tb]) (htb : C.prog.underlying tb = some .bool) (hvars : s.vars = [])
  (hshs : qQ C.prog fn.params.toList = some shs)
  (hs : ∀ ds : List (DataW H), ds.length = fn.params.toList.length -> (s.fn H ds).results = [.lit (.bool true)] /\ (s.fn H ds).args = ds /\ (s.fn H ds).vars = [])
  (witness : ∃ (w : World) (tape : Tape) (i : Input), w.os = os /\ (w.forCall tape i).Shaped C.prog /\ i.vars = [] /\ Input.okWide C.prog (w.forCall tape i) .any w.heap.size f i /\
   ((s.pre enc C.prog fn [] false (w.forCall tape i).memory i.args /\ X (w.forCall tape i).memory) /\ sizedMet enc C.prog fn (OpenSpec.ofChange s) false (w.forCall tape i).memory i.args) /\ ({} : Assume).holds C.prog (lone (Frame.enter C.prog f i.args .normal) [] (w.forCall tape i)))
  (hG : ∀ W : World, X W -> Glb (fun b => b < W.heap.size) W)
  (call : ∀ xs : List PV, Cw shs xs -> ao C.prog f (xs.map .p) [] fun r _ => r = .p (.v (.bool true))) :
  ReturnsInHanded {} C os f .any (fun w args => (s.pre enc C.prog fn [] false w args /\ X w) /\ sizedMet enc C.prog fn (OpenSpec.ofChange s) false w args) (s.post enc C.prog fn false true false false) := by
 refine returnsInHanded_of_change_and (X := fun w _ => X w) (fun w w' _ hh h => hX w w' hh h) own started noInit hfn witness ?_
 intro W base args ds gs before hval hW _ _ hL _
 obtain ⟨p, q, hA, _⟩ := id hW
 obtain ⟨xs, h1, h2, h3, h4⟩ := r_ _ shs _ _ _ hshs hA fun j t v hj hv => ⟨base, hval j t v (by simpa using hj) (by simpa using hv)⟩
 refine ((call xs h1).calls (fun _ => undef) (fun b => b < W.heap.size) W args ⟨fun i o h => by simp [live] at h, fun i j oi oj b h => by simp [live] at h, fun b h => h, fun i o b h => by simp [live] at h, hG W hL⟩
  (by simpa using h2.symm) fun j x hx => ?_).mono fun e W' ⟨v, r, H', m', S', he, hk, hst, hrd⟩ => ⟨v, he, ?_⟩
 ·simp only [List.getElem?_map, Option.map_eq_some_iff] at hx
  obtain ⟨y, hy, rfl⟩ := hx
  obtain ⟨u, hu, hru⟩ := h4 j y hy
  have : args[j]? = some u := by simpa using hu
  rw [show args.getD j undef = u by simp [this]]
  exact .p _ _ hru
 ·subst hk
  cases hrd with
  | p _ _ hp =>
   cases hp
   exact ye hl hr hres htb hvars (hs ds h3) hW (r9 hst)
end Go.Abs
namespace Go.Proofs.YtaocnijlcgohnaaGreatDoor
open Go.ChangeShapes Go.WideShapes Go.ChangeAt Go.RowKit Go.Abs
set_option maxRecDepth 100000
theorem uU {W : World} (h : laidMetH Tryz.prog Rows.topSuppliesRow.laid W) :
  (∀ r, r < 2 -> W.cell? ⟨1, r, none⟩ = some (.int .i64 (([0, 1] : List Int).getD r 0))) /\ ∀ r, r < 4 -> ∃ s : ByteArray, W.cell? ⟨0, r, none⟩ = some (.string s) /\ s.data.toList = ([[], [99, 108, 111, 99, 107, 45, 102, 114, 101, 113, 117, 101, 110, 99, 121], [100, 105, 118, 105, 115, 111, 114, 115], [102, 97, 99, 116, 111, 114, 115]] : List (List UInt8)).getD r [] := by
 rw [MakeChecks.laidMetH_plain _ _ _ (by kernel_rfl)] at h
 obtain ⟨ps, ⟨_, _, _, _, _, _, _, _, _, _, ⟨g, t, cs, fuel, p, q, hg, ht, hv, hd, ⟨g2, t2, cs2, fuel2, p2, q2, hg2, ht2, hv2, hd2, _, _⟩, _⟩, _⟩, _, _⟩ := h
 obtain rfl := Option.some.inj ((show Tryz.prog.globalNamed "bringup/clock.off" = some 1 by kernel_rfl).symm.trans hg)
 obtain rfl := Option.some.inj ((show Tryz.prog.globalNamed "bringup/clock.lists" = some 0 by kernel_rfl).symm.trans hg2)
 obtain rfl := Option.some.inj ((show (Tryz.prog.globals[1]?).map (·.type) = some 240 by kernel_rfl).symm.trans ht)
 obtain rfl := Option.some.inj ((show (Tryz.prog.globals[0]?).map (·.type) = some 270 by kernel_rfl).symm.trans ht2)
 have c3 : Tryz.prog.cellsOf 3 = 1 := by kernel_rfl
 have c9 : Tryz.prog.cellsOf 9 = 1 := by kernel_rfl
 constructor
 ·obtain ⟨xs, m, _, ex, _, hl, hel⟩ := DataW.trod_struct Tryz.underlying240 hd
  have e0 : (xs.map (·.1)) = [.lit (.int .i64 0), .lit (.int .i64 1)] := (DataW.agg.inj (Prod.mk.inj ex).1).symm
  have hl2 : xs.length = 2 := hl
  obtain ⟨x0, x1, rfl⟩ : ∃ x0 x1, xs = [x0, x1] := by
   match xs, hl2 with
   | [x0, x1], _ => exact ⟨x0, x1, rfl⟩
  ·have e0' : [x0.1, x1.1] = [.lit (.int .i64 0), .lit (.int .i64 1)] := e0
   have e1 := List.cons.inj e0'
   have e2 := List.cons.inj e1.2
   obtain ⟨z0, a1, a2, _⟩ := DataW.trod_int Tryz.underlying3 (hel 0 _ rfl)
   obtain ⟨z1, b1, b2, _⟩ := DataW.trod_int Tryz.underlying3 (hel 1 _ rfl)
   replace a1 : (cs.toList.drop 0).take (Tryz.prog.cellsOf 3) = [.int .i64 z0] := a1
   replace b1 : (cs.toList.drop 1).take (Tryz.prog.cellsOf 3) = [.int .i64 z1] := b1
   rw [c3] at a1 b1
   have h0 : cs.toList[0]? = some (.int .i64 z0) := by
    have : ((cs.toList.drop 0).take 1)[0]? = some (.int .i64 z0) := by rw [a1]; rfl
    simpa using this
   have h1 : cs.toList[1]? = some (.int .i64 z1) := by
    have : ((cs.toList.drop 1).take 1)[0]? = some (.int .i64 z1) := by rw [b1]; rfl
    simpa using this
   have d0 : z0 = 0 := by
    have := e1.1
    rw [a2] at this
    simpa using this
   have d1 : z1 = 1 := by
    have := e2.1
    rw [b2] at this
    simpa using this
   subst d0
   subst d1
   intro r hr
   rw [World.var?_cell hg hv r]
   match r, hr with
   | 0, _ => simpa using h0
   | 1, _ => simpa using h1
 ·obtain ⟨xs, m, _, ex, _, hl, hel⟩ := DataW.trod_array Tryz.underlying270 hd2
  intro r hr
  have hE := hel r hr
  rw [c9, Nat.mul_one, List.getElem?_eq_getElem (by omega)] at hE
  obtain ⟨z, e1, e2, _⟩ := DataW.trod_string Tryz.underlying9 hE
  have e3 : (xs.map (·.1)) = [.lit (.string []), .lit (.string [99, 108, 111, 99, 107, 45, 102, 114, 101, 113, 117, 101, 110, 99, 121]), .lit (.string [100, 105, 118, 105, 115, 111, 114, 115]), .lit (.string [102, 97, 99, 116, 111, 114, 115])] := (DataW.agg.inj (Prod.mk.inj ex).1).symm
  have e4 := congrArg (·[r]?) e3
  simp only [List.getElem?_map] at e4
  rw [List.getElem?_eq_getElem (by omega : r < xs.length), e2] at e4
  refine ⟨z, ?_, ?_⟩
  ·rw [World.var?_cell hg2 hv2 r]
   have h0 : ((cs2.toList.drop r).take 1)[0]? = some (.string z) := by rw [e1]; rfl
   have : cs2.toList[r]? = some (.string z) := by simpa using h0
   simpa using this
  ·match r, hr with
   | 0, _ => simpa using e4
   | 1, _ => simpa using e4
   | 2, _ => simpa using e4
   | 3, _ => simpa using e4
theorem zN {W : World} (h : laidMetH Tryz.prog Rows.topSuppliesRow.laid W) : Glb (fun b => b < W.heap.size) W := by
 obtain ⟨h0, h1⟩ := uU h
 have lt : ∀ {g r : Nat} {v : Value}, W.cell? ⟨g, r, none⟩ = some v -> g < W.heap.size := fun {g r v} hc => by
  rcases Nat.lt_or_ge g W.heap.size with hlt | hge
  ·exact hlt
  ·unfold World.cell? at hc
   simp [hge] at hc
 intro g cs hg
 unfold gl at hg
 split at hg
 ·rename_i hb
  obtain rfl := Nat.eq_of_beq_eq_true hb
  injection hg with hg
  subst hg
  obtain ⟨s0, a0, b0⟩ := h1 0 (by omega)
  obtain ⟨s1, a1, b1⟩ := h1 1 (by omega)
  obtain ⟨s2, a2, b2⟩ := h1 2 (by omega)
  obtain ⟨s3, a3, b3⟩ := h1 3 (by omega)
  have bq : ∀ {s : ByteArray} {l : List UInt8}, s.data.toList = l -> s = ⟨l.toArray⟩ := fun {s l} h => by
   cases s
   simp only at h
   subst h
   simp
  refine ⟨lt a0, fun k => .string ⟨((([[], [99, 108, 111, 99, 107, 45, 102, 114, 101, 113, 117, 101, 110, 99, 121], [100, 105, 118, 105, 115, 111, 114, 115], [102, 97, 99, 116, 111, 114, 115]] : List (List UInt8)).getD k []).toArray)⟩, fun k c hk => ?_, fun k c hk => ?_⟩
  ·match k, hk with
   | 0, _ => rw [bq b0] at a0; exact ⟨a0, rfl⟩
   | 1, _ => rw [bq b1] at a1; exact ⟨a1, rfl⟩
   | 2, _ => rw [bq b2] at a2; exact ⟨a2, rfl⟩
   | 3, _ => rw [bq b3] at a3; exact ⟨a3, rfl⟩
  ·match k, hk with
   | 0, hk => cases hk; exact .v _ rfl
   | 1, hk => cases hk; exact .v _ rfl
   | 2, hk => cases hk; exact .v _ rfl
   | 3, hk => cases hk; exact .v _ rfl
 ·split at hg
  ·rename_i hb
   obtain rfl := Nat.eq_of_beq_eq_true hb
   injection hg with hg
   subst hg
   refine ⟨lt (h0 0 (by omega)), fun k => .int .i64 (([0, 1] : List Int).getD k 0), fun k c hk => ?_, fun k c hk => ?_⟩
   ·match k, hk with
    | 0, _ => exact ⟨h0 0 (by omega), rfl⟩
    | 1, _ => exact ⟨h0 1 (by omega), rfl⟩
   ·match k, hk with
    | 0, hk => cases hk; exact .v _ rfl
    | 1, hk => cases hk; exact .v _ rfl
  ·cases hg
theorem Tryz.own : ownKnob Tryz.prog.godebug = none := by kernel_rfl
theorem Tryz.laidOut : laidOutB Tryz.prog = true := by kernel_rfl
theorem TopSupplies_lifted (os : Os) (started : os.Started) (H : Type) (enc : TypeId × Value -> H) :
  ReturnsInHanded {} Tryz.checked os 3 .any (fun w args => (Rows.topSuppliesSpec.pre enc Tryz.prog Tryz.f3 Rows.topSuppliesRow.domain false w args /\ laidMetH Tryz.prog Rows.topSuppliesRow.laid w) /\ sizedMet enc Tryz.prog Tryz.f3 (OpenSpec.ofChange Rows.topSuppliesSpec) false w args)
   (Rows.topSuppliesSpec.post enc Tryz.prog Tryz.f3 false true false false) :=
 s8 (C := Tryz.checked) (X := fun w => laidMetH Tryz.prog Rows.topSuppliesRow.laid w) (shs := [(false, [.slice false [.int .i64]])]) (fun _ _ hh h => h.of_heap hh) Tryz.own started (by kernel_rfl) Tryz.func3 Tryz.laidOut (by kernel_rfl) rfl (by kernel_rfl : Tryz.prog.underlying 4 = some .bool) rfl rfl
  (fun ds h => match ds, h with | [_], _ => ⟨rfl, rfl, rfl⟩)
  (ChangeSpec.witness_shaped (enc := enc) (C := Tryz.checked) (os := os) (X := fun w _ => laidMetH Tryz.prog Rows.topSuppliesRow.laid w) false (World.laidAll Tryz.prog os Rows.topSuppliesRow.laid) #[.slice none 0 0] 8 (World.laidAll_os _ _ _)
   (World.shaped_of_ZipB (by kernel_rfl) (by kernel_rfl)) (by kernel_rfl) (by kernel_rfl) (by kernel_rfl)
   (by rw [MakeChecks.laidMetH_plain _ _ _ (by kernel_rfl)]; exact laidMet_laidAll _ (by kernel_rfl) (by kernel_rfl)))
  (fun W h => zN h)
  fun xs h => by
   match xs, h with
   | [x], h =>
    obtain ⟨nl, ts, rfl⟩ := zX h.1
    exact lH nl ts
theorem TopSupplies_holds : Rows.TopSuppliesSaid :=
 OpenClaim.holds_of_wide 3 Tryz.f3 rfl rfl rfl rfl rfl rfl rfl ⟨rfl, rfl, rfl, rfl, rfl⟩ rfl rfl rfl rfl rfl (by kernel_rfl) Tryz.func3 (by kernel_rfl)
  (of_decide_eq_true (by kernel_rfl)) (by unfold Func.isWrapper; first | (rw [if_pos (by decide +kernel)]; kernel_rfl) | (rw [if_neg (by decide +kernel)]; exact ⟨rfl, rfl⟩))
  (fun os started H enc _ => TopSupplies_lifted os started H enc)
theorem TopSuppliesCard_holds : Rows.TopSuppliesCardSaid :=
 Claim7.holds_tied_plain_at .later [] [.data, .data, .data, .pinned] true (true, "22f1d1817efbc6b35671fb1a2bb35adaab42bd348e195dbdfd7adeac595471ef") false TopSupplies_holds (fun _ h => by cases h) (by kernel_rfl) (fun _ h => by cases h) topSupplies_row_tie rfl ⟨rfl, rfl⟩ (by kernel_rfl) rfl
  (fun f fn hf hfn => by
   obtain rfl : f = 3 := Option.some.inj ((show Tryz.prog.funcNamed "bringup/bringuptop.TopSupplies" = some 3 by kernel_rfl).symm.trans hf) |>.symm
   obtain rfl : fn = Tryz.f3 := (Option.some.inj (Tryz.func3.symm.trans hfn)).symm
   exact ⟨by kernel_rfl, fun j t ht => by
    rw [Tryz.params3] at ht
    have hm : t ∈ [22] := by simpa using Array.mem_of_getElem? ht
    have hall : ([22].all fun u => !Tryz.prog.wantsStandIn u) = true := by kernel_rfl
    exact (show Tryz.prog.wantsStandIn t = false by simpa using List.all_eq_true.1 hall t hm)⟩)
  (by kernel_rfl)
#print axioms TopSupplies_holds
#print axioms TopSuppliesCard_holds
end Go.Proofs.YtaocnijlcgohnaaGreatDoor
