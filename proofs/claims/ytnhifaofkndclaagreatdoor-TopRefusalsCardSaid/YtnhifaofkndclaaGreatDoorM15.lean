/- Whatever the list of numbers, TopRefusals returns true, and its argument reads as it did; its package variables are tied to the program's text. Part 15 of 15. -/
import Derived.Test.YtnhifaofkndclaaGreatDoorM14
import Derived.Test.YtnhifaofkndclaaGreatDoorTie
import Derived.Test.YtnhifaofkndclaaGreatDoorCards
import Derived.LaidMore
import Derived.Lay
import Derived.OpenShut
import Derived.SevenTiedAt
import Derived.Stop.Joined
set_option linter.unusedSimpArgs false
set_option linter.unusedVariables false
set_option linter.unnecessarySimpa false
set_option maxHeartbeats 8000000
namespace Go.Abs
open Go.RowKit Go.ChangeShapes Go.WideShapes
theorem lifted_laid {C : Checked} {f : FuncId} {fn : Func} {s : ChangeSpec} {os : Os} {H : Type} {enc : TypeId × Value -> H} {tb : TypeId} {shs : List (Bool × List Sh)} {X : World -> Prop}
  (hX : ∀ (w w' : World), w.heap = w'.heap -> X w -> X w')
  (own : ownKnob C.prog.godebug = none) (started : os.Started) (noInit : C.prog.inits.idxOf? f = none) (hfn : C.prog.funcs[f]? = some fn) (hl : laidOutB C.prog = true)
  (hr : fn.params.toList.all (fun t => C.prog.readableRec t && decide (t < C.prog.types.size)) = true) (hres : fn.resultTypes = #[tb]) (htb : C.prog.underlying tb = some .bool) (hvars : s.vars = [])
  (hshs : shapes C.prog fn.params.toList = some shs)
  (hs : ∀ ds : List (DataW H), ds.length = fn.params.toList.length -> (s.fn H ds).results = [.lit (.bool true)] /\ (s.fn H ds).args = ds /\ (s.fn H ds).vars = [])
  (witness : ∃ (w : World) (tape : Tape) (i : Input), w.os = os /\ (w.forCall tape i).Shaped C.prog /\ i.vars = [] /\ Input.okWide C.prog (w.forCall tape i) .any w.heap.size f i /\
   ((s.pre enc C.prog fn [] false (w.forCall tape i).memory i.args /\ X (w.forCall tape i).memory) /\ sizedMet enc C.prog fn (OpenSpec.ofChange s) false (w.forCall tape i).memory i.args) /\ ({} : Assume).holds C.prog (lone (Frame.enter C.prog f i.args .normal) [] (w.forCall tape i)))
  (hG : ∀ W : World, X W -> Glb (fun b => b < W.heap.size) W)
  (call : ∀ xs : List PV, fitA shs xs -> ACall C.prog f (xs.map .p) [] fun r _ => r = .p (.v (.bool true))) :
  ReturnsInHanded {} C os f .any (fun w args => (s.pre enc C.prog fn [] false w args /\ X w) /\ sizedMet enc C.prog fn (OpenSpec.ofChange s) false w args) (s.post enc C.prog fn false true false false) := by
 refine returnsInHanded_of_change_and (X := fun w _ => X w) (fun w w' _ hh h => hX w w' hh h) own started noInit hfn witness ?_
 intro W base args ds gs before hval hW _ _ hL _
 obtain ⟨p, q, hA, _⟩ := id hW
 obtain ⟨xs, h1, h2, h3, h4⟩ := args_of_trod _ shs _ _ _ hshs hA fun j t v hj hv => ⟨base, hval j t v (by simpa using hj) (by simpa using hv)⟩
 refine ((call xs h1).calls (fun _ => undef) (fun b => b < W.heap.size) W args ⟨fun i o h => by simp [live] at h, fun i j oi oj b h => by simp [live] at h, fun b h => h, fun i o b h => by simp [live] at h, hG W hL⟩
  (by simpa using h2.symm) fun j x hx => ?_).mono fun e W' ⟨v, r, H', m', S', he, hk, hst, hrd⟩ => ⟨v, he, ?_⟩
 ·simp only [List.getElem?_map, Option.map_eq_some_iff] at hx
  obtain ⟨y, hy, rfl⟩ := hx
  obtain ⟨u, hu, hru⟩ := h4 j y hy
  have : args[j]? = some u := by simpa using hu
  rw [show args.getD j undef = u by simp [this]]
  exact .p _ _ hru
 ·subst hk
  cases hrd with
  | p _ _ hp =>
   cases hp
   exact post_true hl hr hres htb hvars (hs ds h3) hW (below_of_stp hst)
end Go.Abs
namespace Go.Proofs.YtnhifaofkndclaaGreatDoor
open Go.ChangeShapes Go.WideShapes Go.ChangeAt Go.RowKit Go.Abs
set_option maxRecDepth 100000
theorem laid_glb (W : World) : Glb (fun b => b < W.heap.size) W := fun g cs h => by cases h
theorem Tryz.own : ownKnob Tryz.prog.godebug = none := by kernel_rfl
theorem Tryz.laidOut : laidOutB Tryz.prog = true := by kernel_rfl
theorem TopRefusals_lifted (os : Os) (started : os.Started) (H : Type) (enc : TypeId × Value -> H) :
  ReturnsInHanded {} Tryz.checked os 3 .any (fun w args => (Rows.topRefusalsSpec.pre enc Tryz.prog Tryz.f3 Rows.topRefusalsRow.domain false w args /\ laidMetH Tryz.prog Rows.topRefusalsRow.laid w) /\ sizedMet enc Tryz.prog Tryz.f3 (OpenSpec.ofChange Rows.topRefusalsSpec) false w args)
   (Rows.topRefusalsSpec.post enc Tryz.prog Tryz.f3 false true false false) :=
 lifted_laid (C := Tryz.checked) (X := fun w => laidMetH Tryz.prog Rows.topRefusalsRow.laid w) (shs := [(false, [.slice false [.int .i64]])]) (fun _ _ hh h => h.of_heap hh) Tryz.own started (by kernel_rfl) Tryz.func3 Tryz.laidOut (by kernel_rfl) rfl (by kernel_rfl : Tryz.prog.underlying 4 = some .bool) rfl rfl
  (fun ds h => match ds, h with | [_], _ => ⟨rfl, rfl, rfl⟩)
  (ChangeSpec.witness_shaped (enc := enc) (C := Tryz.checked) (os := os) (X := fun w _ => laidMetH Tryz.prog Rows.topRefusalsRow.laid w) false (World.laidAll Tryz.prog os Rows.topRefusalsRow.laid) #[.slice none 0 0] 8 (World.laidAll_os _ _ _)
   (World.shaped_of_ZipB (by kernel_rfl) (by kernel_rfl)) (by kernel_rfl) (by kernel_rfl) (by kernel_rfl)
   (by rw [MakeChecks.laidMetH_plain _ _ _ (by kernel_rfl)]; exact laidMet_laidAll _ (by kernel_rfl) (by kernel_rfl)))
  (fun W _ => laid_glb W)
  fun xs h => by
   match xs, h with
   | [x], h =>
    obtain ⟨nl, ts, rfl⟩ := fit_ints h.1
    exact TopRefusals_call nl ts
theorem TopRefusals_holds : Rows.TopRefusalsSaid :=
 OpenClaim.holds_of_wide 3 Tryz.f3 rfl rfl rfl rfl rfl rfl rfl ⟨rfl, rfl, rfl, rfl, rfl⟩ rfl rfl rfl rfl rfl (by kernel_rfl) Tryz.func3 (by kernel_rfl)
  (of_decide_eq_true (by kernel_rfl)) (by unfold Func.isWrapper; first | (rw [if_pos (by decide +kernel)]; kernel_rfl) | (rw [if_neg (by decide +kernel)]; exact ⟨rfl, rfl⟩))
  (fun os started H enc _ => TopRefusals_lifted os started H enc)
theorem TopRefusalsCard_holds : Rows.TopRefusalsCardSaid :=
 Claim7.holds_tied_plain_at .later [] [.data, .pinned] true (true, "e5d7b6cbabe70d0d573396910fa6552874ca33cef2cdf90375ad6b7f92c32dbb") false TopRefusals_holds (fun _ h => by cases h) (by kernel_rfl) (fun _ h => by cases h) topRefusals_row_tie rfl ⟨rfl, rfl⟩ (by kernel_rfl) rfl
  (fun f fn hf hfn => by
   obtain rfl : f = 3 := Option.some.inj ((show Tryz.prog.funcNamed "bringup/bringuptop.TopRefusals" = some 3 by kernel_rfl).symm.trans hf) |>.symm
   obtain rfl : fn = Tryz.f3 := (Option.some.inj (Tryz.func3.symm.trans hfn)).symm
   exact ⟨by kernel_rfl, fun j t ht => by
    rw [Tryz.params3] at ht
    have hm : t ∈ [22] := by simpa using Array.mem_of_getElem? ht
    have hall : ([22].all fun u => !Tryz.prog.wantsStandIn u) = true := by kernel_rfl
    exact (show Tryz.prog.wantsStandIn t = false by simpa using List.all_eq_true.1 hall t hm)⟩)
  (by kernel_rfl)
#print axioms TopRefusals_holds
#print axioms TopRefusalsCard_holds
end Go.Proofs.YtnhifaofkndclaaGreatDoor
