/- For TopSupplies: part 5 of 9. -/
import Derived.Test.YtaocnijlcgohnaaGreatDoorM4
import Derived.Shelf.Bytes.SlIndexAt
set_option linter.unusedSimpArgs false
set_option linter.unusedVariables false
set_option linter.unnecessarySimpa false
set_option maxHeartbeats 8000000
namespace Go.Proofs.YtaocnijlcgohnaaGreatDoor
open Go.Abs
theorem iX {P : Prop} (h : P := by
 (first | ((first | apply bx.snoc (f := Wr.pv) (a := _) rfl | apply bx.one (f := Wr.pv) (a := _) rfl | (apply bx.snoc (f := Wr.pv) (a := ⟨_, _, _⟩); dsimp only [Wr.pv]; exact rfl) | (apply bx.one (f := Wr.pv) (a := ⟨_, _, _⟩); dsimp only [Wr.pv]; exact rfl)); exact ar_) | apply IsL.set (f := Wr.pv) (a := _) rfl | apply IsL.rep (f := Wr.pv) (a := _) rfl | (apply IsL.set (f := Wr.pv) (a := ⟨_, _, _⟩); dsimp only [Wr.pv]; exact rfl) | (apply IsL.rep (f := Wr.pv) (a := ⟨_, _, _⟩); dsimp only [Wr.pv]; exact rfl) | apply IsL.lit (f := Wr.pv) [] rfl | apply IsL.lit (f := Wr.pv) [_] rfl | apply IsL.lit (f := Wr.pv) [_, _] rfl | apply IsL.lit (f := Wr.pv) [_, _, _] rfl | apply IsL.lit (f := Wr.pv) [] rfl | apply IsL.lit (f := Wr.pv) [⟨_, _, _⟩] rfl | apply IsL.lit (f := Wr.pv) [⟨_, _, _⟩, ⟨_, _, _⟩] rfl | apply IsL.lit (f := Wr.pv) [⟨_, _, _⟩, ⟨_, _, _⟩, ⟨_, _, _⟩] rfl) <;> (solve_by_elim (newGoals := .nonDependentOnly) -symm -exfalso (transparency := .reducible) only [rfl, aC])) : P := h
set_option maxRecDepth 100000
def wH (c1 c2 c3 : Bool) (r : Rl) (ws : List Wr) : AH := [some (.cells [.buf 1, .buf 2, .buf 3]), some (AO.buf 4 c1 (r.on.map pB)), some (AO.buf 3 c2 (r.lev.map pI)), some (AO.buf 199 c3 (ws.map Wr.pv))]
def wP (c1 c2 c3 : Bool) (r : Rl) (ws : List Wr) : AH := [some (.cells [.buf 1, .buf 2, .buf 4]), some (AO.buf 4 c1 (r.on.map pB)), some (AO.buf 3 c2 (r.lev.map pI)), none, some (AO.buf 199 c3 (ws.map Wr.pv))]
theorem y5334 {P : Prop} (h : P := by
 ((conv => whnf); repeat' ((first | apply aB.plain | refine' gC | refine' gpI | refine' gpB | refine' aI | refine' gB | refine' iX | refine' gE | (apply ax.quiet (by kernel_rfl) (by kernel_rfl); (conv => whnf); fail_if_success (show False))) <;> (conv => whnf))) <;> (solve_by_elim (newGoals := .nonDependentOnly) -symm -exfalso (transparency := .reducible) only [rfl, aC])) : P := h
theorem e6 (c1 c2 c3 : Bool) (r : Rl) (ws : List Wr) (i : Nat) (v : Int) (hi : i < r.lev.length) (hw : ws.length <= 1000) : ao Tryz.prog 55 [.ptr 0 0, .p (pI i), .p (pI v)] (wH c1 c2 c3 r ws) fun r' H => r' = .tup [] /\ (H = wH c1 c2 c3 ⟨r.on, r.lev.set i v⟩ (ws ++ dh r i v) \/ H = wP c1 c2 false ⟨r.on, r.lev.set i v⟩ (ws ++ dh r i v)) := by
 refine aa Tryz.func55 rfl rfl au rfl ?_
 have e : lvA r i = r.lev[i] := ak hi
 refine' y5334
 ·have hne : ¬ lvA r i = v := by rw [e]; assumption
  (refine ay.mk _ _ _ [5] (.tup []) (wP c1 c2 false ⟨r.on, r.lev.set i v⟩ (ws ++ [⟨2, i, v⟩])) rfl rfl ?_ rfl rfl ?_ <;> (all_goals try refine' aj))
  refine .inr ?_
  rw [dh, if_neg hne]
 ·have he : lvA r i = v := by rw [e]; assumption
  (refine' ay.auto (.tup []) (wH c1 c2 c3 r ws) rfl rfl rfl rfl _ _ _ <;> refine' aj)
  refine .inl ?_
  rw [dh, if_pos he, List.append_nil, dF he]
theorem fP (c1 c2 c3 : Bool) (r : Rl) (ws : List Wr) (i : Nat) (v : Bool) (hi : i < r.on.length) (hw : ws.length <= 1000) : ao Tryz.prog 56 [.ptr 0 0, .p (pI i), .p (pB v)] (wH c1 c2 c3 r ws) fun r' H => r' = .tup [] /\ (H = wH c1 c2 c3 ⟨r.on.set i v, r.lev⟩ (ws ++ dS r i v) \/ H = wP c1 c2 false ⟨r.on.set i v, r.lev⟩ (ws ++ dS r i v)) := by
 refine aa Tryz.func56 rfl rfl au rfl ?_
 have e : onA r i = r.on[i] := ak hi
 cases v
 ·refine' y5334
  ·have he : onA r i = false := by rw [e]; assumption
   (refine' ay.auto (.tup []) (wH c1 c2 c3 r ws) rfl rfl rfl rfl _ _ _ <;> refine' aj)
   refine .inl ?_
   rw [dS, if_pos he, List.append_nil, dF he]
  ·have hne : ¬ onA r i = false := by rw [e]; assumption
   (refine ay.mk _ _ _ [5] (.tup []) (wP c1 c2 false ⟨r.on.set i false, r.lev⟩ (ws ++ [⟨3, i, 0⟩])) rfl rfl ?_ rfl rfl ?_ <;> (all_goals try refine' aj))
   refine .inr ?_
   rw [dS, if_neg hne]
   rfl
 ·refine' y5334
  ·have he : onA r i = true := by rw [e]; assumption
   (refine' ay.auto (.tup []) (wH c1 c2 c3 r ws) rfl rfl rfl rfl _ _ _ <;> refine' aj)
   refine .inl ?_
   rw [dS, if_pos he, List.append_nil, dF he]
  ·have hne : ¬ onA r i = true := by rw [e]; assumption
   (refine ay.mk _ _ _ [5] (.tup []) (wP c1 c2 false ⟨r.on.set i true, r.lev⟩ (ws ++ [⟨3, i, 1⟩])) rfl rfl ?_ rfl rfl ?_ <;> (all_goals try refine' aj))
   refine .inr ?_
   rw [dS, if_neg hne]
   rfl
theorem nY (r : Rl) (i : Nat) (v : Int) : (dh r i v).length <= 1 := by
 unfold dh
 split <;> simp
theorem s_ (r : Rl) (i : Nat) (v : Bool) : (dS r i v).length <= 1 := by
 unfold dS
 split <;> simp
theorem z53ea {P : Prop} (h : P := by
 ((first | apply aB.plain | refine' gC | refine' gpI | refine' gpB | refine' aI | refine' gB | refine' iX | refine' gE | fail) <;> (conv => whnf)) <;> (solve_by_elim (newGoals := .nonDependentOnly) -symm -exfalso (transparency := .reducible) only [rfl, aC])) : P := h
set_option maxHeartbeats 2000000 in
theorem qx (nl n2 : Bool) (l : List Sup) (d : List Dr) (a b : Rq) (hl : aT l) (ha : bm l a.r d) (hb : bm l b.r d) : ao Tryz.prog 17 [.p (.list nl (l.map Sup.pv)), .p a.pv, .p b.pv, .p (.list n2 (d.map Dr.pv))] [] fun r' H => ∃ (ws : List Wr) (c : Bool), r' = .tup [.p (.list c (ws.map Wr.pv)), .p (pI 0)] /\ H = [] /\ jJ l d a.r b.r ws /\ ws.foldl bc a.r = b.r /\ ws.length <= 64 := by
 refine aa Tryz.func17 rfl rfl au rfl ?_
 (conv => whnf); repeat' ((first | refine' z53ea | ((apply IsL.lit (f := Rq.pv) [a, b] rfl))) <;> (conv => whnf))
 refine ab.loc [] [2] rfl rfl ((gT nl false l [a, b]).mono ?_)
 rintro _ _ ⟨e, rfl, rfl, he⟩
 have he0 : e = 0 := he.2 ⟨hl, fun q hq => by simp at hq; rcases hq with rfl | rfl; exact ha.rv; exact hb.rv⟩
 subst he0
 (conv => whnf); repeat' ((first | refine' z53ea | ((refine b4 (e9 nl n2 l d) ?_; intro b1 hb1)) | ((refine b4 (e8 nl a.n1 n2 a.n3 l a.r d) ?_; intro b2 hb2)) | ((refine b4 (e8 nl b.n1 n2 b.n3 l b.r d) ?_; intro b3 hb3))) <;> (conv => whnf))
 ·rw [hb1.2 ⟨hl, ha.dv⟩] at h0; cases h0
 ·rw [hb2.2 ⟨hl, ha⟩] at h0; cases h0
 ·rw [hb3.2 ⟨hl, hb⟩] at h0; cases h0
 refine ab.loc [] [] rfl rfl ((yo a b l.length hl.1 ha.rv.1 ha.rv.2.1 hb.rv.1 hb.rv.2.1).mono ?_)
 rintro _ _ ⟨c1, c2, rfl, rfl⟩
 refine' y5334
 refine ab.loc [] [] rfl rfl ((fm a.n1 a.n3 a.r (by have := ha.rv.1; have := hl.1; omega) (by have := ha.rv.2.1; have := hl.1; omega)).mono ?_)
 rintro _ _ ⟨c4, c5, rfl, rfl⟩
 refine' y5334
 have hJ1 : (aD a.r b.r).on.length = l.length := (qT ha.rv hb.rv).1
 have hJ2 : (aD a.r b.r).lev.length = l.length := (qT ha.rv hb.rv).2.1
 have h16 := hl.1
 refine' ai (fun (⟨c, ws, c3⟩ : Nat × List Wr × Bool) => ⟨[(0, .p (.list nl (l.map Sup.pv))), (6, .aN [.list b.n1 (b.r.on.map pB), .list b.n3 (b.r.lev.map pI)]), (11, .aN [.list c1 ((aD a.r b.r).on.map pB), .list c2 ((aD a.r b.r).lev.map pI)]), (12, .ptr 0 0), (49, .p (pI l.length)), (50, .p (pI c))], wH c4 c5 c3 (upR a.r b.r c) ws⟩) (fun ⟨c, ws, c3⟩ => c <= l.length /\ jJ l d a.r b.r ws /\ ws.foldl bc a.r = upR a.r b.r c /\ ws.length <= 2 * c) (fun ⟨c, ws, c3⟩ => l.length - c) (0, [], _) _ _ _; rotate_right; rotate_right; rotate_right; (refine aq.ez _ [3, 4] [] ?_; refine aq.cells _ [5] ?_; refine aq.cell _ 8 2 199 _ _ _ _ _ rfl rfl rfl ?_; refine aq.ret _ 6 1 [.list b.n1 (b.r.on.map pB), .list b.n3 (b.r.lev.map pI)] rfl rfl ?_; refine aq.ret _ 11 5 [.list c1 ((aD a.r b.r).on.map pB), .list c2 ((aD a.r b.r).lev.map pI)] rfl rfl ?_; refine aq.auto rfl rfl rfl rfl ?_ ?_ <;> refine' aj)
 ·rw [gM ha hb]
 ·rw [gM ha hb]
 ·exact ⟨by omega, wM hl ha hb, (gM ha hb).symm, by simp⟩
 ·rintro ⟨c, ws, c3⟩ ⟨hc, hway, hrun, hlen⟩
  try simp only at hc hway hrun hlen
  clear he hb1 hb2 hb3
  rcases Nat.lt_or_ge c l.length with hcl | hcl
  ·have hu := fZ (a := a.r) hb c
   have e1 : onA (aD a.r b.r) c = (aD a.r b.r).on[c]'(by omega) := ak _
   have e2 : lvA (aD a.r b.r) c = (aD a.r b.r).lev[c]'(by omega) := ak _
   cases hon : onA (aD a.r b.r) c
   ·have hsk := AJ hb hcl hon
    rw [hon] at e1
    replace e1 := e1.symm
    refine' y5334
    (refine' ⟨(c + 1, ws, c3), _, _, _⟩; rotate_right; (refine aq.auto rfl rfl rfl rfl ?_ ?_ <;> refine' aj); rotate_right; exact aw)
    ·rw [hsk]
    ·rw [hsk]
    ·exact ⟨by omega, hway, by rw [hsk]; exact hrun, by omega⟩
   ·have hst := AI hl ha hb hcl hon hway hrun
    rw [hon] at e1
    replace e1 := e1.symm
    rw [e2] at hst
    refine' y5334
    have hl1 := nY (upR a.r b.r c) c ((aD a.r b.r).lev[c]'(by omega))
    have hl2 := s_ ⟨(upR a.r b.r c).on, (upR a.r b.r c).lev.set c ((aD a.r b.r).lev[c]'(by omega))⟩ c true
    refine ab.loc [0, 1, 2, 3] [] rfl rfl ((e6 c4 c5 c3 (upR a.r b.r c) ws c _ (by omega) (by omega)).mono ?_)
    rintro _ _ ⟨rfl, rfl | rfl⟩
    ·refine' y5334
     refine ab.loc [0, 1, 2, 3] [] rfl rfl ((fP c4 c5 c3 ⟨(upR a.r b.r c).on, (upR a.r b.r c).lev.set c ((aD a.r b.r).lev[c]'(by omega))⟩ (ws ++ dh (upR a.r b.r c) c ((aD a.r b.r).lev[c]'(by omega))) c true (by simp only; omega) (by rw [List.length_append]; omega)).mono ?_)
     rintro _ _ ⟨rfl, rfl | rfl⟩
     ·refine' y5334
      (refine' ⟨(c + 1, (ws ++ dh (upR a.r b.r c) c ((aD a.r b.r).lev[c]'(by omega))) ++ dS ⟨(upR a.r b.r c).on, (upR a.r b.r c).lev.set c ((aD a.r b.r).lev[c]'(by omega))⟩ c true, c3), _, _, _⟩; rotate_right; (refine aq.auto rfl rfl rfl rfl ?_ ?_ <;> refine' aj); rotate_right; exact aw)
      ·rw [<- hst.2.2]
      ·rw [<- hst.2.2]
      ·exact ⟨by omega, hst.1, hst.2.1, by rw [List.length_append, List.length_append]; omega⟩
     ·refine' y5334
      (refine' ⟨(c + 1, (ws ++ dh (upR a.r b.r c) c ((aD a.r b.r).lev[c]'(by omega))) ++ dS ⟨(upR a.r b.r c).on, (upR a.r b.r c).lev.set c ((aD a.r b.r).lev[c]'(by omega))⟩ c true, false), _, _, _⟩; rotate_right; (refine aq.auto rfl rfl rfl rfl ?_ ?_ <;> refine' aj); rotate_right; exact aw)
      ·rw [<- hst.2.2]
      ·rw [<- hst.2.2]
      ·exact ⟨by omega, hst.1, hst.2.1, by rw [List.length_append, List.length_append]; omega⟩
    ·refine' y5334
     refine ab.loc [0, 1, 2, 4] [] rfl rfl ((fP c4 c5 false ⟨(upR a.r b.r c).on, (upR a.r b.r c).lev.set c ((aD a.r b.r).lev[c]'(by omega))⟩ (ws ++ dh (upR a.r b.r c) c ((aD a.r b.r).lev[c]'(by omega))) c true (by simp only; omega) (by rw [List.length_append]; omega)).mono ?_)
     rintro _ _ ⟨rfl, rfl | rfl⟩
     ·refine' y5334
      (refine' ⟨(c + 1, (ws ++ dh (upR a.r b.r c) c ((aD a.r b.r).lev[c]'(by omega))) ++ dS ⟨(upR a.r b.r c).on, (upR a.r b.r c).lev.set c ((aD a.r b.r).lev[c]'(by omega))⟩ c true, false), _, _, _⟩; rotate_right; (refine aq.auto rfl rfl rfl rfl ?_ ?_ <;> refine' aj); rotate_right; exact aw)
      ·rw [<- hst.2.2]
      ·rw [<- hst.2.2]
      ·exact ⟨by omega, hst.1, hst.2.1, by rw [List.length_append, List.length_append]; omega⟩
     ·refine' y5334
      (refine' ⟨(c + 1, (ws ++ dh (upR a.r b.r c) c ((aD a.r b.r).lev[c]'(by omega))) ++ dS ⟨(upR a.r b.r c).on, (upR a.r b.r c).lev.set c ((aD a.r b.r).lev[c]'(by omega))⟩ c true, false), _, _, _⟩; rotate_right; (refine aq.auto rfl rfl rfl rfl ?_ ?_ <;> refine' aj); rotate_right; exact aw)
      ·rw [<- hst.2.2]
      ·rw [<- hst.2.2]
      ·exact ⟨by omega, hst.1, hst.2.1, by rw [List.length_append, List.length_append]; omega⟩
  ·have hcn : c = l.length := by omega
   subst hcn
   replace hrun := hrun.trans (qL ha hb)
   refine' y5334
   refine ai (fun (⟨c, ws, c3⟩ : Nat × List Wr × Bool) => ⟨[(6, .aN [.list b.n1 (b.r.on.map pB), .list b.n3 (b.r.lev.map pI)]), (12, .ptr 0 0), (14, .p (pI ((c : Int) - 1)))], wH c4 c5 c3 (dnR a.r b.r c) ws⟩) (fun ⟨c, ws, c3⟩ => c <= l.length /\ jJ l d a.r b.r ws /\ ws.foldl bc a.r = dnR a.r b.r c /\ ws.length <= 2 * l.length + 2 * (l.length - c)) (fun ⟨c, ws, c3⟩ => c) (l.length, ws, c3) ?_ ?_ ?_; (refine aq.auto rfl rfl rfl rfl ?_ ?_ <;> refine' aj)
   ·rw [qL ha hb]
   ·rw [qL ha hb]
   ·exact ⟨by omega, hway, hrun, by omega⟩
   ·rintro ⟨c, ws, c3⟩ ⟨hc, hway, hrun, hlen⟩
    try simp only at hc hway hrun hlen
    rcases c with _ | c
    ·refine' y5334
     (refine ay.frz _ _ _ [3] ?_; refine' ay.auto (.tup [.p (.list c3 (ws.map Wr.pv)), .p (pI 0)]) ([]) rfl rfl rfl rfl _ _ _ <;> refine' aj)
     exact ⟨ws, c3, rfl, rfl, hway, hrun.trans (Aj hb), by omega⟩
    ·have hu := ko (a := a.r) hb (c + 1)
     have hb1 := hb.rv.1
     have hb2 := hb.rv.2.1
     have e1 : onA b.r c = b.r.on[c]'(by omega) := ak _
     have e2 : lvA b.r c = b.r.lev[c]'(by omega) := ak _
     have hz : (((c + 1 : Nat)) : Int) - 1 = (c : Nat) := by omega
     dsimp only
     rw [hz]
     cases hon : onA b.r c
     ·have hst := (qt hl ha hb (by omega) hway hrun).1 hon
      rw [hon] at e1
      replace e1 := e1.symm
      rw [e2] at hst
      have hl1 := nY ⟨(dnR a.r b.r (c + 1)).on.set c false, (dnR a.r b.r (c + 1)).lev⟩ c (b.r.lev[c]'(by omega))
      have hl2 := s_ (dnR a.r b.r (c + 1)) c false
      refine' y5334
      refine ab.loc [0, 1, 2, 3] [] rfl rfl ((fP c4 c5 c3 (dnR a.r b.r (c + 1)) ws c false (by omega) (by omega)).mono ?_)
      rintro _ _ ⟨rfl, rfl | rfl⟩
      ·refine' y5334
       refine ab.loc [0, 1, 2, 3] [] rfl rfl ((e6 c4 c5 c3 ⟨(dnR a.r b.r (c + 1)).on.set c false, (dnR a.r b.r (c + 1)).lev⟩ (ws ++ dS (dnR a.r b.r (c + 1)) c false) c (b.r.lev[c]'(by omega)) (by simp only [List.length_set]; omega) (by rw [List.length_append]; omega)).mono ?_)
       rintro _ _ ⟨rfl, rfl | rfl⟩
       ·refine' y5334
        (refine' ⟨(c, (ws ++ dS (dnR a.r b.r (c + 1)) c false) ++ dh ⟨(dnR a.r b.r (c + 1)).on.set c false, (dnR a.r b.r (c + 1)).lev⟩ c (b.r.lev[c]'(by omega)), c3), _, _, _⟩; rotate_right; (refine aq.auto rfl rfl rfl rfl ?_ ?_ <;> refine' aj); rotate_right; exact aw)
        ·rw [<- hst.2.2]
        ·rw [<- hst.2.2]
        ·exact ⟨by omega, hst.1, hst.2.1, by rw [List.length_append, List.length_append]; omega⟩
       ·refine' y5334
        (refine' ⟨(c, (ws ++ dS (dnR a.r b.r (c + 1)) c false) ++ dh ⟨(dnR a.r b.r (c + 1)).on.set c false, (dnR a.r b.r (c + 1)).lev⟩ c (b.r.lev[c]'(by omega)), false), _, _, _⟩; rotate_right; (refine aq.auto rfl rfl rfl rfl ?_ ?_ <;> refine' aj); rotate_right; exact aw)
        ·rw [<- hst.2.2]
        ·rw [<- hst.2.2]
        ·exact ⟨by omega, hst.1, hst.2.1, by rw [List.length_append, List.length_append]; omega⟩
      ·refine' y5334
       refine ab.loc [0, 1, 2, 4] [] rfl rfl ((e6 c4 c5 false ⟨(dnR a.r b.r (c + 1)).on.set c false, (dnR a.r b.r (c + 1)).lev⟩ (ws ++ dS (dnR a.r b.r (c + 1)) c false) c (b.r.lev[c]'(by omega)) (by simp only [List.length_set]; omega) (by rw [List.length_append]; omega)).mono ?_)
       rintro _ _ ⟨rfl, rfl | rfl⟩
       ·refine' y5334
        (refine' ⟨(c, (ws ++ dS (dnR a.r b.r (c + 1)) c false) ++ dh ⟨(dnR a.r b.r (c + 1)).on.set c false, (dnR a.r b.r (c + 1)).lev⟩ c (b.r.lev[c]'(by omega)), false), _, _, _⟩; rotate_right; (refine aq.auto rfl rfl rfl rfl ?_ ?_ <;> refine' aj); rotate_right; exact aw)
        ·rw [<- hst.2.2]
        ·rw [<- hst.2.2]
        ·exact ⟨by omega, hst.1, hst.2.1, by rw [List.length_append, List.length_append]; omega⟩
       ·refine' y5334
        (refine' ⟨(c, (ws ++ dS (dnR a.r b.r (c + 1)) c false) ++ dh ⟨(dnR a.r b.r (c + 1)).on.set c false, (dnR a.r b.r (c + 1)).lev⟩ c (b.r.lev[c]'(by omega)), false), _, _, _⟩; rotate_right; (refine aq.auto rfl rfl rfl rfl ?_ ?_ <;> refine' aj); rotate_right; exact aw)
        ·rw [<- hst.2.2]
        ·rw [<- hst.2.2]
        ·exact ⟨by omega, hst.1, hst.2.1, by rw [List.length_append, List.length_append]; omega⟩
     ·have hst := (qt hl ha hb (by omega) hway hrun).2 hon
      rw [hon] at e1
      replace e1 := e1.symm
      rw [e2] at hst
      have hl1 := nY (dnR a.r b.r (c + 1)) c (b.r.lev[c]'(by omega))
      refine' y5334
      refine ab.loc [0, 1, 2, 3] [] rfl rfl ((e6 c4 c5 c3 (dnR a.r b.r (c + 1)) ws c (b.r.lev[c]'(by omega)) (by omega) (by omega)).mono ?_)
      rintro _ _ ⟨rfl, rfl | rfl⟩
      ·refine' y5334
       (refine' ⟨(c, ws ++ dh (dnR a.r b.r (c + 1)) c (b.r.lev[c]'(by omega)), c3), _, _, _⟩; rotate_right; (refine aq.auto rfl rfl rfl rfl ?_ ?_ <;> refine' aj); rotate_right; exact aw)
       ·rw [<- hst.2.2]
       ·rw [<- hst.2.2]
       ·exact ⟨by omega, hst.1, hst.2.1, by rw [List.length_append]; omega⟩
      ·refine' y5334
       (refine' ⟨(c, ws ++ dh (dnR a.r b.r (c + 1)) c (b.r.lev[c]'(by omega)), false), _, _, _⟩; rotate_right; (refine aq.auto rfl rfl rfl rfl ?_ ?_ <;> refine' aj); rotate_right; exact aw)
       ·rw [<- hst.2.2]
       ·rw [<- hst.2.2]
       ·exact ⟨by omega, hst.1, hst.2.1, by rw [List.length_append]; omega⟩
def LvS (xs : List Int) (v : Int) : Prop := 1 <= v /\ v <= 5700 /\ (∀ x ∈ xs, 1 <= x /\ x <= 5000 /\ x < v) /\ ∀ (k : Nat) (h : k + 1 < xs.length), xs[k] < xs[k + 1]
theorem LvS.snoc {xs : List Int} {v w : Int} (h : LvS xs v) (hv : v <= 5000) (hw : 1 <= w /\ w <= 700) : LvS (xs ++ [v]) (v + w) := by
 obtain ⟨h1, h2, h3, h4⟩ := h
 refine ⟨by omega, by omega, fun x hx => ?_, fun k hk => ?_⟩
 ·rcases List.mem_append.1 hx with hx | hx
  ·have := h3 x hx; omega
  ·simp at hx; subst hx; omega
 ·simp only [List.length_append, List.length_cons, List.length_nil] at hk
  rcases Nat.lt_or_ge (k + 1) xs.length with hlt | hge
  ·rw [List.getElem_append_left (by omega), List.getElem_append_left hlt]; exact h4 k hlt
  ·rw [List.getElem_append_left (by omega), List.getElem_append_right hge]
   have := h3 xs[k] (List.getElem_mem _)
   simp; omega
theorem aT.snoc {l : List Sup} (h : aT l) (hl : l.length < 16) {s : Sup} (hs : oX s l.length) (h16 : s.lv.length <= 16) : aT (l ++ [s]) := by
 refine ⟨by simp; omega, fun x hx => ?_, fun i hi => ?_⟩
 ·rcases List.mem_append.1 hx with hx | hx
  ·exact h.2.1 x hx
  ·simp at hx; subst hx; exact h16
 ·simp only [List.length_append, List.length_cons, List.length_nil] at hi
  rcases Nat.lt_or_ge i l.length with hlt | hge
  ·rw [List.getElem_append_left hlt]; exact h.2.2 i hlt
  ·have : i = l.length := by omega
   subst this
   simpa using hs
theorem aT.nil : aT [] := ⟨by simp, by simp, fun i h => absurd h (by simp)⟩
theorem zd383 {P : Prop} (h : P := by
 ((first | refine' gC | refine' gpI | refine' gpB | refine' aI | refine' gE | (apply ax.quiet (by kernel_rfl) (by kernel_rfl); (conv => whnf); fail_if_success (show False))) <;> (conv => whnf)) <;> (solve_by_elim (newGoals := .nonDependentOnly) -symm -exfalso (transparency := .reducible) only [rfl, aC])) : P := h
theorem yd383 {P : Prop} (h : P := by
 ((conv => whnf); repeat' ((first | refine' gC | refine' gpI | refine' gpB | refine' aI | refine' gE | (apply ax.quiet (by kernel_rfl) (by kernel_rfl); (conv => whnf); fail_if_success (show False))) <;> (conv => whnf))) <;> (solve_by_elim (newGoals := .nonDependentOnly) -symm -exfalso (transparency := .reducible) only [rfl, aC])) : P := h
set_option maxHeartbeats 4000000 in
theorem oW (nl : Bool) (ts : List Int) (i : Nat) (h : i <= ts.length) (n : Nat) (hn : 1 <= n /\ n <= 15) :
  ao Tryz.prog 6 [.ptr 0 0, .p (pI n)] (src nl ts i) fun r H => ∃ (l : List Sup) (nb : Bool) (i' : Nat), aT l /\ (∀ s ∈ l, s.lv.length <= 5) /\ 1 <= l.length /\ l.length <= n /\ i' <= ts.length /\ r = .buf 1 /\ H = src nl ts i' ++ [some (AO.buf 70 nb (l.map Sup.pv))] := by
 refine aa Tryz.func6 rfl rfl au rfl ?_
 refine' yc048
 refine ab.loc [0] [] rfl rfl ((jI nl ts i h 1 n (by omega) (by omega)).mono ?_)
 rintro r H ⟨j0, i2, hj0, hj2, hi2, rfl, rfl⟩
 refine' yc048
 refine ai (fun (⟨j, l, nb, i⟩ : Int × List Sup × Bool × Nat) => ⟨[(0, .ptr 0 0), (5, .buf 1), (6, .p (pI j))], src nl ts i ++ [some (AO.buf 70 nb (l.map Sup.pv))]⟩) (fun ⟨j, l, nb, i⟩ => 0 <= j /\ aT l /\ (l.length : Int) + j <= n /\ 1 <= (l.length : Int) + j /\ i <= ts.length /\ ∀ s ∈ l, s.lv.length <= 5) (fun ⟨j, l, nb, i⟩ => j.toNat) (j0, [], true, i2) ?_ ?_ ?_; (refine aq.kM (70, 5) rfl rfl rfl rfl rfl ?_ ?_ <;> refine' aj)
 ·exact ⟨by omega, .nil, by simp; omega, by simp; omega, hi2, by simp⟩
 rintro ⟨j, l, nb, i3⟩ ⟨hj, hv, hl1, hl, hi3, h5⟩
 try simp only at hj hv hl1 hl hi3 h5
 refine' yc048
 ·refine ab.loc [0] [] rfl rfl ((jI nl ts i3 hi3 (-1) (l.length - 1) (by omega) (by omega)).mono ?_)
  rintro r H ⟨par, i4, hp0, hp1, hi4, rfl, rfl⟩
  (conv => whnf); repeat' ((first | refine' zc048 | (apply IsL.lit (f := pI) [0, 100, 500, 1000, 10000] rfl)) <;> (conv => whnf))
  refine ab.loc [0] [2] rfl rfl ((cO nl false ts i4 hi4 [0, 100, 500, 1000, 10000] (by simp) (by simp)).mono ?_)
  rintro r H ⟨cap, i5, hcap, hi5, rfl, rfl⟩
  have hcp : 0 <= cap /\ cap <= 10000 := by simp at hcap; omega
  refine' yc048
  refine ab.loc [0] [] rfl rfl ((dU nl ts i5 hi5 6 (by omega)).mono ?_)
  rintro r H ⟨al, i6, hal0, hal1, hi6, rfl, rfl⟩
  (conv => whnf); repeat' ((first | refine' zc048 | (apply IsL.lit (f := pI) [600, 800, 1100, 1800, 3000] rfl)) <;> (conv => whnf))
  refine ab.loc [0] [4] rfl rfl ((cO nl false ts i6 hi6 [600, 800, 1100, 1800, 3000] (by simp) (by simp)).mono ?_)
  rintro r H ⟨v, i7, hvv, hi7, rfl, rfl⟩
  have hvr : 1 <= v /\ v <= 3000 := by simp at hvv; omega
  refine' yc048
  refine ab.loc [0] [] rfl rfl ((jI nl ts i7 hi7 1 5 (by omega) (by omega)).mono ?_)
  rintro r H ⟨k0, i8, hk0, hk1, hi8, rfl, rfl⟩
  refine' yc048
  refine ai (fun (⟨k, xs, nx, v, i⟩ : Int × List Int × Bool × Int × Nat) => ⟨[(0, .ptr 0 0), (5, .buf 1), (6, .p (pI j)), (7, .ptr 2 0), (8, .p (pI v)), (9, .p (pI k))], src nl ts i ++ [some (AO.buf 70 nb (l.map Sup.pv)), some (.cells [.p (pI par), .buf 3, .p (pI 0), .p (pI cap), .p (pB (al == 0))]), some (AO.buf 3 nx (xs.map pI))]⟩) (fun ⟨k, xs, nx, v, i⟩ => 0 <= k /\ (xs.length : Int) + k <= 5 /\ LvS xs v /\ (xs.length = 0 -> 1 <= k /\ v <= 3000) /\ i <= ts.length) (fun ⟨k, xs, nx, v, i⟩ => k.toNat) (k0, [], true, v, i8) ?_ ?_ ?_; (refine aq.cell _ 3 1 3 _ _ _ _ _ rfl rfl rfl ?_; refine aq.auto rfl rfl rfl rfl ?_ ?_ <;> refine' aj)
  ·exact ⟨by omega, by simp; omega, ⟨by omega, by omega, by simp, by simp⟩, fun _ => ⟨by omega, by omega⟩, hi8⟩
  rintro ⟨k, xs, nx, v, i9⟩ ⟨hk, hxk, hlv, hx0, hi9⟩
  try simp only at hk hxk hlv hx0 hi9
  refine' yd383
  apply aB.plain
  (conv => whnf); repeat' ((first | refine' zd383 | (apply IsL.lit (f := pI) [50, 100, 300, 700] rfl)) <;> (conv => whnf))
  ·refine ab.loc [0] [6] rfl rfl ((cO nl false ts i9 hi9 [50, 100, 300, 700] (by simp) (by simp)).mono ?_)
   rintro r H ⟨w, i10, hw, hi10, rfl, rfl⟩
   have hwr : 1 <= w /\ w <= 700 := by simp at hw; omega
   have hv0 := hlv.1
   have hv1 := hlv.2.1
   refine' yc048
   (refine' ⟨(k - 1, xs ++ [v], _, v + w, i10), _, _, _⟩; rotate_right; (refine aq.auto rfl rfl rfl rfl ?_ ?_ <;> refine' aj); rotate_right; exact aw)
   exact ⟨by omega, by simp; omega, hlv.snoc (by omega) hwr, fun h => absurd h (by simp), hi10⟩
  ·refine aB.meet (fun (⟨dr, i⟩ : Int × Nat) => ⟨[(0, .ptr 0 0), (5, .buf 1), (6, .p (pI j)), (7, .ptr 2 0)], src nl ts i ++ [some (AO.buf 70 nb (l.map Sup.pv)), some (.cells [.p (pI par), .p (.list nx (xs.map pI)), .p (pI dr), .p (pI cap), .p (pB (al == 0))])]⟩) (fun (⟨dr, i⟩ : Int × Nat) => 0 <= dr /\ dr <= 300 /\ (par < 0 -> dr = 0) /\ i <= ts.length) ?_ ?_
   ·(conv => whnf); repeat' ((first | refine' zc048 | (apply IsL.lit (f := pI) [0, 0, 100, 300] rfl)) <;> (conv => whnf))
    ·refine ab.loc [0] [4] rfl rfl ((cO nl false ts i9 hi9 [0, 0, 100, 300] (by simp) (by simp)).mono ?_)
     rintro r H ⟨dr, i10, hdr, hi10, rfl, rfl⟩
     have hdd : 0 <= dr /\ dr <= 300 := by simp at hdr; omega
     refine' yc048
     (refine' ⟨(dr, i10), _, _⟩; rotate_right; (refine aq.ez _ [3] [] ?_; refine aq.cells _ [2] ?_; refine aq.auto rfl rfl rfl rfl ?_ ?_ <;> refine' aj); rotate_right; exact aw)
    ·(refine' ⟨(0, i9), _, _⟩; rotate_right; (refine aq.ez _ [3] [] ?_; refine aq.cells _ [2] ?_; refine aq.auto rfl rfl rfl rfl ?_ ?_ <;> refine' aj); rotate_right; exact aw)
   rintro ⟨dr, i10⟩ ⟨hd0, hd1, hd2, hi10⟩
   try simp only at hd0 hd1 hd2 hi10
   (conv => whnf); repeat' ((first | refine' zc048 | (apply IsL.lit (f := Sup.pv) [⟨par, nx, xs, dr, cap, al == 0⟩] rfl)) <;> (conv => whnf))
   (refine' ⟨(j - 1, l ++ [⟨par, nx, xs, dr, cap, al == 0⟩], false, i10), _, _, _⟩; rotate_right; (refine aq.auto rfl rfl rfl rfl ?_ ?_ <;> refine' aj); rotate_right; exact aw)
   refine ⟨by omega, hv.snoc (by omega) ⟨⟨by omega, by show par < _; omega⟩, ?_, ⟨hd0, by show dr <= _; omega⟩, hd2, hcp, fun x hx => ⟨(hlv.2.2.1 x hx).1, (hlv.2.2.1 x hx).2.1⟩, hlv.2.2.2⟩ (by show xs.length <= 16; omega), by simp; omega, by simp; omega, hi10, fun s hs => ?_⟩
   rotate_left
   ·rcases List.mem_append.1 hs with h1 | h1
    ·exact h5 s h1
    ·simp at h1
     subst h1
     show xs.length <= 5
     omega
   rcases Nat.eq_zero_or_pos xs.length with h00 | h00
   ·have := hx0 h00
    omega
   ·exact h00
  ·apply aB.plain
   refine' yd383
   refine aB.meet (fun (⟨dr, i⟩ : Int × Nat) => ⟨[(0, .ptr 0 0), (5, .buf 1), (6, .p (pI j)), (7, .ptr 2 0)], src nl ts i ++ [some (AO.buf 70 nb (l.map Sup.pv)), some (.cells [.p (pI par), .p (.list nx (xs.map pI)), .p (pI dr), .p (pI cap), .p (pB (al == 0))])]⟩) (fun (⟨dr, i⟩ : Int × Nat) => 0 <= dr /\ dr <= 300 /\ (par < 0 -> dr = 0) /\ i <= ts.length) ?_ ?_
   ·(conv => whnf); repeat' ((first | refine' zc048 | (apply IsL.lit (f := pI) [0, 0, 100, 300] rfl)) <;> (conv => whnf))
    ·refine ab.loc [0] [4] rfl rfl ((cO nl false ts i9 hi9 [0, 0, 100, 300] (by simp) (by simp)).mono ?_)
     rintro r H ⟨dr, i10, hdr, hi10, rfl, rfl⟩
     have hdd : 0 <= dr /\ dr <= 300 := by simp at hdr; omega
     refine' yc048
     (refine' ⟨(dr, i10), _, _⟩; rotate_right; (refine aq.ez _ [3] [] ?_; refine aq.cells _ [2] ?_; refine aq.auto rfl rfl rfl rfl ?_ ?_ <;> refine' aj); rotate_right; exact aw)
    ·(refine' ⟨(0, i9), _, _⟩; rotate_right; (refine aq.ez _ [3] [] ?_; refine aq.cells _ [2] ?_; refine aq.auto rfl rfl rfl rfl ?_ ?_ <;> refine' aj); rotate_right; exact aw)
   rintro ⟨dr, i10⟩ ⟨hd0, hd1, hd2, hi10⟩
   try simp only at hd0 hd1 hd2 hi10
   (conv => whnf); repeat' ((first | refine' zc048 | (apply IsL.lit (f := Sup.pv) [⟨par, nx, xs, dr, cap, al == 0⟩] rfl)) <;> (conv => whnf))
   (refine' ⟨(j - 1, l ++ [⟨par, nx, xs, dr, cap, al == 0⟩], false, i10), _, _, _⟩; rotate_right; (refine aq.auto rfl rfl rfl rfl ?_ ?_ <;> refine' aj); rotate_right; exact aw)
   refine ⟨by omega, hv.snoc (by omega) ⟨⟨by omega, by show par < _; omega⟩, ?_, ⟨hd0, by show dr <= _; omega⟩, hd2, hcp, fun x hx => ⟨(hlv.2.2.1 x hx).1, (hlv.2.2.1 x hx).2.1⟩, hlv.2.2.2⟩ (by show xs.length <= 16; omega), by simp; omega, by simp; omega, hi10, fun s hs => ?_⟩
   rotate_left
   ·rcases List.mem_append.1 hs with h1 | h1
    ·exact h5 s h1
    ·simp at h1
     subst h1
     show xs.length <= 5
     omega
   rcases Nat.eq_zero_or_pos xs.length with h00 | h00
   ·have := hx0 h00
    omega
   ·exact h00
 ·(refine' ay.auto (.buf 1) (src nl ts i3 ++ [some (AO.buf 70 nb (l.map Sup.pv))]) rfl rfl rfl rfl _ _ _ <;> refine' aj)
  exact ⟨l, nb, i3, hv, h5, by omega, by omega, hi3, rfl, rfl⟩
end Go.Proofs.YtaocnijlcgohnaaGreatDoor
namespace Go.Abs
def bl (s : ByteArray) : List Int := s.data.toList.map fun c => (c.toNat : Int)
theorem aQ (s : ByteArray) : (bl s).length = s.size := by
 rw [bl, List.length_map, Array.length_toList]
 rfl
theorem fL {s : ByteArray} {n : Int} (h : n ∈ bl s) : 0 <= n /\ n < 256 := by
 simp only [bl, List.mem_map] at h
 obtain ⟨c, _, rfl⟩ := h
 have := c.toNat_lt
 omega
theorem sI (s : ByteArray) : gP s = (bl s).map fun n => .v (.int .u8 n) := by
 simp [gP, bl, List.map_map]
theorem lE (ns : List Int) : (c_ ns).data.toList = ns.map fun n => UInt8.ofNat n.toNat := by
 have key : ∀ (ns : List Int) (r : ByteArray), (ns.foldl (fun r n => r.push (UInt8.ofNat n.toNat)) r).data.toList = r.data.toList ++ ns.map fun n => UInt8.ofNat n.toNat := by
  intro ns
  induction ns with
  | nil => intro r; simp
  | cons n ns ih =>
   intro r
   rw [List.foldl_cons, ih]
   simp [ByteArray.push]
 have := key ns ByteArray.empty
 simpa [c_] using this
theorem r6 (s : ByteArray) : c_ (bl s) = s := by
 have h : (c_ (bl s)).data = s.data := by
  apply Array.ext'
  rw [lE, bl, List.map_map]
  have : ((fun n : Int => UInt8.ofNat n.toNat) ∘ fun c : UInt8 => (c.toNat : Int)) = id := by
   funext c
   simp
  rw [this, List.map_id]
 exact ByteArray.ext h
theorem Bw {ns : List Int} (h : ∀ n ∈ ns, 0 <= n /\ n < 256) : bl (c_ ns) = ns := by
 rw [bl, lE, List.map_map]
 conv => rhs; rw [<- List.map_id ns]
 refine List.map_congr_left fun n hn => ?_
 have := h n hn
 simp only [Function.comp, id]
 rw [UInt8.toNat_ofNat_of_lt' (by simp [UInt8.size]; omega)]
 omega
theorem CO {s t : ByteArray} (h : bl s = bl t) : s = t := by rw [<- r6 s, <- r6 t, h]
def aU (n : Int) : List Int := [n / 16777216 % 256, n / 65536 % 256, n / 256 % 256, n % 256]
def yr (a b c d : Int) : Int := a * 16777216 + b * 65536 + c * 256 + d
theorem yq {n : Int} (h : 0 <= n /\ n < 4294967296) : yr (n / 16777216 % 256) (n / 65536 % 256) (n / 256 % 256) (n % 256) = n := by
 unfold yr
 omega
def strs (L : List ByteArray) : List Int := L.flatMap fun s => bl s ++ [0]
def place : List ByteArray -> ByteArray -> Nat
 | [], _ => 0
 | s :: r, x => if s = x then 0 else (bl s).length + 1 + place r x
theorem k9 (s : ByteArray) (L : List ByteArray) : strs (s :: L) = bl s ++ 0 :: strs L := by simp [strs]
theorem lO (L M : List ByteArray) : strs (L ++ M) = strs L ++ strs M := by simp [strs]
theorem kf {L : List ByteArray} (M : List ByteArray) {x : ByteArray} (h : x ∈ L) : place (L ++ M) x = place L x := by
 induction L with
 | nil => cases h
 | cons s r ih =>
  rw [List.cons_append]
  unfold place
  split
  ·rfl
  ·rename_i hne
   rw [ih ((List.mem_cons.1 h).resolve_left fun e => hne e.symm)]
theorem qd {L : List ByteArray} {x : ByteArray} (h : x ∉ L) : place (L ++ [x]) x = (strs L).length := by
 induction L with
 | nil => simp [place, strs]
 | cons s r ih =>
  rw [List.cons_append, k9]
  unfold place
  rw [if_neg (fun e => h (by simp [e])), ih (fun hm => h (List.mem_cons_of_mem _ hm)), List.length_append, List.length_cons]
  omega
theorem uE {L : List ByteArray} {x : ByteArray} (h : x ∈ L) : ∃ A B, strs L = A ++ (bl x ++ 0 :: B) /\ A.length = place L x /\ (A = [] \/ ∃ A0, A = A0 ++ [0]) := by
 induction L with
 | nil => cases h
 | cons s r ih =>
  unfold place
  by_cases he : s = x
  ·subst he
   exact ⟨[], strs r, by rw [k9]; rfl, by simp, .inl rfl⟩
  ·obtain ⟨A, B, h1, h2, h3⟩ := ih ((List.mem_cons.1 h).resolve_left fun e => he e.symm)
   refine ⟨bl s ++ 0 :: A, B, by rw [k9, h1]; simp, by rw [if_neg he, List.length_append, List.length_cons, h2]; omega, .inr ?_⟩
   rcases h3 with rfl | ⟨A0, rfl⟩
   ·exact ⟨bl s, by simp⟩
   ·exact ⟨bl s ++ 0 :: A0, by simp⟩
def fy (L : List ByteArray) (x : ByteArray) : List ByteArray := if (L.any fun s => decide (s = x)) = true then L else L ++ [x]
theorem sa {L : List ByteArray} {x : ByteArray} : (L.any fun s => decide (s = x)) = true ↔ x ∈ L := by simp
inductive Tok
 | beg (name : ByteArray)
 | prop (name val : ByteArray)
 | leave
 | fin
def aY (n : Nat) : List Int := List.replicate n 0
def Tok.bytes (L : List ByteArray) : Tok -> List Int
 | .beg s => aU 1 ++ (bl s ++ aY (4 - s.size % 4))
 | .prop n v => aU 3 ++ (aU v.size ++ (aU (place L n) ++ (bl v ++ aY ((4 - v.size % 4) % 4))))
 | .leave => aU 2
 | .fin => aU 9
def Tok.names : Tok -> List ByteArray
 | .prop n _ => [n]
 | _ => []
def aR (L : List ByteArray) (ts : List Tok) : List Int := ts.flatMap (Tok.bytes L)
theorem iT (L : List ByteArray) (ts us : List Tok) : aR L (ts ++ us) = aR L ts ++ aR L us := by simp [aR]
theorem sC {L : List ByteArray} (M : List ByteArray) {ts : List Tok} (h : ∀ t ∈ ts, ∀ n ∈ t.names, n ∈ L) : aR (L ++ M) ts = aR L ts := by
 induction ts with
 | nil => rfl
 | cons t r ih =>
  have h1 : t.bytes (L ++ M) = t.bytes L := by
   cases t with
   | prop n v => simp only [Tok.bytes]; rw [kf M (h (.prop n v) (by simp) n (by simp [Tok.names]))]
   | _ => rfl
  rw [aR, List.flatMap_cons, h1]
  have := ih fun t ht => h t (List.mem_cons_of_mem _ ht)
  unfold aR at this
  rw [this]
  rfl
theorem aZ (n : Nat) : (aY n).length = n := by simp [aY]
theorem az (n : Int) : (aU n).length = 4 := rfl
theorem Tok.yC (L : List ByteArray) (t : Tok) : (t.bytes L).length % 4 = 0 := by
 cases t with
 | beg s => simp only [Tok.bytes, List.length_append, az, aQ, aZ]; omega
 | prop n v => simp only [Tok.bytes, List.length_append, az, aQ, aZ]; omega
 | leave => simp [Tok.bytes, az]
 | fin => simp [Tok.bytes, az]
abbrev bf := ByteArray × ByteArray
def iU (p : bf) : Tok := .prop p.1 p.2
def cr (ts : List Tok) : List ByteArray := (ts.flatMap Tok.names).foldl fy []
theorem oV {L : List ByteArray} {x y : ByteArray} : y ∈ fy L x ↔ y ∈ L \/ y = x := by
 unfold fy
 split
 ·rename_i h
  rw [sa] at h
  constructor
  ·exact .inl
  ·rintro (h1 | rfl)
   ·exact h1
   ·exact h
 ·simp
theorem yM (L : List ByteArray) (x : ByteArray) : ∃ M, fy L x = L ++ M := by
 unfold fy
 split
 ·exact ⟨[], by simp⟩
 ·exact ⟨[x], rfl⟩
end Go.Abs
namespace Go.Abs
abbrev bD := Int × ByteArray × List bf
abbrev Stk := List (Int × Bool)
def Db : Stk -> Int
 | [] => -1
 | (i, _) :: _ => i
def marked : Stk -> Stk
 | [] => []
 | (i, _) :: r => (i, true) :: r
inductive DStep : List bD -> Stk -> Tok -> List bD -> Stk -> Prop
 | beg (ns : List bD) (k : Stk) (s : ByteArray) (h : k ≠ [] \/ ns = []) : DStep ns k (.beg s) (ns ++ [(Db k, s, [])]) (((ns.length : Int), false) :: marked k)
 | prop (ns : List bD) (x : bD) (i : Int) (k : Stk) (n v : ByteArray) (h : i = ns.length) : DStep (ns ++ [x]) ((i, false) :: k) (.prop n v) (ns ++ [(x.1, x.2.1, x.2.2 ++ [(n, v)])]) ((i, false) :: k)
 | leave (ns : List bD) (x : Int × Bool) (k : Stk) : DStep ns (x :: k) .leave ns k
inductive fB : List bD -> Stk -> List Tok -> List bD -> Stk -> Prop
 | nil (ns : List bD) (k : Stk) : fB ns k [] ns k
 | cons {ns ns1 ns2 : List bD} {k k1 k2 : Stk} {t : Tok} {ts : List Tok} (h : DStep ns k t ns1 k1) (hr : fB ns1 k1 ts ns2 k2) : fB ns k (t :: ts) ns2 k2
theorem fB.append {ns ns1 ns2 : List bD} {k k1 k2 : Stk} {ts us : List Tok} (h : fB ns k ts ns1 k1) (hr : fB ns1 k1 us ns2 k2) : fB ns k (ts ++ us) ns2 k2 := by
 induction h with
 | nil => exact hr
 | cons h _ ih => exact .cons h (ih hr)
theorem fB.props (ns : List bD) (par : Int) (s : ByteArray) (k : Stk) : ∀ (ps qs : List bf), fB (ns ++ [(par, s, ps)]) (((ns.length : Int), false) :: k) (qs.map iU) (ns ++ [(par, s, ps ++ qs)]) (((ns.length : Int), false) :: k)
 | ps, [] => by rw [List.append_nil]; exact .nil _ _
 | ps, q :: qs => by
  rw [List.map_cons]
  refine .cons (.prop ns (par, s, ps) _ k q.1 q.2 rfl) ?_
  have := fB.props ns par s k (ps ++ [q]) qs
  rw [List.append_assoc] at this
  exact this
def a_ (p : Int) : List Int -> List Int × Nat
 | [] => ([], 0)
 | x :: r => if x = p then (x :: r, 0) else ((a_ p r).1, (a_ p r).2 + 1)
def b6 : Nat -> List Int -> List bD -> List Tok
 | _, k, [] => List.replicate k.length .leave ++ [.fin]
 | i, k, n :: ns => List.replicate (a_ n.1 k).2 .leave ++ (.beg n.2.1 :: (n.2.2.map iU ++ b6 (i + 1) ((i : Int) :: (a_ n.1 k).1) ns))
def se : Nat -> List Int -> List bD -> Prop
 | _, _, [] => True
 | i, k, n :: ns => (n.1 ∈ k \/ (n.1 = -1 /\ k = [] /\ i = 0)) /\ se (i + 1) ((i : Int) :: (a_ n.1 k).1) ns
theorem lg {p : Int} : ∀ {k : List Int}, p ∈ k -> ∃ r, (a_ p k).1 = p :: r
 | x :: r, h => by
  unfold a_
  split
  ·rename_i he
   exact ⟨r, by rw [he]⟩
  ·rename_i he
   exact lg ((List.mem_cons.1 h).resolve_left fun e => he e.symm)
theorem fB.Dl (ns : List bD) (p : Int) : ∀ (K : Stk), ∃ K', fB ns K (List.replicate (a_ p (K.map (·.1))).2 .leave) ns K' /\ K'.map (·.1) = (a_ p (K.map (·.1))).1
 | [] => ⟨[], .nil _ _, rfl⟩
 | (x, b) :: r => by
  rw [List.map_cons]
  unfold a_
  split
  ·exact ⟨(x, b) :: r, .nil _ _, rfl⟩
  ·obtain ⟨K', h1, h2⟩ := fB.Dl ns p r
   refine ⟨K', ?_, h2⟩
   rw [List.replicate_succ]
   exact .cons (.leave ns _ r) h1
theorem fB.leaves (ns : List bD) : ∀ (K : Stk), fB ns K (List.replicate K.length .leave) ns []
 | [] => .nil _ _
 | x :: r => by
  rw [List.length_cons, List.replicate_succ]
  exact .cons (.leave ns x r) (fB.leaves ns r)
theorem wq : ∀ (ns done : List bD) (K : Stk), se done.length (K.map (·.1)) ns -> ∃ ts, b6 done.length (K.map (·.1)) ns = ts ++ [.fin] /\ fB done K ts (done ++ ns) []
 | [], done, K, _ => ⟨List.replicate K.length .leave, by unfold b6; rw [List.length_map], by rw [List.append_nil]; exact fB.leaves done K⟩
 | n :: ns, done, K, h => by
  obtain ⟨h1, h2⟩ := h
  obtain ⟨K1, h3, h4⟩ := fB.Dl done n.1 K
  have htop : Db K1 = n.1 /\ (K1 ≠ [] \/ done = []) := by
   rcases h1 with h1 | ⟨h5, h6, h7⟩
   ·obtain ⟨r, hr⟩ := lg h1
    rw [hr] at h4
    cases K1 with
    | nil => cases h4
    | cons x r =>
     rw [List.map_cons] at h4
     injection h4 with h4 _
     exact ⟨h4, .inl (by simp)⟩
   ·rw [h6] at h4
    have : K1 = [] := by simpa [a_] using h4
    subst this
    exact ⟨h5.symm, .inr (List.eq_nil_of_length_eq_zero h7)⟩
  have hm : (marked K1).map (·.1) = K1.map (·.1) := by
   cases K1 with
   | nil => rfl
   | cons x r => rfl
  have h8 : ((((done.length : Int), false) :: marked K1).map (·.1)) = (done.length : Int) :: (a_ n.1 (K.map (·.1))).1 := by rw [List.map_cons, hm, h4]
  have hl : (done ++ [n]).length = done.length + 1 := by simp
  obtain ⟨ts, h9, h10⟩ := wq ns (done ++ [n]) (((done.length : Int), false) :: marked K1) (by rw [hl, h8]; exact h2)
  rw [hl, h8] at h9
  refine ⟨List.replicate (a_ n.1 (K.map (·.1))).2 .leave ++ (.beg n.2.1 :: (n.2.2.map iU ++ ts)), ?_, ?_⟩
  ·unfold b6
   rw [h9]
   simp
  ·refine h3.append (.cons (.beg done K1 n.2.1 htop.2) ?_)
   rw [htop.1]
   have h11 := fB.props done n.1 n.2.1 (marked K1) [] n.2.2
   rw [List.nil_append] at h11
   refine h11.append ?_
   rw [List.append_assoc] at h10
   exact h10
end Go.Abs
namespace Go.Abs
section
variable {α : Type} (f : α -> Nat)
def lo (i : Nat) (l : List α) : List α := l.filter fun q => decide (f q < i)
def hi (i : Nat) (l : List α) : List α := l.filter fun q => decide (i < f q)
def j9 (l : List α) (p : α) : List α := lo f (f p) l ++ p :: hi f (f p) l
abbrev oY (l : List α) : Prop := l.Pairwise fun a b => f a < f b
variable {f}
theorem zA {l : List α} {p q : α} (h : q ∈ j9 f l p) : q = p \/ q ∈ l := by
 unfold j9 lo hi at h
 rcases List.mem_append.1 h with h | h
 ·exact .inr ((List.mem_filter.1 h).1)
 ·rcases List.mem_cons.1 h with h | h
  ·exact .inl h
  ·exact .inr ((List.mem_filter.1 h).1)
theorem p9 {l : List α} {p : α} (h : oY f l) : oY f (j9 f l p) := by
 unfold j9 lo hi oY
 rw [List.pairwise_append]
 refine ⟨h.filter _, ?_, fun a ha b hb => ?_⟩
 ·rw [List.pairwise_cons]
  exact ⟨fun a ha => by simpa using (List.mem_filter.1 ha).2, h.filter _⟩
 ·have h1 : f a < f p := by simpa using (List.mem_filter.1 ha).2
  rcases List.mem_cons.1 hb with rfl | hb
  ·exact h1
  ·have h2 : f p < f b := by simpa using (List.mem_filter.1 hb).2
   omega
theorem jY {l : List α} (h : oY f l) {i j : Nat} (hj : j < l.length) (hij : i < j) : f (l[i]'(by omega)) < f l[j] := List.pairwise_iff_getElem.1 h i j (by omega) hj hij
theorem A9 {l : List α} {i : Nat} : ∀ {k : Nat}, (∀ j (h : j < l.length), j < k -> f l[j] < i) -> (∀ j (h : j < l.length), k <= j -> ¬ f l[j] < i) -> lo f i l = l.take k := by
 unfold lo
 induction l with
 | nil => intro k _ _; simp
 | cons x r ih =>
  intro k h1 h2
  cases k with
  | zero =>
   rw [List.take_zero]
   exact List.filter_eq_nil_iff.2 fun a ha => by
    obtain ⟨j, hj, rfl⟩ := List.mem_iff_getElem.1 ha
    simpa using h2 j hj (Nat.zero_le _)
  | succ k =>
   have h3 := h1 0 (by simp) (by omega)
   rw [List.getElem_cons_zero] at h3
   rw [List.filter_cons_of_pos (by simpa using h3), List.take_succ_cons, ih (k := k)]
   ·intro j hj hjk
    have := h1 (j + 1) (by rw [List.length_cons]; omega) (by omega)
    simpa using this
   ·intro j hj hjk
    have := h2 (j + 1) (by rw [List.length_cons]; omega) (by omega)
    simpa using this
theorem rk {l : List α} {i : Nat} : ∀ {k : Nat}, (∀ j (h : j < l.length), j < k -> ¬ i < f l[j]) -> (∀ j (h : j < l.length), k <= j -> i < f l[j]) -> hi f i l = l.drop k := by
 unfold hi
 induction l with
 | nil => intro k _ _; simp
 | cons x r ih =>
  intro k h1 h2
  cases k with
  | zero =>
   rw [List.drop_zero]
   exact List.filter_eq_self.2 fun a ha => by
    obtain ⟨j, hj, rfl⟩ := List.mem_iff_getElem.1 ha
    simpa using h2 j hj (Nat.zero_le _)
  | succ k =>
   have h3 := h1 0 (by simp) (by omega)
   rw [List.getElem_cons_zero] at h3
   rw [List.filter_cons_of_neg (by simpa using h3), List.drop_succ_cons, ih (k := k)]
   ·intro j hj hjk
    have := h1 (j + 1) (by rw [List.length_cons]; omega) (by omega)
    simpa using this
   ·intro j hj hjk
    have := h2 (j + 1) (by rw [List.length_cons]; omega) (by omega)
    simpa using this
theorem vN {l : List α} (hs : oY f l) {p : α} {k : Nat} (hk : k <= l.length) (h1 : ∀ j (h : j < l.length), j < k -> f l[j] < f p) (h2 : ∀ h : k < l.length, ¬ f l[k] < f p) :
  j9 f l p = l.take k ++ p :: (if h : k < l.length then (if f l[k] = f p then l.drop (k + 1) else l.drop k) else []) := by
 have h3 : ∀ j (h : j < l.length), k <= j -> ¬ f l[j] < f p := fun j h hkj => by
  have h4 := h2 (by omega)
  rcases Nat.lt_or_ge k j with h5 | h5
  ·have := jY hs h h5
   omega
  ·obtain rfl : j = k := by omega
   exact h4
 rw [j9, A9 h1 h3]
 congr 2
 split
 ·rename_i hlt
  split
  ·rename_i he
   refine rk (fun j h hjk => ?_) fun j h hjk => ?_
   ·rcases Nat.lt_or_ge j k with h5 | h5
    ·have := h1 j h h5; omega
    ·obtain rfl : j = k := by omega
     omega
   ·have := jY hs h (i := k) (by omega)
    omega
  ·rename_i hne
   refine rk (fun j h hjk => ?_) fun j h hjk => ?_
   ·have := h1 j h hjk; omega
   ·have h4 := h3 j h hjk
    rcases Nat.lt_or_ge k j with h5 | h5
    ·have h6 := jY hs h h5
     have h7 := h2 hlt
     omega
    ·obtain rfl : j = k := by omega
     omega
 ·rename_i hlt
  have : k = l.length := by omega
  subst this
  rw [rk (k := l.length) (fun j h _ => by have := h1 j h h; omega) fun j h hkj => by omega]
  simp
theorem sK {l : List α} (hs : oY f l) {n : Nat} (hn : ∀ a ∈ l, f a < n) : l.length <= n := by
 have key : ∀ i (h : i < l.length), i <= f l[i] := by
  intro i
  induction i with
  | zero => intro _; omega
  | succ i ih =>
   intro h
   have h1 := ih (by omega)
   have h2 := jY hs h (i := i) (by omega)
   omega
 rcases Nat.lt_or_ge n l.length with h | h
 ·have := key n h
  have := hn _ (List.getElem_mem h)
  omega
 ·exact h
end
end Go.Abs
namespace Go.Proofs.YtaocnijlcgohnaaGreatDoor
open Go.Abs
set_option maxRecDepth 100000
def pS (s : ByteArray) : PV := .v (.string s)
def Pr.pv (p : bf) : PV := .agg [pS p.1, pS p.2]
structure Nd where
 par : Int
 nm : ByteArray
 nl : Bool
 ps : List bf
def Nd.pv (n : Nd) : PV := .agg [pI n.par, pS n.nm, .list n.nl (n.ps.map Pr.pv)]
instance : Inhabited Nd := ⟨⟨0, ByteArray.empty, true, []⟩⟩
instance : Inhabited ByteArray := ⟨ByteArray.empty⟩
def vn (k : Nat) : ByteArray := ⟨#[118, UInt8.ofNat (97 + k)]⟩
def pnL : List ByteArray := [⟨#[97, 108, 119, 97, 121, 115, 45, 111, 110]⟩, ⟨#[99, 97, 112, 97, 99, 105, 116, 121]⟩, ⟨#[99, 111, 109, 112, 97, 116, 105, 98, 108, 101]⟩, ⟨#[100, 114, 111, 112, 111, 117, 116]⟩, ⟨#[108, 101, 118, 101, 108, 115]⟩, ⟨#[112, 104, 97, 110, 100, 108, 101]⟩, ⟨#[115, 117, 112, 112, 108, 105, 101, 115]⟩]
def pn (j : Nat) : ByteArray := pnL.getD j ByteArray.empty
def wR : ByteArray := ⟨#[115, 117, 112, 112, 108, 121, 0]⟩
def slS : ByteArray := ⟨#[47]⟩
def kP (s : ByteArray) : Nat := pnL.findIdx fun x => decide (x = s)
def kN (s : ByteArray) : Nat := (s.data.getD 1 0).toNat
theorem n8 : ∀ j, j < 7 -> kP (pn j) = j := by decide +kernel
theorem ql : ∀ j, j < 7 -> kN (vn j) = 97 + j := by decide +kernel
theorem AY : ∀ j, j < 7 -> (pn j).size <= 10 /\ 1 <= (pn j).size := by decide +kernel
theorem zB : ∀ i, i < 7 -> ∀ j, j < 7 -> Op.bytesLess (pn i).data.toList (pn j).data.toList = decide (i < j) := by decide +kernel
theorem y4 : ∀ i, i < 7 -> ∀ j, j < 7 -> Op.bytesLess (vn i).data.toList (vn j).data.toList = decide (i < j) := by decide +kernel
theorem wN : ∀ j, j < 7 -> Op.bytesLess (vn j).data.toList [] = false /\ Op.bytesLess [] (vn j).data.toList = true := by decide +kernel
theorem mn (a b : ByteArray) : (a.toList == b.toList) = decide (a = b) := by
 rw [Bool.eq_iff_iff, decide_eq_true_iff, beq_iff_eq, ByteArray.toList_eq, ByteArray.toList_eq]
 constructor
 ·intro h
  exact ByteArray.ext (Array.ext' h)
 ·rintro rfl; rfl
theorem zC {i j : Nat} (hi : i < 7) (hj : j < 7) (h : pn i = pn j) : i = j := by rw [<- n8 i hi, <- n8 j hj, h]
theorem y5 {i j : Nat} (hi : i < 7) (hj : j < 7) (h : vn i = vn j) : i = j := by
 have := congrArg kN h
 rw [ql i hi, ql j hj] at this
 omega
def IsP (s : ByteArray) : Prop := ∃ j, j < 7 /\ s = pn j
def IsN (s : ByteArray) : Prop := ∃ j, j < 7 /\ s = vn j
theorem IsP.less {s t : ByteArray} (hs : IsP s) (ht : IsP t) : Op.bytesLess s.toList t.toList = decide (kP s < kP t) := by
 obtain ⟨i, hi, rfl⟩ := hs
 obtain ⟨j, hj, rfl⟩ := ht
 rw [n8 i hi, n8 j hj, ByteArray.toList_eq, ByteArray.toList_eq, zB i hi j hj]
theorem IsP.eq {s t : ByteArray} (hs : IsP s) (ht : IsP t) : (s.toList == t.toList) = decide (kP s = kP t) := by
 obtain ⟨i, hi, rfl⟩ := hs
 obtain ⟨j, hj, rfl⟩ := ht
 rw [n8 i hi, n8 j hj, mn]
 exact decide_eq_decide.2 ⟨zC hi hj, fun h => by rw [h]⟩
theorem IsP.lt {s : ByteArray} (hs : IsP s) : kP s < 7 := by
 obtain ⟨i, hi, rfl⟩ := hs
 rw [n8 i hi]
 exact hi
theorem IsP.size {s : ByteArray} (hs : IsP s) : s.size <= 10 /\ 1 <= s.size := by
 obtain ⟨i, hi, rfl⟩ := hs
 exact AY i hi
theorem IsN.less {s t : ByteArray} (hs : IsN s) (ht : IsN t) : Op.bytesLess s.toList t.toList = decide (kN s < kN t) := by
 obtain ⟨i, hi, rfl⟩ := hs
 obtain ⟨j, hj, rfl⟩ := ht
 rw [ql i hi, ql j hj, ByteArray.toList_eq, ByteArray.toList_eq, y4 i hi j hj]
 exact decide_eq_decide.2 ⟨fun h => by omega, fun h => by omega⟩
theorem IsN.eq {s t : ByteArray} (hs : IsN s) (ht : IsN t) : (s.toList == t.toList) = decide (kN s = kN t) := by
 obtain ⟨i, hi, rfl⟩ := hs
 obtain ⟨j, hj, rfl⟩ := ht
 rw [ql i hi, ql j hj, mn]
 exact decide_eq_decide.2 ⟨fun h => by rw [y5 hi hj h], fun h => by rw [show i = j by omega]⟩
theorem IsN.inj {s t : ByteArray} (hs : IsN s) (ht : IsN t) (h : kN s = kN t) : s = t := by
 have h1 := hs.eq ht
 rw [h, mn] at h1
 simpa using h1
theorem IsN.DD {s : ByteArray} (hs : IsN s) : Op.bytesLess s.toList ByteArray.empty.toList = false := by
 obtain ⟨i, hi, rfl⟩ := hs
 rw [ByteArray.toList_eq, ByteArray.toList_eq]
 exact (wN i hi).1
theorem IsN.size {s : ByteArray} (hs : IsN s) : s.size = 2 := by
 obtain ⟨i, hi, rfl⟩ := hs
 rfl
def pk (q : bf) : Nat := kP q.1
def PrV (q : bf) : Prop := IsP q.1 /\ q.2.size <= 20 /\ (q.1 = pn 2 -> q.2 = wR)
def PsV (ps : List bf) : Prop := oY pk ps /\ ∀ q ∈ ps, PrV q
theorem PsV.nil : PsV [] := ⟨.nil, by simp⟩
theorem PsV.put {ps : List bf} (h : PsV ps) {p : bf} (hp : PrV p) : PsV (j9 pk ps p) := ⟨p9 h.1, fun q hq => (zA hq).elim (fun e => e ▸ hp) fun e => h.2 q e⟩
theorem PsV.len {ps : List bf} (h : PsV ps) : ps.length <= 7 := sK h.1 fun q hq => (h.2 q hq).1.lt
structure UV (ns : List Nd) : Prop where
 l1 : 1 <= ns.length
 l8 : ns.length <= 8
 root : ∀ h : 0 < ns.length, ns[0].par = -1 /\ ns[0].nm = ByteArray.empty
 par : ∀ (i : Nat) (h : i < ns.length), 0 < i -> ns[i].par = 0
 nam : ∀ (i : Nat) (h : i < ns.length), 0 < i -> IsN ns[i].nm
 dis : ∀ (i j : Nat) (hj : j < ns.length), 0 < i -> (hij : i < j) -> kN (ns[i]'(by omega)).nm ≠ kN ns[j].nm
 ps : ∀ n ∈ ns, PsV n.ps
def CY (ns : List Nd) : Prop := ∀ (i j : Nat) (hj : j < ns.length), 0 < i -> (hij : i < j) -> kN (ns[i]'(by omega)).nm < kN ns[j].nm
structure FV (ns : List Nd) : Prop extends UV ns where
 asc : CY ns
theorem UV.fG {ns : List Nd} (h : UV ns) {i : Nat} (hi : i < ns.length) : PsV ns[i].ps := h.ps _ (List.getElem_mem hi)
theorem FV.start (nl : Bool) : FV [⟨-1, ByteArray.empty, nl, []⟩] where
 l1 := by simp
 l8 := by simp
 root := fun _ => ⟨rfl, rfl⟩
 par := fun i h h0 => by simp at h; omega
 nam := fun i h h0 => by simp at h; omega
 dis := fun i j hj h0 hij => by simp at hj; omega
 ps := fun n hn => by simp at hn; subst hn; exact .nil
 asc := fun i j hj h0 hij => by simp at hj; omega
theorem FV.snoc {ns : List Nd} (h : FV ns) (h7 : ns.length <= 7) {n : Nd} (hp : n.par = 0) (hn : IsN n.nm) (hps : PsV n.ps) (hd : ∀ (i : Nat) (hi : i < ns.length), 0 < i -> ns[i].nm ≠ n.nm) : UV (ns ++ [n]) where
 l1 := by simp
 l8 := by simp; omega
 root := fun _ => by rw [List.getElem_append_left (by have := h.l1; omega)]; exact h.root _
 par := fun i hi h0 => by
  simp only [List.length_append, List.length_cons, List.length_nil] at hi
  rcases Nat.lt_or_ge i ns.length with hl | hl
  ·rw [List.getElem_append_left hl]; exact h.par i hl h0
  ·obtain rfl : i = ns.length := by omega
   simpa using hp
 nam := fun i hi h0 => by
  simp only [List.length_append, List.length_cons, List.length_nil] at hi
  rcases Nat.lt_or_ge i ns.length with hl | hl
  ·rw [List.getElem_append_left hl]; exact h.nam i hl h0
  ·obtain rfl : i = ns.length := by omega
   simpa using hn
 dis := fun i j hj h0 hij => by
  simp only [List.length_append, List.length_cons, List.length_nil] at hj
  rw [List.getElem_append_left (by omega)]
  rcases Nat.lt_or_ge j ns.length with hl | hl
  ·rw [List.getElem_append_left hl]; exact h.dis i j hl h0 hij
  ·obtain rfl : j = ns.length := by omega
   intro he
   refine hd i (by omega) h0 ((h.nam i (by omega) h0).inj hn ?_)
   simpa using he
 ps := fun m hm => by
  rcases List.mem_append.1 hm with hm | hm
  ·exact h.ps m hm
  ·simp at hm; subst hm; exact hps
theorem UV.upd {ns ms : List Nd} (h : UV ns) (hl : ms.length = ns.length) (hs : ∀ (i : Nat) (hi : i < ns.length), (ms[i]'(by omega)).par = ns[i].par /\ (ms[i]'(by omega)).nm = ns[i].nm) (hp : ∀ n ∈ ms, PsV n.ps) : UV ms where
 l1 := by have := h.l1; omega
 l8 := by have := h.l8; omega
 root := fun h0 => by rw [(hs 0 (by omega)).1, (hs 0 (by omega)).2]; exact h.root _
 par := fun i hi h0 => by rw [(hs i (by omega)).1]; exact h.par i (by omega) h0
 nam := fun i hi h0 => by rw [(hs i (by omega)).2]; exact h.nam i (by omega) h0
 dis := fun i j hj h0 hij => by rw [(hs i (by omega)).2, (hs j (by omega)).2]; exact h.dis i j (by omega) h0 hij
 ps := hp
theorem FV.upd {ns ms : List Nd} (h : FV ns) (hl : ms.length = ns.length) (hs : ∀ (i : Nat) (hi : i < ns.length), (ms[i]'(by omega)).par = ns[i].par /\ (ms[i]'(by omega)).nm = ns[i].nm) (hp : ∀ n ∈ ms, PsV n.ps) : FV ms where
 toUV := h.toUV.upd hl hs hp
 asc := fun i j hj h0 hij => by rw [(hs i (by omega)).2, (hs j (by omega)).2]; exact h.asc i j (by omega) h0 hij
def Nd.cp (n : Nd) : Nd := ⟨n.par, n.nm, false, n.ps⟩
theorem FV.copy {ns : List Nd} (h : FV ns) : FV (ns.map Nd.cp) := h.upd (by simp) (fun i hi => by simp [Nd.cp]) fun n hn => by
 obtain ⟨m, hm, rfl⟩ := List.mem_map.1 hn
 exact h.ps m hm
def gd (ns : List Nd) (a : Nat) : Nat := kN (ns.getD a default).nm
structure iu (ns : List Nd) (n : Nat) (cl : List Nat) : Prop where
 srt : cl.Pairwise fun a b => gd ns a < gd ns b
 prm : cl.Perm (List.range' 1 (n - 1))
theorem iu.nil (ns : List Nd) : iu ns 1 [] := ⟨.nil, .refl _⟩
theorem iu.mem {ns : List Nd} {n : Nat} {cl : List Nat} (h : iu ns n cl) {a : Nat} (ha : a ∈ cl) : 1 <= a /\ a < n := by
 have := h.prm.mem_iff.1 ha
 rw [List.mem_range'_1] at this
 omega
theorem iu.len {ns : List Nd} {n : Nat} {cl : List Nat} (h : iu ns n cl) : cl.length = n - 1 := by rw [h.prm.length_eq, List.length_range']
theorem fg {ns : List Nd} {a : Nat} (h : a < ns.length) : gd ns a = kN ns[a].nm := by
 rw [gd, List.getD_eq_getElem?_getD, List.getElem?_eq_getElem h]
 rfl
theorem iu.ins {ns : List Nd} (hv : UV ns) {n : Nat} {cl : List Nat} (h : iu ns n cl) (h1 : 1 <= n) (hn : n < ns.length) {k : Nat} (hk : k <= cl.length) (ha : ∀ (j : Nat) (hj : j < cl.length), j < k -> gd ns cl[j] <= gd ns n) (hb : ∀ hj : k < cl.length, ¬ gd ns cl[k] <= gd ns n) :
  iu ns (n + 1) (cl.take k ++ n :: cl.drop k) := by
 have hne : ∀ a ∈ cl, gd ns a ≠ gd ns n := fun a ha => by
  have := h.mem ha
  rw [fg hn, fg (by omega)]
  exact hv.dis a n hn (by omega) (by omega)
 have ha' : ∀ (j : Nat) (hj : j < cl.length), j < k -> gd ns cl[j] < gd ns n := fun j hj hjk => by
  have := ha j hj hjk
  have := hne _ (List.getElem_mem hj)
  omega
 have e : cl.take k ++ n :: cl.drop k = j9 (gd ns) cl n := by
  rw [vN h.srt hk ha' fun h1 h2 => hb h1 (Nat.le_of_lt h2)]
  split
  ·rename_i hlt
   rw [if_neg (hne _ (List.getElem_mem hlt))]
  ·rw [List.drop_eq_nil_of_le (by omega)]
 refine ⟨by rw [e]; exact p9 h.srt, ?_⟩
 refine List.perm_middle.trans ?_
 rw [List.take_append_drop]
 refine (h.prm.cons n).trans ?_
 have h3 : List.range' 1 (n + 1 - 1) = List.range' 1 (n - 1) ++ [n] := by
  obtain ⟨m, rfl⟩ := Nat.exists_eq_add_of_le h1
  rw [show 1 + m + 1 - 1 = m + 1 by omega, show 1 + m - 1 = m by omega, List.range'_concat]
  simp
 rw [h3]
 exact (List.perm_append_singleton n _).symm
theorem zR {cl : List Nat} (hs : cl.Pairwise (· < ·)) (h1 : ∀ a ∈ cl, 1 <= a) : ∀ (i : Nat) (h : i < cl.length), i + 1 <= cl[i]
 | 0, h => h1 _ (List.getElem_mem h)
 | i + 1, h => by
  have := zR hs h1 i (by omega)
  have := List.pairwise_iff_getElem.1 hs i (i + 1) (by omega) h (by omega)
  omega
theorem zS {cl : List Nat} (hs : cl.Pairwise (· < ·)) (h1 : ∀ a ∈ cl, a <= cl.length) : ∀ (d i : Nat) (h : i < cl.length), i + d + 1 = cl.length -> cl[i] + d <= cl.length
 | 0, i, h, _ => h1 _ (List.getElem_mem h)
 | d + 1, i, h, e => by
  have := zS hs h1 d (i + 1) (by omega) (by omega)
  have := List.pairwise_iff_getElem.1 hs i (i + 1) h (by omega) (by omega)
  omega
theorem iu.id {ns : List Nd} (hv : CY ns) {cl : List Nat} (h : iu ns ns.length cl) (i : Nat) (hi : i < cl.length) : cl[i] = i + 1 := by
 have hs : cl.Pairwise (· < ·) := by
  refine List.Pairwise.imp_of_mem (fun {a b} ha hb hab => ?_) h.srt
  rcases Nat.lt_or_ge a b with h1 | h1
  ·exact h1
  ·have h2 := h.mem ha
   have h3 := h.mem hb
   rw [fg h2.2, fg h3.2] at hab
   rcases Nat.lt_or_ge b a with h4 | h4
   ·have := hv b a h2.2 (by omega) h4
    omega
   ·obtain rfl : a = b := by omega
    omega
 have h4 := h.len
 have h5 := zR hs (fun a ha => (h.mem ha).1) i hi
 have h6 := zS hs (fun a ha => by have := h.mem ha; omega) (cl.length - i - 1) i hi (by omega)
 omega
theorem iu.sorted {ns : List Nd} (hv : UV ns) {cl : List Nat} (h : iu ns ns.length cl) {ms : List Nd} (hl : ms.length = cl.length + 1) (h0 : ∀ h1 : 0 < ms.length, ms[0] = ns.getD 0 default)
  (hm : ∀ (i : Nat) (hi : i < cl.length), ms[i + 1]'(by omega) = ns.getD cl[i] default) : FV ms := by
 have hlen := h.len
 have l1 := hv.l1
 have l8 := hv.l8
 have hc : ∀ (i : Nat) (hi : i < cl.length), 1 <= cl[i] /\ cl[i] < ns.length := fun i hi => h.mem (List.getElem_mem hi)
 have hm' : ∀ (i : Nat) (hi : i < ms.length), 0 < i -> ∃ (a : Nat) (_ : 1 <= a) (hl : a < ns.length) (hi' : i - 1 < cl.length), a = cl[i - 1] /\ ms[i] = ns[a] := fun i hi hi0 => by
  obtain ⟨j, rfl⟩ : ∃ j, i = j + 1 := ⟨i - 1, by omega⟩
  have hj : j < cl.length := by omega
  have h3 := hc j hj
  refine ⟨cl[j], h3.1, h3.2, by omega, rfl, ?_⟩
  rw [hm j hj, List.getD_eq_getElem?_getD, List.getElem?_eq_getElem h3.2]
  rfl
 have h0' : ∀ h1 : 0 < ms.length, ms[0] = ns[0] := fun h1 => by
  rw [h0 h1, List.getD_eq_getElem?_getD, List.getElem?_eq_getElem (by omega)]
  rfl
 have asc : CY ms := fun i j hj hi0 hij => by
  obtain ⟨a, ha1, ha2, ha3, ha4, ha5⟩ := hm' i (by omega) hi0
  obtain ⟨b, hb1, hb2, hb3, hb4, hb5⟩ := hm' j hj (by omega)
  rw [ha5, hb5]
  have := List.pairwise_iff_getElem.1 h.srt (i - 1) (j - 1) ha3 hb3 (by omega)
  rw [<- ha4, <- hb4, fg ha2, fg hb2] at this
  exact this
 refine { l1 := by omega, l8 := by omega, root := fun h1 => by rw [h0' h1]; exact hv.root _, par := fun i hi hi0 => ?_, nam := fun i hi hi0 => ?_, dis := fun i j hj hi0 hij => Nat.ne_of_lt (asc i j hj hi0 hij), ps := fun n hn => ?_, asc := asc }
 ·obtain ⟨a, ha1, ha2, ha3, ha4, ha5⟩ := hm' i hi hi0
  rw [ha5]
  exact hv.par a ha2 (by omega)
 ·obtain ⟨a, ha1, ha2, ha3, ha4, ha5⟩ := hm' i hi hi0
  rw [ha5]
  exact hv.nam a ha2 (by omega)
 ·obtain ⟨i, hi, rfl⟩ := List.getElem_of_mem hn
  rcases Nat.eq_zero_or_pos i with rfl | hi0
  ·rw [h0' hi]
   exact hv.fG _
  ·obtain ⟨a, ha1, ha2, ha3, ha4, ha5⟩ := hm' i hi hi0
   rw [ha5]
   exact hv.fG _
def pU8 (n : Int) : PV := .v (.int .u8 n)
theorem ia {P : Prop} (h : P := by
 (first | ((first | apply bx.snoc (f := pU8) (a := _) rfl | apply bx.one (f := pU8) (a := _) rfl); exact ar_) | apply IsL.set (f := pU8) (a := _) rfl | apply IsL.rep (f := pU8) (a := _) rfl | apply IsL.lit (f := pU8) [] rfl | apply IsL.lit (f := pU8) [_] rfl | apply IsL.lit (f := pU8) [_, _] rfl | apply IsL.lit (f := pU8) [_, _, _] rfl) <;> (solve_by_elim (newGoals := .nonDependentOnly) -symm -exfalso (transparency := .reducible) only [rfl, aC])) : P := h
def pN (n : Nat) : PV := pI n
theorem gpN {P : Prop} (h : P := by
 (first | ((first | apply bx.snoc (f := pN) (a := _) rfl | apply bx.one (f := pN) (a := _) rfl); exact ar_) | apply IsL.set (f := pN) (a := _) rfl | apply IsL.rep (f := pN) (a := _) rfl | apply IsL.lit (f := pN) [] rfl | apply IsL.lit (f := pN) [_] rfl | apply IsL.lit (f := pN) [_, _] rfl | apply IsL.lit (f := pN) [_, _, _] rfl) <;> (solve_by_elim (newGoals := .nonDependentOnly) -symm -exfalso (transparency := .reducible) only [rfl, aC])) : P := h
theorem y350f {P : Prop} (h : P := by
 ((conv => whnf); repeat' ((first | apply aB.plain | refine' gC | refine' gpN | refine' gpI | refine' gpB | refine' ia | refine' gE | (apply ax.quiet (by kernel_rfl) (by kernel_rfl); (conv => whnf); fail_if_success (show False))) <;> (conv => whnf))) <;> (solve_by_elim (newGoals := .nonDependentOnly) -symm -exfalso (transparency := .reducible) only [rfl, aC])) : P := h
theorem tX (nl : Bool) (ts : List Int) (i : Nat) (h : i <= ts.length) (n : Nat) (hn : n <= 1000) :
  ao Tryz.prog 20 [.ptr 0 0, .p (pI n)] (src nl ts i) fun r H => ∃ (ns : List Nat) (nl2 : Bool) (i' : Nat), ns.Perm (List.range n) /\ i' <= ts.length /\ r = .p (.list nl2 (ns.map pN)) /\ H = src nl ts i' := by
 refine aa Tryz.func20 rfl rfl au rfl ?_
 refine' y350f
 refine ai (fun (⟨c, ns, nl2, i2⟩ : Nat × List Nat × Bool × Nat) => ⟨[(0, .ptr 0 0), (1, .p (pI n)), (5, .p (.list nl2 (ns.map pN))), (6, .p (pI c))], src nl ts i2⟩) (fun ⟨c, ns, nl2, i2⟩ => c <= n /\ i2 <= ts.length /\ ns.Perm (List.range c)) (fun ⟨c, ns, nl2, i2⟩ => n - c) (0, [], true, i) ?_ ?_ ?_; (refine aq.auto rfl rfl rfl rfl ?_ ?_ <;> refine' aj)
 ·exact ⟨by omega, h, .refl _⟩
 rintro ⟨c, ns, nl2, i2⟩ ⟨hc, hi2, hp⟩
 try simp only at hc hi2 hp
 have hl : ns.length = c := by rw [hp.length_eq, List.length_range]
 refine' y350f
 ·refine ab.loc [0] [] rfl rfl ((dU nl ts i2 hi2 _ (by omega)).mono ?_)
  rintro r H ⟨v, i', hv, hv2, hi', rfl, rfl⟩
  refine' y350f
  refine IsL.mk ((ns.take v.toNat).map pN) (by simp [List.map_take]) ?_
  refine' y350f
  (refine' ⟨(c + 1, ns.take v.toNat ++ ([c] ++ ns.drop v.toNat), _, i'), _, _, _⟩; rotate_right; (refine aq.ez _ [3] [5] ?_; refine aq.auto rfl rfl rfl rfl ?_ ?_ <;> refine' aj); rotate_right; exact aw)
  refine ⟨by omega, hi', ?_⟩
  refine List.perm_middle.trans ?_
  show (c :: (ns.take v.toNat ++ ns.drop v.toNat)).Perm _
  rw [List.take_append_drop, List.range_succ]
  exact (hp.cons c).trans (List.perm_append_singleton c _).symm
 ·(refine' ay.auto (.p (.list nl2 (ns.map pN))) (src nl ts i2) rfl rfl rfl rfl _ _ _ <;> refine' aj)
  obtain rfl : c = n := by omega
  exact ⟨ns, nl2, i2, hp, hi2, rfl, rfl⟩
theorem iM (ns : List Int) : (c_ ns).size = ns.length := by
 have key : ∀ (ns : List Int) (r : ByteArray), (ns.foldl (fun r n => r.push (UInt8.ofNat n.toNat)) r).size = r.size + ns.length := by
  intro ns
  induction ns with
  | nil => intro r; simp
  | cons n ns ih =>
   intro r
   rw [List.foldl_cons, ih, List.length_cons, ByteArray.size_push]
   omega
 have := key ns ByteArray.empty
 rw [c_, this]
 simp
theorem z350f {P : Prop} (h : P := by
 ((first | apply aB.plain | refine' gC | refine' gpN | refine' gpI | refine' gpB | refine' ia | refine' gE | (apply ax.quiet (by kernel_rfl) (by kernel_rfl); (conv => whnf); fail_if_success (show False))) <;> (conv => whnf)) <;> (solve_by_elim (newGoals := .nonDependentOnly) -symm -exfalso (transparency := .reducible) only [rfl, aC])) : P := h
theorem bY (nl : Bool) (xs : List Int) (h : xs.length <= 100) : ao Tryz.prog 24 [.p (.list nl (xs.map pI))] [] fun r H => ∃ s : ByteArray, s.size = 4 * xs.length /\ r = .p (pS s) /\ H = [] := by
 refine aa Tryz.func24 rfl rfl au rfl ?_
 refine' y350f
 refine ai (fun (⟨c, bs, nb⟩ : Nat × List Int × Bool) => ⟨[(3, .buf 0), (6, .p (.list nl (xs.map pI))), (7, .p (pI xs.length)), (8, .p (pI c))], [some (AO.buf 5 nb (bs.map pU8))]⟩) (fun ⟨c, bs, nb⟩ => c <= xs.length /\ bs.length = 4 * c) (fun ⟨c, bs, nb⟩ => xs.length - c) (0, [], true) ?_ ?_ ?_; (refine aq.kM (5, 3) rfl rfl rfl rfl rfl ?_ ?_ <;> refine' aj)
 ·exact ⟨by omega, by simp⟩
 rintro ⟨c, bs, nb⟩ ⟨hc, hl⟩
 try simp only at hc hl
 (conv => whnf); repeat' ((first | (refine NW.mk (kd := .u8) _ rfl ?_) | refine' z350f | (apply IsL.lit (f := pU8) [_, _, _, _] rfl)) <;> (conv => whnf))
 ·(refine' ⟨(c + 1, _, _), _, _, _⟩; rotate_right; (refine aq.auto rfl rfl rfl rfl ?_ ?_ <;> refine' aj); rotate_right; exact aw)
  exact ⟨by omega, by simp; omega⟩
 ·refine eU.mk bs rfl ?_
  refine' y350f
  (refine ay.p ?_ <;> refine' aj; all_goals try first | refine Et ?_ | refine Dq ?_)
  exact ⟨c_ bs, by rw [iM]; omega, rfl, rfl⟩
theorem qi (k : Nat) (hk : k < 7) : ao Tryz.prog 22 [.p (pI k)] [] fun r H => r = .p (pS (vn k)) /\ H = [] := by
 refine aa Tryz.func22 rfl rfl au rfl ?_
 refine' y350f
 refine eU.mk [97 + (k : Int)] rfl ?_
 refine' y350f
 refine BA.mk (by rw [iM]; exact (by decide : 1 + 1 <= 9223372036854775807)) ?_
 refine' y350f
 refine ay.p ⟨?_, rfl⟩
 match k, hk with
 | 0, _ => rfl
 | 1, _ => rfl
 | 2, _ => rfl
 | 3, _ => rfl
 | 4, _ => rfl
 | 5, _ => rfl
 | 6, _ => rfl
 | k + 7, h => exact absurd h (by omega)
def mdN (f : FuncId) : Nat := 2
theorem zw : ∀ k, k < 7 -> (bk Tryz.prog ti xf 10000 mdN [] 30).1 64 [.p (pS (vn k))] = some (.p (pB true))
 | 0, _ => by kernel_rfl
 | 1, _ => by kernel_rfl
 | 2, _ => by kernel_rfl
 | 3, _ => by kernel_rfl
 | 4, _ => by kernel_rfl
 | 5, _ => by kernel_rfl
 | 6, _ => by kernel_rfl
 | k + 7, h => absurd h (by omega)
theorem zv : ∀ k, k < 7 -> (bk Tryz.prog ti xf 10000 mdN [] 30).1 124 [.p (pS (pn k))] = some (.p (pB true))
 | 0, _ => by kernel_rfl
 | 1, _ => by kernel_rfl
 | 2, _ => by kernel_rfl
 | 3, _ => by kernel_rfl
 | 4, _ => by kernel_rfl
 | 5, _ => by kernel_rfl
 | 6, _ => by kernel_rfl
 | k + 7, h => absurd h (by omega)
theorem zd : ∀ k, k < 7 -> (bk Tryz.prog ti xf 10000 mdN [] 30).1 128 [.p (pS (vn k))] = some (.p (pB true))
 | 0, _ => by kernel_rfl
 | 1, _ => by kernel_rfl
 | 2, _ => by kernel_rfl
 | 3, _ => by kernel_rfl
 | 4, _ => by kernel_rfl
 | 5, _ => by kernel_rfl
 | 6, _ => by kernel_rfl
 | k + 7, h => absurd h (by omega)
theorem zc : ∀ k, k < 7 -> (bk Tryz.prog ti xf 10000 mdN [] 30).1 129 [.p (pS (pn k))] = some (.p (pB true))
 | 0, _ => by kernel_rfl
 | 1, _ => by kernel_rfl
 | 2, _ => by kernel_rfl
 | 3, _ => by kernel_rfl
 | 4, _ => by kernel_rfl
 | 5, _ => by kernel_rfl
 | 6, _ => by kernel_rfl
 | k + 7, h => absurd h (by omega)
theorem nJ {s : ByteArray} (h : IsN s) : ao Tryz.prog 64 [.p (pS s)] [] fun r H => r = .p (pB true) /\ H = [] := by
 obtain ⟨k, hk, rfl⟩ := h
 exact cd au mixed fD cg 30 (zw k hk)
theorem jt {s : ByteArray} (h : IsP s) : ao Tryz.prog 124 [.p (pS s)] [] fun r H => r = .p (pB true) /\ H = [] := by
 obtain ⟨k, hk, rfl⟩ := h
 exact cd au mixed fD cg 30 (zv k hk)
theorem uq {s : ByteArray} (h : IsN s) : ao Tryz.prog 128 [.p (pS s)] [] fun r H => r = .p (pB true) /\ H = [] := by
 obtain ⟨k, hk, rfl⟩ := h
 exact cd au mixed fD cg 30 (zd k hk)
theorem m_ {s : ByteArray} (h : IsP s) : ao Tryz.prog 129 [.p (pS s)] [] fun r H => r = .p (pB true) /\ H = [] := by
 obtain ⟨k, hk, rfl⟩ := h
 exact cd au mixed fD cg 30 (zc k hk)
theorem bj {P : Prop} (h : P := by
 (first | ((first | apply bx.snoc (f := Nd.pv) (a := _) rfl | apply bx.one (f := Nd.pv) (a := _) rfl | (apply bx.snoc (f := Nd.pv) (a := ⟨_, _, _, _⟩); dsimp only [Nd.pv]; exact rfl) | (apply bx.one (f := Nd.pv) (a := ⟨_, _, _, _⟩); dsimp only [Nd.pv]; exact rfl)); exact ar_) | apply IsL.set (f := Nd.pv) (a := _) rfl | apply IsL.rep (f := Nd.pv) (a := _) rfl | (apply IsL.set (f := Nd.pv) (a := ⟨_, _, _, _⟩); dsimp only [Nd.pv]; exact rfl) | (apply IsL.rep (f := Nd.pv) (a := ⟨_, _, _, _⟩); dsimp only [Nd.pv]; exact rfl) | apply IsL.lit (f := Nd.pv) [] rfl | apply IsL.lit (f := Nd.pv) [_] rfl | apply IsL.lit (f := Nd.pv) [_, _] rfl | apply IsL.lit (f := Nd.pv) [_, _, _] rfl | apply IsL.lit (f := Nd.pv) [] rfl | apply IsL.lit (f := Nd.pv) [⟨_, _, _, _⟩] rfl | apply IsL.lit (f := Nd.pv) [⟨_, _, _, _⟩, ⟨_, _, _, _⟩] rfl | apply IsL.lit (f := Nd.pv) [⟨_, _, _, _⟩, ⟨_, _, _, _⟩, ⟨_, _, _, _⟩] rfl) <;> (solve_by_elim (newGoals := .nonDependentOnly) -symm -exfalso (transparency := .reducible) only [rfl, aC])) : P := h
theorem bh {P : Prop} (h : P := by
 (first | ((first | apply bx.snoc (f := Pr.pv) (a := _) rfl | apply bx.one (f := Pr.pv) (a := _) rfl | (apply bx.snoc (f := Pr.pv) (a := ⟨_, _⟩); dsimp only [Pr.pv]; exact rfl) | (apply bx.one (f := Pr.pv) (a := ⟨_, _⟩); dsimp only [Pr.pv]; exact rfl)); exact ar_) | apply IsL.set (f := Pr.pv) (a := _) rfl | apply IsL.rep (f := Pr.pv) (a := _) rfl | (apply IsL.set (f := Pr.pv) (a := ⟨_, _⟩); dsimp only [Pr.pv]; exact rfl) | (apply IsL.rep (f := Pr.pv) (a := ⟨_, _⟩); dsimp only [Pr.pv]; exact rfl) | apply IsL.lit (f := Pr.pv) [] rfl | apply IsL.lit (f := Pr.pv) [_] rfl | apply IsL.lit (f := Pr.pv) [_, _] rfl | apply IsL.lit (f := Pr.pv) [_, _, _] rfl | apply IsL.lit (f := Pr.pv) [] rfl | apply IsL.lit (f := Pr.pv) [⟨_, _⟩] rfl | apply IsL.lit (f := Pr.pv) [⟨_, _⟩, ⟨_, _⟩] rfl | apply IsL.lit (f := Pr.pv) [⟨_, _⟩, ⟨_, _⟩, ⟨_, _⟩] rfl) <;> (solve_by_elim (newGoals := .nonDependentOnly) -symm -exfalso (transparency := .reducible) only [rfl, aC])) : P := h
theorem y1f13 {P : Prop} (h : P := by
 ((conv => whnf); repeat' ((first | apply aB.plain | refine' gC | refine' gpI | refine' gpB | refine' gpN | refine' bh | refine' bj | refine' gE | (apply ax.quiet (by kernel_rfl) (by kernel_rfl); (conv => whnf); fail_if_success (show False))) <;> (conv => whnf))) <;> (solve_by_elim (newGoals := .nonDependentOnly) -symm -exfalso (transparency := .reducible) only [rfl, aC])) : P := h
theorem j6 (nl : Bool) (ns : List Nd) (h1 : 1 <= ns.length /\ ns.length <= 8) (h : ∀ n ∈ ns, PsV n.ps) : ao Tryz.prog 126 [.p (.agg [.list nl (ns.map Nd.pv)])] [] fun r H => r = .p (pB false) /\ H = [] := by
 refine aa Tryz.func126 rfl rfl au rfl ?_
 refine' y1f13
 refine ai (fun (c : Nat) => ⟨[(18, .p (.list nl (ns.map Nd.pv))), (19, .p (pI ns.length)), (20, .p (pI c))], []⟩) (fun c => c <= ns.length) (fun c => ns.length - c) 0 ?_ ?_ ?_; (refine aq.auto rfl rfl rfl rfl ?_ ?_ <;> refine' aj)
 ·omega
 rintro c hc
 rcases Nat.lt_or_ge c ns.length with hlt | hge
 ·have hp := h _ (List.getElem_mem hlt)
  have h7 := hp.len
  refine' y1f13
  refine ai (fun (d : Nat) => ⟨[(18, .p (.list nl (ns.map Nd.pv))), (19, .p (pI ns.length)), (20, .p (pI c)), (29, .p (.list ns[c].nl (ns[c].ps.map Pr.pv))), (30, .p (pI ns[c].ps.length)), (31, .p (pI d))], []⟩) (fun d => d <= ns[c].ps.length) (fun d => ns[c].ps.length - d) 0 ?_ ?_ ?_; (refine aq.auto rfl rfl rfl rfl ?_ ?_ <;> refine' aj)
  ·omega
  rintro d hd
  rcases Nat.lt_or_ge d ns[c].ps.length with hlt2 | hge2
  ·have h20 := (hp.2 _ (List.getElem_mem hlt2)).2.1
   refine' y1f13
   (refine' ⟨d + 1, _, _, _⟩; rotate_right; (refine aq.auto rfl rfl rfl rfl ?_ ?_ <;> refine' aj); rotate_right; exact aw)
   omega
  ·refine' y1f13
   (refine' ⟨c + 1, _, _, _⟩; rotate_right; (refine aq.auto rfl rfl rfl rfl ?_ ?_ <;> refine' aj); rotate_right; exact aw)
   omega
 ·refine' y1f13
  (refine ay.p ?_ <;> refine' aj; all_goals try first | refine Et ?_ | refine Dq ?_)
theorem z1f13 {P : Prop} (h : P := by
 ((first | apply aB.plain | refine' gC | refine' gpI | refine' gpB | refine' gpN | refine' bh | refine' bj | refine' gE | (apply ax.quiet (by kernel_rfl) (by kernel_rfl); (conv => whnf); fail_if_success (show False))) <;> (conv => whnf)) <;> (solve_by_elim (newGoals := .nonDependentOnly) -symm -exfalso (transparency := .reducible) only [rfl, aC])) : P := h
theorem sV (nl : Bool) (ns : List Nd) (h : UV ns) : ao Tryz.prog 161 [.p (.agg [.list nl (ns.map Nd.pv)])] [] fun r H => r = .p (pB true) /\ H = [] := by
 refine aa Tryz.func161 rfl rfl au rfl ?_
 have h1 := h.l1
 have h8 := h.l8
 refine' y1f13
 refine ai (fun (c : Nat) => ⟨[(8, .p (.list nl (ns.map Nd.pv))), (9, .p (pI ns.length)), (10, .p (pI c))], []⟩) (fun c => c <= ns.length) (fun c => ns.length - c) 0 ?_ ?_ ?_; (refine aq.auto rfl rfl rfl rfl ?_ ?_ <;> refine' aj)
 ·omega
 rintro c hc
 rcases Nat.lt_or_ge c ns.length with hlt | hge
 rotate_left
 ·refine' y1f13
  (refine ay.p ?_ <;> refine' aj; all_goals try first | refine Et ?_ | refine Dq ?_)
 have hp := h.fG hlt
 have h7 := hp.len
 have hpn : ∀ (d : Nat) (hd : d < ns[c].ps.length), IsP (ns[c].ps[d]).1 := fun d hd => (hp.2 _ (List.getElem_mem hd)).1
 rcases Nat.eq_zero_or_pos c with hz | hz
 ·subst hz
  have e1 := (h.root hlt).1
  have e2 : (ns[0].nm.toList == (⟨#[]⟩ : ByteArray).toList) = true := by rw [(h.root hlt).2, mn]; rfl
  refine' y1f13
  refine ai (fun (d : Nat) => ⟨[(8, .p (.list nl (ns.map Nd.pv))), (9, .p (pI ns.length)), (10, .p (pI (0 : Nat))), (49, .p (.list ns[0].nl (ns[0].ps.map Pr.pv))), (50, .p (pI ns[0].ps.length)), (51, .p (pI d))], []⟩) (fun d => d <= ns[0].ps.length) (fun d => ns[0].ps.length - d) 0 ?_ ?_ ?_; (refine aq.auto rfl rfl rfl rfl ?_ ?_ <;> refine' aj)
  ·omega
  rintro d hd
  rcases Nat.lt_or_ge d ns[0].ps.length with hlt2 | hge2
  ·(conv => whnf); repeat' ((first | refine' z1f13 | (refine ab.scalar (jt (hpn d hlt2)) ?_)) <;> (conv => whnf))
   (refine' ⟨d + 1, _, _, _⟩; rotate_right; (refine aq.auto rfl rfl rfl rfl ?_ ?_ <;> refine' aj); rotate_right; exact aw)
   omega
  ·refine' y1f13
   (refine' ⟨0 + 1, _, _, _⟩; rotate_right; (refine aq.auto rfl rfl rfl rfl ?_ ?_ <;> refine' aj); rotate_right; exact aw)
   omega
 ·have e1 := h.par c hlt hz
  have e2 := h.nam c hlt hz
  (conv => whnf); repeat' ((first | refine' z1f13 | (refine ab.scalar (nJ e2) ?_)) <;> (conv => whnf))
  refine ai (fun (d : Nat) => ⟨[(8, .p (.list nl (ns.map Nd.pv))), (9, .p (pI ns.length)), (10, .p (pI c)), (49, .p (.list ns[c].nl (ns[c].ps.map Pr.pv))), (50, .p (pI ns[c].ps.length)), (51, .p (pI d))], []⟩) (fun d => d <= ns[c].ps.length) (fun d => ns[c].ps.length - d) 0 ?_ ?_ ?_; (refine aq.auto rfl rfl rfl rfl ?_ ?_ <;> refine' aj)
  ·omega
  rintro d hd
  rcases Nat.lt_or_ge d ns[c].ps.length with hlt2 | hge2
  ·(conv => whnf); repeat' ((first | refine' z1f13 | (refine ab.scalar (jt (hpn d hlt2)) ?_)) <;> (conv => whnf))
   (refine' ⟨d + 1, _, _, _⟩; rotate_right; (refine aq.auto rfl rfl rfl rfl ?_ ?_ <;> refine' aj); rotate_right; exact aw)
   omega
  ·refine' y1f13
   (refine' ⟨c + 1, _, _, _⟩; rotate_right; (refine aq.auto rfl rfl rfl rfl ?_ ?_ <;> refine' aj); rotate_right; exact aw)
   omega
theorem l6 (nl : Bool) (ns : List Nd) (h : UV ns) (k : Nat) (hk : k < ns.length) : ao Tryz.prog 65 [.p (.agg [.list nl (ns.map Nd.pv)]), .p (pI k)] [] fun r H => ∃ v : Int, 0 <= v /\ v <= 1 /\ r = .p (pI v) /\ H = [] := by
 refine aa Tryz.func65 rfl rfl au rfl ?_
 have h1 := h.l1
 rcases Nat.eq_zero_or_pos k with hz | hz
 ·subst hz
  (conv => whnf); repeat' ((first | refine' z1f13 | (apply cw.fu)) <;> (conv => whnf))
  (refine' ay.auto (.p (pI 0)) ([]) rfl rfl rfl rfl _ _ _ <;> refine' aj)
  exact ⟨0, by omega, by omega, rfl, rfl⟩
 ·have e1 := h.par k hk hz
  (conv => whnf); repeat' ((first | refine' z1f13 | (apply cw.fu)) <;> (conv => whnf))
  (refine' ay.auto (.p (pI 1)) ([]) rfl rfl rfl rfl _ _ _ <;> refine' aj)
  exact ⟨1, by omega, by omega, rfl, rfl⟩
theorem ye6a6 {P : Prop} (h : P := by
 ((conv => whnf); repeat' ((first | apply aB.plain | refine' gC | refine' gpN | refine' gpI | refine' gpB | refine' bh | refine' bj | refine' gE | (apply ax.quiet (by kernel_rfl) (by kernel_rfl); (conv => whnf); fail_if_success (show False))) <;> (conv => whnf))) <;> (solve_by_elim (newGoals := .nonDependentOnly) -symm -exfalso (transparency := .reducible) only [rfl, aC])) : P := h
theorem ze6a6 {P : Prop} (h : P := by
 ((first | apply aB.plain | refine' gC | refine' gpN | refine' gpI | refine' gpB | refine' bh | refine' bj | refine' gE | (apply ax.quiet (by kernel_rfl) (by kernel_rfl); (conv => whnf); fail_if_success (show False))) <;> (conv => whnf)) <;> (solve_by_elim (newGoals := .nonDependentOnly) -symm -exfalso (transparency := .reducible) only [rfl, aC])) : P := h
theorem uy (nl : Bool) (ns : List Nd) (h : UV ns) (a : Nat) (h0 : 0 < a) (ha : a < ns.length) : ao Tryz.prog 123 [.p (.agg [.list nl (ns.map Nd.pv)]), .p (pN a)] [] fun r H => r = .p (.list false ([a].map pN)) /\ H = [] := by
 refine aa Tryz.func123 rfl rfl au rfl ?_
 refine' ye6a6
 refine ai (fun (c : Nat) => ⟨[(1, .p (pN a)), (2, .ptr 0 0), (5, .buf 1), (6, .p (.list true [])), (16, .p (.list nl (ns.map Nd.pv))), (17, .p (pI ns.length)), (18, .p (pI c))], [some (AO.cells [.p (.list nl (ns.map Nd.pv))]), some (AO.buf 3 false ([a].map pN))]⟩) (fun c => c <= ns.length) (fun c => ns.length - c) 0 ?_ ?_ ?_; (refine aq.auto rfl rfl rfl rfl ?_ ?_ <;> refine' aj)
 ·omega
 rintro c hc
 rcases Nat.lt_or_ge c ns.length with hlt | hge
 ·have e1 : ns[c].par ≠ a := by
   rcases Nat.eq_zero_or_pos c with hz | hz
   ·subst hz
    have := (h.root hlt).1
    omega
   ·have := h.par c hlt hz
    omega
  refine' ye6a6
  (refine' ⟨c + 1, _, _, _⟩; rotate_right; (refine aq.auto rfl rfl rfl rfl ?_ ?_ <;> refine' aj); rotate_right; exact aw)
  omega
 ·(conv => whnf); repeat' ((first | refine' ze6a6 | (refine cq.lit 0 rfl ?_) | (apply cw.fu)) <;> (conv => whnf))
  (refine ay.frz _ _ _ [1] ?_; refine' ay.auto (.p (.list false ([a].map pN))) ([]) rfl rfl rfl rfl _ _ _ <;> refine' aj)
theorem nF (nl : Bool) (ns : List Nd) (h : UV ns) : ao Tryz.prog 123 [.p (.agg [.list nl (ns.map Nd.pv)]), .p (pI 0)] [] fun r H => ∃ cl, iu ns ns.length cl /\ r = .p (.list false ((0 :: cl).map pN)) /\ H = [] := by
 refine aa Tryz.func123 rfl rfl au rfl ?_
 have hl1 := h.l1
 have hl8 := h.l8
 refine' ye6a6
 refine ai (fun (⟨c, cl, nc⟩ : Nat × List Nat × Bool) => ⟨[(1, .p (pI 0)), (2, .ptr 0 0), (5, .buf 1), (6, .p (.list nc (cl.map pN))), (16, .p (.list nl (ns.map Nd.pv))), (17, .p (pI ns.length)), (18, .p (pI c))], [some (AO.cells [.p (.list nl (ns.map Nd.pv))]), some (AO.buf 3 false ([0].map pN))]⟩) (fun ⟨c, cl, nc⟩ => c <= ns.length /\ iu ns c cl) (fun ⟨c, cl, nc⟩ => ns.length - c) (0, [], true) ?_ ?_ ?_; (refine aq.auto rfl rfl rfl rfl ?_ ?_ <;> refine' aj)
 ·exact ⟨by omega, ⟨.nil, .refl _⟩⟩
 rintro ⟨c, cl, nc⟩ ⟨hc, hw⟩
 try simp only at hc hw
 have hwl := hw.len
 rcases Nat.lt_or_ge c ns.length with hlt | hge
 ·rcases Nat.eq_zero_or_pos c with hz | hz
  ·subst hz
   have e1 := (h.root hlt).1
   refine' ye6a6
   (refine' ⟨(0 + 1, cl, nc), _, _, _⟩; rotate_right; (refine aq.auto rfl rfl rfl rfl ?_ ?_ <;> refine' aj); rotate_right; exact aw)
   refine ⟨by omega, ?_⟩
   obtain rfl : cl = [] := List.eq_nil_of_length_eq_zero hwl
   exact iu.nil ns
  ·have e1 := h.par c hlt hz
   refine' ye6a6
   refine ai (fun (k : Nat) => ⟨[(1, .p (pI 0)), (2, .ptr 0 0), (5, .buf 1), (6, .p (.list nc (cl.map pN))), (7, .p (pI c)), (8, .ptr 2 0), (9, .p (pI k)), (16, .p (.list nl (ns.map Nd.pv))), (17, .p (pI ns.length)), (18, .p (pI c))], [some (AO.cells [.p (.list nl (ns.map Nd.pv))]), some (AO.buf 3 false ([0].map pN)), some (AO.cells [.p (pI ns[c].par), .p (pS ns[c].nm), .p (.list ns[c].nl (ns[c].ps.map Pr.pv))])]⟩) (fun k => k <= cl.length /\ ∀ (j : Nat) (hj : j < cl.length), j < k -> gd ns cl[j] <= gd ns c) (fun k => cl.length - k) 0 ?_ ?_ ?_; (refine aq.auto rfl rfl rfl rfl ?_ ?_ <;> refine' aj)
   ·exact ⟨by omega, fun j _ hj => absurd hj (by omega)⟩
   rintro k ⟨hk, hks⟩
   have hfin : (∀ hj : k < cl.length, ¬ gd ns cl[k] <= gd ns c) -> iu ns (c + 1) (cl.take k ++ c :: cl.drop k) := fun hb => hw.ins h hz hlt hk hks hb
   rcases Nat.lt_or_ge k cl.length with hkl | hkg
   ·have ha := hw.mem (List.getElem_mem hkl)
    have ha2 : cl[k] < ns.length := by omega
    have hcmp : (Op.bytesLess ns[cl[k]].nm.toList ns[c].nm.toList || ns[cl[k]].nm.toList == ns[c].nm.toList) = decide (gd ns cl[k] <= gd ns c) := by
     rw [(h.nam _ ha2 (by omega)).less (h.nam c hlt hz), (h.nam _ ha2 (by omega)).eq (h.nam c hlt hz), fg ha2, fg hlt, Bool.eq_iff_iff]
     simp
     omega
    refine' ye6a6
    ·(refine' ⟨k + 1, _, _, _⟩; rotate_right; (refine aq.auto rfl rfl rfl rfl ?_ ?_ <;> refine' aj); rotate_right; exact aw)
     rw [hcmp, decide_eq_true_eq] at h0
     exact ⟨by omega, Go.Abs.all_succ hks fun _ => h0⟩
    ·rw [hcmp, decide_eq_false_iff_not] at h0
     have hfin := hfin fun _ => h0
     refine IsL.mk ((cl.take k).map pN) (by simp [List.map_take]) ?_
     refine' ye6a6
     (refine' ⟨(c + 1, cl.take k ++ ([c] ++ cl.drop k), _), _, _, _⟩; rotate_right; (refine aq.ez _ [5] [6] ?_; refine aq.auto rfl rfl rfl rfl ?_ ?_ <;> refine' aj); rotate_right; exact aw)
     exact ⟨by omega, hfin⟩
   ·have hfin := hfin fun hj => absurd hj (by omega)
    refine' ye6a6
    refine IsL.mk ((cl.take k).map pN) (by simp [List.map_take]) ?_
    refine' ye6a6
    (refine' ⟨(c + 1, cl.take k ++ ([c] ++ cl.drop k), _), _, _, _⟩; rotate_right; (refine aq.ez _ [5] [6] ?_; refine aq.auto rfl rfl rfl rfl ?_ ?_ <;> refine' aj); rotate_right; exact aw)
    exact ⟨by omega, hfin⟩
 ·obtain rfl : c = ns.length := by omega
  refine' ye6a6
  refine ai (fun (d : Nat) => ⟨[(2, .ptr 0 0), (5, .buf 1), (64, .p (.list nc (cl.map pN))), (65, .p (pI cl.length)), (66, .p (pI d))], [some (AO.cells [.p (.list nl (ns.map Nd.pv))]), some (AO.buf 3 false ((0 :: cl.take d).map pN))]⟩) (fun d => d <= cl.length) (fun d => cl.length - d) 0 ?_ ?_ ?_; (refine aq.auto rfl rfl rfl rfl ?_ ?_ <;> refine' aj)
  ·omega
  rintro d hd
  rcases Nat.lt_or_ge d cl.length with hdl | hdg
  ·have ha := hw.mem (List.getElem_mem hdl)
   have e2 : 0 :: cl.take (d + 1) = (0 :: cl.take d) ++ [cl[d]] := by rw [List.take_succ_eq_append_getElem hdl]; rfl
   (conv => whnf); repeat' ((first | refine' ze6a6 | ((refine ab.loc [] [] rfl rfl ((uy nl ns h cl[d] (by omega) ha.2).mono ?_); rintro _ _ ⟨rfl, rfl⟩))) <;> (conv => whnf))
   (refine' ⟨d + 1, _, _, _⟩; rotate_right; (refine aq.auto rfl rfl rfl rfl ?_ ?_ <;> refine' aj); rotate_right; exact aw)
   all_goals first | omega | exact e2.symm | skip
  ·obtain rfl : d = cl.length := by omega
   refine' ye6a6
   rw [List.take_length]
   (refine ay.frz _ _ _ [1] ?_; refine' ay.auto (.p (.list false ((0 :: cl).map pN))) ([]) rfl rfl rfl rfl _ _ _ <;> refine' aj)
   exact ⟨cl, hw, rfl, rfl⟩
theorem PsV.less {ps : List bf} (h : PsV ps) {i j : Nat} (hj : j < ps.length) (hij : i < j) : Op.bytesLess (ps[i]'(by omega)).1.toList ps[j].1.toList = true := by
 rw [(h.2 _ (List.getElem_mem _)).1.less (h.2 _ (List.getElem_mem hj)).1]
 exact decide_eq_true (jY h.1 hj hij)
theorem po (nl : Bool) (ns : List Nd) (h : FV ns) : ao Tryz.prog 162 [.p (.agg [.list nl (ns.map Nd.pv)])] [] fun r H => r = .p (pB true) /\ H = [] := by
 refine aa Tryz.func162 rfl rfl au rfl ?_
 have hl1 := h.l1
 have hl8 := h.l8
 refine' ye6a6
 refine ab.loc [] [] rfl rfl ((nF nl ns h.toUV).mono ?_)
 rintro _ _ ⟨cl, hw, rfl, rfl⟩
 have hid := hw.id h.asc
 have hlen := hw.len
 have hl : (0 :: cl).length = ns.length := by simp; omega
 have hat : ∀ (c : Nat) (hc : c < (0 :: cl).length), (0 :: cl)[c] = c := fun c hc => by
  rcases c with _ | c
  ·rfl
  ·simp at hc ⊢
   exact hid c hc
 generalize 0 :: cl = l at hl hat ⊢
 refine' ye6a6
 refine ai (fun (c : Nat) => ⟨[(1, .ptr 0 0), (9, .p (.list false (l.map pN))), (10, .p (pI l.length)), (11, .p (pI c))], [some (AO.cells [.p (.list nl (ns.map Nd.pv))])]⟩) (fun c => c <= l.length) (fun c => l.length - c) 0 ?_ ?_ ?_; (refine aq.auto rfl rfl rfl rfl ?_ ?_ <;> refine' aj)
 ·omega
 ·rintro c hc
  rcases Nat.lt_or_ge c l.length with hlt | hge
  ·have e := hat c hlt
   refine' ye6a6
   (refine' ⟨c + 1, _, _, _⟩; rotate_right; (refine aq.auto rfl rfl rfl rfl ?_ ?_ <;> refine' aj); rotate_right; exact aw)
   omega
  ·refine' ye6a6
   refine ai (fun (c : Nat) => ⟨[(21, .p (.list nl (ns.map Nd.pv))), (22, .p (pI ns.length)), (23, .p (pI c))], []⟩) (fun c => c <= ns.length) (fun c => ns.length - c) 0 ?_ ?_ ?_; (refine aq.auto rfl rfl rfl rfl ?_ ?_ <;> refine' aj)
   ·omega
   rintro c hc
   rcases Nat.lt_or_ge c ns.length with hlt | hge
   ·have hp := h.fG hlt
    have h7 := hp.len
    refine' ye6a6
    refine ai (fun (i : Nat) => ⟨[(6, .ptr 0 0), (7, .p (pI i)), (21, .p (.list nl (ns.map Nd.pv))), (22, .p (pI ns.length)), (23, .p (pI c))], [some (AO.cells [.p (pI ns[c].par), .p (pS ns[c].nm), .p (.list ns[c].nl (ns[c].ps.map Pr.pv))])]⟩) (fun i => 1 <= i /\ i <= ns[c].ps.length + 1) (fun i => ns[c].ps.length + 1 - i) 1 ?_ ?_ ?_; (refine aq.auto rfl rfl rfl rfl ?_ ?_ <;> refine' aj)
    ·omega
    rintro i ⟨hi1, hi2⟩
    rcases Nat.lt_or_ge i ns[c].ps.length with hil | hig
    ·have e1 := hp.less hil (i := ((i : Int) - 1).toNat) (by omega)
     refine' ye6a6
     (refine' ⟨i + 1, _, _, _⟩; rotate_right; (refine aq.auto rfl rfl rfl rfl ?_ ?_ <;> refine' aj); rotate_right; exact aw)
     omega
    ·refine' ye6a6
     (refine' ⟨c + 1, _, _, _⟩; rotate_right; (refine aq.auto rfl rfl rfl rfl ?_ ?_ <;> refine' aj); rotate_right; exact aw)
     omega
   ·refine' ye6a6
    (refine ay.p ?_ <;> refine' aj; all_goals try first | refine Et ?_ | refine Dq ?_)
theorem UV.neq {ns : List Nd} (h : UV ns) {i j : Nat} (hj : j < ns.length) (h0 : 0 < i) (hij : i < j) : ((ns[i]'(by omega)).nm.toList == ns[j].nm.toList) = false := by
 rw [(h.nam i _ h0).eq (h.nam j hj (by omega))]
 exact decide_eq_false (h.dis i j hj h0 hij)
theorem sW (nl : Bool) (ns : List Nd) (h : FV ns) : ao Tryz.prog 119 [.p (.agg [.list nl (ns.map Nd.pv)])] [] fun r H => r = .p (pI 0) /\ H = [] := by
 refine aa Tryz.func119 rfl rfl au rfl ?_
 have hl1 := h.l1
 have hl8 := h.l8
 (conv => whnf); repeat' ((first | refine' ze6a6 | (refine ab.scalar (j6 nl ns ⟨hl1, hl8⟩ h.ps) ?_) | (refine ab.scalar (sV nl ns h.toUV) ?_) | (refine ab.scalar (po nl ns h) ?_)) <;> (conv => whnf))
 refine ai (fun (c : Nat) => ⟨[(1, .ptr 0 0), (16, .p (.list nl (ns.map Nd.pv))), (17, .p (pI ns.length)), (18, .p (pI c))], [some (AO.cells [.p (.list nl (ns.map Nd.pv))])]⟩) (fun c => c <= ns.length) (fun c => ns.length - c) 0 ?_ ?_ ?_; (refine aq.auto rfl rfl rfl rfl ?_ ?_ <;> refine' aj)
 ·omega
 rintro c hc
 rcases Nat.lt_or_ge c ns.length with hlt | hge
 ·refine' ye6a6
  refine ai (fun (k : Nat) => ⟨[(1, .ptr 0 0), (3, .p (pI c)), (4, .ptr 1 0), (5, .p (pI k)), (16, .p (.list nl (ns.map Nd.pv))), (17, .p (pI ns.length)), (18, .p (pI c))], [some (AO.cells [.p (.list nl (ns.map Nd.pv))]), some (AO.cells [.p (pI ns[c].par), .p (pS ns[c].nm), .p (.list ns[c].nl (ns[c].ps.map Pr.pv))])]⟩) (fun k => 1 <= k /\ k <= c + 1) (fun k => c + 1 - k) 1 ?_ ?_ ?_; (refine aq.auto rfl rfl rfl rfl ?_ ?_ <;> refine' aj)
  ·omega
  rintro k ⟨hk1, hk2⟩
  rcases Nat.lt_or_ge k c with hkl | hkg
  ·have e1 := h.neq hlt (i := k) (by omega) hkl
   refine' ye6a6
   all_goals
    (refine' ⟨k + 1, _, _, _⟩; rotate_right; (refine aq.auto rfl rfl rfl rfl ?_ ?_ <;> refine' aj); rotate_right; exact aw)
    omega
  ·refine' ye6a6
   (refine' ⟨c + 1, _, _, _⟩; rotate_right; (refine aq.auto rfl rfl rfl rfl ?_ ?_ <;> refine' aj); rotate_right; exact aw)
   omega
 ·refine' ye6a6
  refine ai (fun (c : Nat) => ⟨[(1, .ptr 0 0), (51, .p (pI ns.length)), (52, .p (pI c))], [some (AO.cells [.p (.list nl (ns.map Nd.pv))])]⟩) (fun c => c <= ns.length) (fun c => ns.length - c) 0 ?_ ?_ ?_; (refine aq.auto rfl rfl rfl rfl ?_ ?_ <;> refine' aj)
  ·omega
  rintro c hc
  rcases Nat.lt_or_ge c ns.length with hlt | hge
  ·refine' ye6a6
   refine ab.loc [] [] rfl rfl ((l6 nl ns h.toUV c hlt).mono ?_)
   rintro _ _ ⟨v, hv0, hv1, rfl, rfl⟩
   refine' ye6a6
   (refine' ⟨c + 1, _, _, _⟩; rotate_right; (refine aq.auto rfl rfl rfl rfl ?_ ?_ <;> refine' aj); rotate_right; exact aw)
   omega
  ·refine' ye6a6
   (refine ay.p ?_ <;> refine' aj; all_goals try first | refine Et ?_ | refine Dq ?_)
theorem uz (nl : Bool) (ns : List Nd) (h : UV ns) (k : Nat) (hk : k < ns.length) : ao Tryz.prog 163 [.p (.agg [.list nl (ns.map Nd.pv)]), .p (pI k)] [] fun r H => ∃ s : ByteArray, (k = 0 -> s = slS) /\ r = .p (pS s) /\ H = [] := by
 refine aa Tryz.func163 rfl rfl au rfl ?_
 have hl1 := h.l1
 have h47 : (⟨#[47]⟩ : ByteArray).size = 1 := rfl
 have h00 : (⟨#[]⟩ : ByteArray).size = 0 := rfl
 rcases Nat.eq_zero_or_pos k with hz | hz
 ·subst hz
  refine' ye6a6
  (refine' ay.auto (.p (pS slS)) ([]) rfl rfl rfl rfl _ _ _ <;> refine' aj)
  exact ⟨slS, fun _ => rfl, rfl, rfl⟩
 ·have e1 := h.par k hk hz
  have e2 := (h.nam k hk hz).size
  (conv => whnf); repeat' ((first | refine' ze6a6 | (refine BA.mk (by first | omega | (simp only [ByteArray.size_append]; omega)) ?_) | (apply cw.fu)) <;> (conv => whnf))
  (refine' ay.auto (.p (pS _)) ([]) rfl rfl rfl rfl _ _ _ <;> try refine' aj)
  exact ⟨_, fun h => absurd h (by omega), rfl, rfl⟩
theorem uB (nl : Bool) (ns : List Nd) (h : UV ns) (s : ByteArray) : ao Tryz.prog 120 [.p (.agg [.list nl (ns.map Nd.pv)]), .p (pS s)] [] fun r H => ∃ v : Int, -1 <= v /\ v < ns.length /\ (s = slS -> v = 0) /\ r = .p (pI v) /\ H = [] := by
 refine aa Tryz.func120 rfl rfl au rfl ?_
 have hl1 := h.l1
 refine' ye6a6
 refine ai (fun (c : Nat) => ⟨[(1, .p (pS s)), (2, .ptr 0 0), (8, .p (pI ns.length)), (9, .p (pI c))], [some (AO.cells [.p (.list nl (ns.map Nd.pv))])]⟩) (fun c => c <= ns.length /\ (0 < c -> s ≠ slS)) (fun c => ns.length - c) 0 ?_ ?_ ?_; (refine aq.auto rfl rfl rfl rfl ?_ ?_ <;> refine' aj)
 ·exact ⟨by omega, fun h => absurd h (by omega)⟩
 rintro c ⟨hc, hs⟩
 rcases Nat.lt_or_ge c ns.length with hlt | hge
 ·refine' ye6a6
  refine ab.loc [] [] rfl rfl ((uz nl ns h c hlt).mono ?_)
  rintro _ _ ⟨p, hp, rfl, rfl⟩
  have hE := mn p s
  refine' ye6a6
  ·(refine' ay.auto (.p (pI c)) ([]) rfl rfl rfl rfl _ _ _ <;> refine' aj)
   exact ⟨c, by omega, by omega, fun e => by
    rcases Nat.eq_zero_or_pos c with hz | hz
    ·omega
    ·exact absurd e (hs hz), rfl, rfl⟩
  ·(refine' ⟨c + 1, _, _, _⟩; rotate_right; (refine aq.auto rfl rfl rfl rfl ?_ ?_ <;> refine' aj); rotate_right; exact aw)
   rw [hE, decide_eq_false_iff_not] at h0
   refine ⟨by omega, fun _ e => ?_⟩
   rcases Nat.eq_zero_or_pos c with hz | hz
   ·exact h0 ((hp hz).trans e.symm)
   ·exact hs hz e
 ·refine' ye6a6
  (refine' ay.auto (.p (pI (-1))) ([]) rfl rfl rfl rfl _ _ _ <;> refine' aj)
  exact ⟨-1, by omega, by omega, fun e => absurd e (hs (by omega)), rfl, rfl⟩
theorem l9 (nl : Bool) (ns : List Nd) (h : FV ns) (s : ByteArray) : ao Tryz.prog 63 [.p (.agg [.list nl (ns.map Nd.pv)]), .p (pS s)] [] fun r H => ∃ (k : Nat) (e : Int), k < ns.length /\ (s = slS -> k = 0 /\ e = 0) /\ r = .tup [.p (pI k), .p (pI e)] /\ H = [] := by
 refine aa Tryz.func63 rfl rfl au rfl ?_
 have hl1 := h.l1
 (conv => whnf); repeat' ((first | refine' ze6a6 | (refine ab.scalar (sW nl ns h) ?_)) <;> (conv => whnf))
 refine ab.loc [] [] rfl rfl ((uB nl ns h.toUV s).mono ?_)
 rintro _ _ ⟨v, hv0, hv1, hv2, rfl, rfl⟩
 refine' ye6a6
 ·obtain ⟨k, rfl⟩ := Int.eq_ofNat_of_zero_le (show 0 <= v by omega)
  (refine' ay.auto (.tup [.p (pI k), .p (pI 0)]) ([]) rfl rfl rfl rfl _ _ _ <;> refine' aj)
  exact ⟨k, 0, by omega, fun e => ⟨by have := hv2 e; omega, rfl⟩, rfl, rfl⟩
 ·(refine' ay.auto (.tup [.p (pI 0), .p (pI 4)]) ([]) rfl rfl rfl rfl _ _ _ <;> refine' aj)
  exact ⟨0, 4, by omega, fun e => by have := hv2 e; omega, rfl, rfl⟩
theorem j7 (nl : Bool) (ns : List Nd) (h : UV ns) : ao Tryz.prog 66 [.p (.agg [.list nl (ns.map Nd.pv)])] [] fun r H => ∃ nb, r = .agg [.buf 0] /\ H = [some (AO.buf 64 nb ((ns.map Nd.cp).map Nd.pv))] := by
 refine aa Tryz.func66 rfl rfl au rfl ?_
 have hl1 := h.l1
 have hl8 := h.l8
 refine' ye6a6
 refine ai (fun (⟨c, ms, nb⟩ : Nat × List Nd × Bool) => ⟨[(2, .ptr 0 0), (3, .ptr 1 0), (7, .p (.list nl (ns.map Nd.pv))), (8, .p (pI ns.length)), (9, .p (pI c))], [some (AO.cells [.p (.list true [])]), some (AO.cells [.buf 2]), some (AO.buf 64 nb (ms.map Nd.pv))]⟩) (fun ⟨c, ms, nb⟩ => c <= ns.length /\ ms = (ns.take c).map Nd.cp) (fun ⟨c, ms, nb⟩ => ns.length - c) (0, [], true) ?_ ?_ ?_; (refine aq.cell _ 2 0 64 _ _ _ _ _ rfl rfl rfl ?_; refine aq.auto rfl rfl rfl rfl ?_ ?_ <;> refine' aj)
 ·exact ⟨by omega, by simp⟩
 rintro ⟨c, ms, nb⟩ ⟨hc, hms⟩
 try simp only at hc hms
 rcases Nat.lt_or_ge c ns.length with hlt | hge
 ·have h7 := (h.fG hlt).len
  have hml : ms.length = c := by rw [hms]; simp; omega
  refine' ye6a6
  refine IsL.mk ([Nd.cp ns[c]].map Nd.pv) (by show [PV.agg [_, _, PV.list (_ && false) _]] = _; rw [Bool.and_false]; rfl) ?_
  refine' ye6a6
  (refine' ⟨(c + 1, _, _), _, _, _⟩; rotate_right; (refine aq.auto rfl rfl rfl rfl ?_ ?_ <;> refine' aj); rotate_right; exact aw)
  refine ⟨by omega, ?_⟩
  show ms ++ [ns[c].cp] = _
  rw [List.take_succ_eq_append_getElem hlt, List.map_append, hms]
  rfl
 ·obtain rfl : c = ns.length := by omega
  refine' ye6a6
  rw [List.take_length] at hms
  subst hms
  (refine' ay.auto (.agg [.buf 0]) ([some (AO.buf 64 nb ((ns.map Nd.cp).map Nd.pv))]) rfl rfl rfl rfl _ _ _ <;> refine' aj)
  exact ⟨nb, rfl, rfl⟩
theorem zU {ns : List Nd} {i : Nat} (h : i < ns.length) : ns.getD i default = ns[i] := by
 rw [List.getD_eq_getElem?_getD, List.getElem?_eq_getElem h]
 rfl
theorem Ci {n : Nd} {p : Int} (h : p = n.par) : (⟨p, n.nm, n.nl, n.ps⟩ : Nd) = n := by subst h; rfl
theorem y78ac {P : Prop} (h : P := by
 ((conv => whnf); repeat' ((first | apply aB.plain | refine' gC | refine' gpI | refine' gpN | refine' gpB | refine' bh | refine' bj | refine' gE | (apply ax.quiet (by kernel_rfl) (by kernel_rfl); (conv => whnf); fail_if_success (show False))) <;> (conv => whnf))) <;> (solve_by_elim (newGoals := .nonDependentOnly) -symm -exfalso (transparency := .reducible) only [rfl, aC])) : P := h
theorem z78ac {P : Prop} (h : P := by
 ((first | apply aB.plain | refine' gC | refine' gpI | refine' gpN | refine' gpB | refine' bh | refine' bj | refine' gE | (apply ax.quiet (by kernel_rfl) (by kernel_rfl); (conv => whnf); fail_if_success (show False))) <;> (conv => whnf)) <;> (solve_by_elim (newGoals := .nonDependentOnly) -symm -exfalso (transparency := .reducible) only [rfl, aC])) : P := h
theorem qW (nl : Bool) (ns : List Nd) (h : UV ns) : ao Tryz.prog 67 [.p (.agg [.list nl (ns.map Nd.pv)])] [] fun r H => ∃ (ms : List Nd) (nb : Bool), FV ms /\ ms.length = ns.length /\ (∀ n ∈ ms, n ∈ ns) /\ r = .p (.agg [.list nb (ms.map Nd.pv)]) /\ H = [] := by
 refine aa Tryz.func67 rfl rfl au rfl ?_
 have hl1 := h.l1
 have hl8 := h.l8
 refine' y78ac
 refine ab.loc [] [] rfl rfl ((nF nl ns h).mono ?_)
 rintro _ _ ⟨cl, hw, rfl, rfl⟩
 have hlen := hw.len
 obtain ⟨l, hl⟩ : ∃ l, l = 0 :: cl := ⟨_, rfl⟩
 rw [<- hl]
 have hll : l.length = ns.length := by rw [hl]; simp; omega
 have hlt : ∀ (c : Nat) (hc : c < l.length), l[c] < ns.length := by
  subst hl
  intro c hc
  rcases c with _ | c
  ·simp; omega
  ·simp at hc ⊢
   exact (hw.mem (List.getElem_mem _)).2
 have h0c : ∀ (h0 : 0 < l.length), l[0] = 0 := by subst hl; intro _; rfl
 have hnz : ∀ (c : Nat) (hc : c < l.length), 0 < c -> 0 < l[c] := by
  subst hl
  intro c hc h0
  rcases c with _ | c
  ·omega
  ·simp at hc ⊢
   have := hw.mem (List.getElem_mem (l := cl) (n := c) (by omega))
   omega
 have hms : ∀ ms : List Nd, ms = l.map (fun a => ns.getD a default) -> FV ms /\ ms.length = ns.length /\ ∀ n ∈ ms, n ∈ ns := by
  rintro ms rfl
  refine ⟨hw.sorted h (by subst hl; simp) (fun _ => ?_) (fun i hi => ?_), by simp [hll], fun n hn => ?_⟩
  ·subst hl; simp
  ·subst hl; simp
  ·obtain ⟨a, ha, rfl⟩ := List.mem_map.1 hn
   obtain ⟨c, hc, rfl⟩ := List.getElem_of_mem ha
   rw [zU (hlt c hc)]
   exact List.getElem_mem _
 clear hl
 have hpar : ∀ (c : Nat) (hc : c < l.length), 0 < c -> (ns[l[c]]'(hlt c hc)).par = 0 := fun c hc h0 => h.par _ _ (hnz c hc h0)
 refine' y78ac
 refine ai (fun (⟨c, xs⟩ : Nat × List Int) => ⟨[(1, .ptr 0 0), (2, .ptr 1 0), (3, .p (.list false (l.map pN))), (4, .buf 2), (17, .p (.list false (l.map pN))), (18, .p (pI l.length)), (19, .p (pI c))], [some (AO.cells [.p (.list nl (ns.map Nd.pv))]), some (AO.cells [.p (.list true [])]), some (AO.buf 3 false (xs.map pI))]⟩) (fun ⟨c, xs⟩ => c <= l.length /\ xs.length = ns.length /\ xs.getD 0 0 = 0) (fun ⟨c, xs⟩ => l.length - c) (0, List.replicate ns.length 0) ?_ ?_ ?_; (refine aq.auto rfl rfl rfl rfl ?_ ?_ <;> refine' aj)
 ·exact ⟨by omega, by simp, by simp [List.getElem?_replicate]; split <;> rfl⟩
 rintro ⟨c, xs⟩ ⟨hc, hx, hx0⟩
 try simp only at hc hx hx0
 rcases Nat.lt_or_ge c l.length with hcl | hcg
 ·have h1 := hlt c hcl
  refine' y78ac
  (refine' ⟨(c + 1, _), _, _, _⟩; rotate_right; (refine aq.auto rfl rfl rfl rfl ?_ ?_ <;> refine' aj); rotate_right; exact aw)
  refine ⟨by omega, by simp [hx], ?_⟩
  rcases Nat.eq_zero_or_pos c with hz | hz
  ·subst hz
   have e0 := h0c hcl
   have hx1 : 0 < xs.length := by omega
   simp [e0, hx1]
  ·have := hnz c hcl hz
   simp only [List.getD_eq_getElem?_getD] at hx0 ⊢
   rw [List.getElem?_set_ne (by simp; omega)]
   exact hx0
 ·have hx0' : xs[0]'(by omega) = 0 := by
   rw [List.getD_eq_getElem?_getD, List.getElem?_eq_getElem (by omega)] at hx0
   exact hx0
  refine' y78ac
  refine ai (fun (⟨c, ms, nb⟩ : Nat × List Nd × Bool) => ⟨[(1, .ptr 0 0), (2, .ptr 1 0), (4, .buf 2), (7, .ptr 3 0), (29, .p (.list false (l.map pN))), (30, .p (pI l.length)), (31, .p (pI c))], [some (AO.cells [.p (.list nl (ns.map Nd.pv))]), some (AO.cells [.p (.list true [])]), some (AO.buf 3 false (xs.map pI)), some (AO.cells [.buf 4]), some (AO.buf 64 nb (ms.map Nd.pv))]⟩) (fun ⟨c, ms, nb⟩ => c <= l.length /\ ms = (l.take c).map (fun a => ns.getD a default)) (fun ⟨c, ms, nb⟩ => l.length - c) (0, [], true) ?_ ?_ ?_; (refine aq.cell _ 3 0 64 _ _ _ _ _ rfl rfl rfl ?_; refine aq.auto rfl rfl rfl rfl ?_ ?_ <;> refine' aj)
  ·exact ⟨by omega, by simp⟩
  rintro ⟨c, ms, nb⟩ ⟨hc2, hm⟩
  try simp only at hc2 hm
  have hml : ms.length <= 8 := by rw [hm]; simp; omega
  rcases Nat.lt_or_ge c l.length with hcl | hcg
  ·have h1 := hlt c hcl
   have hm2 : ms ++ [ns[l[c]]] = (l.take (c + 1)).map (fun a => ns.getD a default) := by
    rw [List.take_succ_eq_append_getElem hcl, List.map_append, hm]
    simp [h1]
   rcases Nat.eq_zero_or_pos c with hz | hz
   ·subst hz
    have e0 := h0c hcl
    (conv => whnf); repeat' ((first | refine' z78ac | (apply IsL.lit (f := Nd.pv) [ns[l[0]]] rfl)) <;> (conv => whnf))
    (refine' ⟨(0 + 1, _, _), _, _, _⟩; rotate_right; (refine aq.auto rfl rfl rfl rfl ?_ ?_ <;> refine' aj); rotate_right; exact aw)
    exact ⟨by omega, hm2⟩
   ·have e0 := hnz c hcl hz
    have e1 := hpar c hcl hz
    have e2 : xs[(ns[l[c]].par).toNat]'(by omega) = 0 := by
     have : ∀ (i : Nat) (hi : i < xs.length), i = 0 -> xs[i] = 0 := by rintro i hi rfl; exact hx0'
     exact this _ _ (by omega)
    refine' y78ac
    (refine' ⟨(c + 1, _, _), _, _, _⟩; rotate_right; (refine aq.auto rfl rfl rfl rfl ?_ ?_ <;> refine' aj); rotate_right; exact aw)
    rw [Ci (e2.trans e1.symm)]
    exact ⟨by omega, hm2⟩
  ·obtain rfl : c = l.length := by omega
   rw [List.take_length] at hm
   obtain ⟨h3, h4, h5⟩ := hms ms hm
   refine' y78ac
   (refine ay.frz _ _ _ [4] ?_; refine' ay.auto (.p (.agg [.list nb (ms.map Nd.pv)])) ([]) rfl rfl rfl rfl _ _ _ <;> refine' aj)
   exact ⟨ms, nb, h3, h4, h5, rfl, rfl⟩
theorem zu (nl : Bool) (ps : List bf) (h : PsV ps) (p : bf) (hp : PrV p) : ao Tryz.prog 125 [.p (.list nl (ps.map Pr.pv)), .p (Pr.pv p)] [] fun r H => ∃ nb, r = .buf 0 /\ H = [some (AO.buf 97 nb ((j9 pk ps p).map Pr.pv))] := by
 refine aa Tryz.func125 rfl rfl au rfl ?_
 have h7 := h.len
 refine' y78ac
 refine ai (fun (k : Nat) => ⟨[(0, .p (.list nl (ps.map Pr.pv))), (3, .ptr 0 0), (5, .p (pI k))], [some (AO.cells [.p (pS p.1), .p (pS p.2)])]⟩) (fun k => k <= ps.length /\ ∀ (j : Nat) (hj : j < ps.length), j < k -> pk ps[j] < pk p) (fun k => ps.length - k) 0 ?_ ?_ ?_; (refine aq.auto rfl rfl rfl rfl ?_ ?_ <;> refine' aj)
 ·exact ⟨by omega, fun j _ hj => absurd hj (by omega)⟩
 rintro k ⟨hk, hks⟩
 have hput := fun h2 => vN (f := pk) h.1 (p := p) hk hks h2
 rcases Nat.lt_or_ge k ps.length with hkl | hkg
 ·have hPk := h.2 _ (List.getElem_mem hkl)
  have hcmp : Op.bytesLess ps[k].1.toList p.1.toList = decide (pk ps[k] < pk p) := hPk.1.less hp.1
  have heq : (ps[k].1.toList == p.1.toList) = decide (pk ps[k] = pk p) := hPk.1.eq hp.1
  rcases Decidable.em (pk ps[k] < pk p) with h1 | h1
  ·rw [decide_eq_true h1] at hcmp
   refine' y78ac
   (refine' ⟨k + 1, _, _, _⟩; rotate_right; (refine aq.auto rfl rfl rfl rfl ?_ ?_ <;> refine' aj); rotate_right; exact aw)
   exact ⟨by omega, Go.Abs.all_succ hks fun _ => h1⟩
  ·rw [decide_eq_false h1] at hcmp
   have hput := hput fun _ => h1
   rw [dif_pos hkl] at hput
   rcases Decidable.em (pk ps[k] = pk p) with h2 | h2
   ·rw [decide_eq_true h2] at heq
    rw [if_pos h2] at hput
    refine' y78ac
    (refine' ay.auto (.buf 0) ([some (AO.buf 97 _ ((j9 pk ps p).map Pr.pv))]) rfl rfl rfl rfl _ _ _ <;> try refine' aj)
    all_goals first | exact ⟨_, rfl, rfl⟩ | (rw [hput]; simp [show ((k : Int) + 1).toNat = k + 1 by omega]; done) | (rw [hput]; simp; omega)
   ·rw [decide_eq_false h2] at heq
    rw [if_neg h2] at hput
    refine' y78ac
    (refine' ay.auto (.buf 0) ([some (AO.buf 97 _ ((j9 pk ps p).map Pr.pv))]) rfl rfl rfl rfl _ _ _ <;> try refine' aj)
    all_goals first | exact ⟨_, rfl, rfl⟩ | (rw [hput]; simp [show ((k : Int) + 1).toNat = k + 1 by omega]; done) | (rw [hput]; simp; omega)
 ·have hput := hput fun hh => absurd hh (by omega)
  rw [dif_neg (by omega)] at hput
  refine' y78ac
  (refine' ay.auto (.buf 0) ([some (AO.buf 97 _ ((j9 pk ps p).map Pr.pv))]) rfl rfl rfl rfl _ _ _ <;> try refine' aj)
  all_goals first | exact ⟨_, rfl, rfl⟩ | (rw [hput]; simp [show ((k : Int) + 1).toNat = k + 1 by omega]; done) | (rw [hput]; simp; omega)
theorem yb (nl : Bool) (ps : List bf) (h : PsV ps) (p : bf) (hp : PrV p) : ao Tryz.prog 125 [.p (.list nl (ps.map Pr.pv)), .p (Pr.pv p)] [] fun r H => ∃ nb, r = .p (.list nb ((j9 pk ps p).map Pr.pv)) /\ H = [some (AO.frz nb ((j9 pk ps p).map Pr.pv))] :=
 (zu nl ps h p hp).frz [0] fun r H ⟨nb, h1, h2⟩ => by subst h1; subst h2; exact ⟨nb, rfl, rfl⟩
theorem FV.sL {ns : List Nd} (h : FV ns) {k : Nat} (hk : k < ns.length) (b : Bool) {ps : List bf} (hp : PsV ps) : FV (ns.set k ⟨ns[k].par, ns[k].nm, b, ps⟩) := by
 refine h.upd (by simp) (fun i hi => ?_) fun n hn => ?_
 ·rw [List.getElem_set]
  split
  ·rename_i he
   subst he
   exact ⟨rfl, rfl⟩
  ·exact ⟨rfl, rfl⟩
 ·rcases List.mem_or_eq_of_mem_set hn with h1 | rfl
  ·exact h.ps n h1
  ·exact hp
theorem FV.Ek {ns : List Nd} (h : FV ns) {k : Nat} (hk : k < (ns.map Nd.cp).length) (b : Bool) {ps : List bf} (hp : PsV ps) : ∃ ms, (ns.map Nd.cp).set k ⟨(ns.map Nd.cp)[k].par, (ns.map Nd.cp)[k].nm, b, ps⟩ = ms /\ FV ms /\ ms.length = ns.length /\
  ∀ (i : Nat) (h1 : i < ms.length), ∃ h2 : i < ns.length, ms[i].nm = ns[i].nm := by
 refine ⟨_, rfl, h.copy.sL hk b hp, by simp, fun i h1 => ⟨by simpa using h1, ?_⟩⟩
 rw [List.getElem_set]
 split
 ·rename_i he
  subst he
  simp [Nd.cp]
 ·simp [Nd.cp]
def B6 : Sc := (.one 4 (.take 6 (.take 7 (.one 8 (.one 12 (.take 13 (.take 14 (.one 15 .done))))))))
def B5 : Sc := (.one 8 (.one 12 (.take 13 (.take 14 (.one 15 .done)))))
def B4 : Sc := (.one 12 (.take 13 (.take 14 (.one 15 .done))))
def B3 : Sc := (.one 1 (.take 13 (.take 14 (.one 15 .done))))
def B2 : Sc := (.two 1 12 B4 B3)
def B1 : Sc := (.take 6 (.take 7 (.two 1 8 B5 B2)))
def stA : Sc := (.take 0 (.take 2 (.take 3 (.take 5 (.take 9 (.take 10 (.take 11 (.two 1 4 B6 B1))))))))
theorem zcd08 {P : Prop} (h : P := by
 ((first | apply aB.plain | refine' gC | refine' gpI | refine' gpN | refine' gpB | refine' bh | refine' bj | refine' gE | fail) <;> (conv => whnf)) <;> (solve_by_elim (newGoals := .nonDependentOnly) -symm -exfalso (transparency := .reducible) only [rfl, aC])) : P := h
theorem ya (nl : Bool) (ns : List Nd) (h : FV ns) (s nm vl : ByteArray) (hp : PrV (nm, vl)) : ao Tryz.prog 68 [.p (.agg [.list nl (ns.map Nd.pv)]), .p (pS s), .p (pS nm), .p (pS vl)] [] fun r H => ∃ (e : Int) (ms : List Nd) (nb : Bool), r = .tup [.p (.agg [.list nb (ms.map Nd.pv)]), .p (pI e)] /\ (e = 0 -> FV ms /\ ms.length = ns.length /\ ∀ (i : Nat) (hi : i < ms.length), ∃ hj : i < ns.length, ms[i].nm = ns[i].nm) /\ H = [] := by
 refine aa Tryz.func68 rfl rfl au rfl ?_
 have hl1 := h.l1
 have hl8 := h.l8
 refine' y78ac
 refine ab.loc [] [] rfl rfl ((l9 nl ns h s).mono ?_)
 rintro _ _ ⟨k, e, hk, hs, rfl, rfl⟩
 (conv => whnf); repeat' ((first | refine' z78ac | (refine ab.scalar (jt hp.1) ?_)) <;> (conv => whnf))
 ·(refine' ay.auto (.tup [.p (.agg [.list true []]), .p (pI e)]) ([]) rfl rfl rfl rfl _ _ _ <;> refine' aj)
  all_goals exact ⟨e, [], true, rfl, fun h => absurd h h0, rfl⟩
 ·refine ab.loc [] [] rfl rfl ((j7 nl ns h.toUV).mono ?_)
  rintro _ _ ⟨nb, rfl, rfl⟩
  have hkc : k < (ns.map Nd.cp).length := by simpa using hk
  (conv => whnf); repeat' ((first | refine' zcd08 | (apply ax.bA stA (by kernel_rfl) (by kernel_rfl) (by kernel_rfl)) | ((refine ab.loc [] [] rfl rfl ((yb ns[k].nl ns[k].ps (h.fG hk) (nm, vl) hp).mono ?_); rintro _ _ ⟨nb2, rfl, rfl⟩))) <;> (conv => whnf))
  all_goals
   obtain ⟨ms, hms, hf, hml, hnm⟩ := h.Ek hkc nb2 ((h.fG hk).put hp)
   rw [hms]
   refine ab.loc [] [2] rfl rfl ((j6 nb ms ⟨hf.l1, hf.l8⟩ hf.ps).mono ?_)
   rintro _ _ ⟨rfl, rfl⟩
   refine' y78ac
   (refine ay.frz _ _ _ [2] ?_; refine' ay.auto (.tup [.p (.agg [.list nb (ms.map Nd.pv)]), .p (pI 0)]) ([]) rfl rfl rfl rfl _ _ _ <;> refine' aj)
   exact ⟨0, ms, nb, rfl, fun _ => ⟨hf, hml, hnm⟩, rfl⟩
theorem b5 (nl : Bool) (ns : List Nd) (h : FV ns) (s nm vl : ByteArray) (hp : PrV (nm, vl)) : ao Tryz.prog 23 [.p (.agg [.list nl (ns.map Nd.pv)]), .p (pS s), .p (pS nm), .p (pS vl)] [] fun r H => ∃ ms nb, r = .p (.agg [.list nb (ms.map Nd.pv)]) /\ FV ms /\ ms.length = ns.length /\ (∀ (i : Nat) (hi : i < ms.length), ∃ hj : i < ns.length, ms[i].nm = ns[i].nm) /\ H = [] := by
 refine aa Tryz.func23 rfl rfl au rfl ?_
 refine' y78ac
 refine ab.loc [] [] rfl rfl ((ya nl ns h s nm vl hp).mono ?_)
 rintro _ _ ⟨e, ms, nb, rfl, hb, rfl⟩
 rcases Decidable.em (e = 0) with h0 | h0
 ·obtain ⟨h1, h2, h3⟩ := hb h0
  refine' y78ac
  (refine' ay.auto (.p (.agg [.list nb (ms.map Nd.pv)])) ([]) rfl rfl rfl rfl _ _ _ <;> refine' aj)
  exact ⟨ms, nb, rfl, h1, h2, h3, rfl⟩
 ·refine' y78ac
  (refine' ay.auto (.p (.agg [.list nl (ns.map Nd.pv)])) ([]) rfl rfl rfl rfl _ _ _ <;> refine' aj)
  exact ⟨ns, nl, rfl, h, rfl, fun i hi => ⟨hi, rfl⟩, rfl⟩
theorem yc (nl : Bool) (ns : List Nd) (h : FV ns) (h7 : ns.length <= 7) (k : Nat) (hk : k < 7) (hnew : ∀ n ∈ ns, n.nm ≠ vn k) : ao Tryz.prog 21 [.p (.agg [.list nl (ns.map Nd.pv)]), .p (pS slS), .p (pS (vn k))] [] fun r H => ∃ ms nb, r = .tup [.p (.agg [.list nb (ms.map Nd.pv)]), .p (pI 0)] /\ FV ms /\ ms.length = ns.length + 1 /\ (∀ n ∈ ms, n.nm = vn k \/ ∃ m ∈ ns, n.nm = m.nm) /\ H = [] := by
 refine aa Tryz.func21 rfl rfl au rfl ?_
 have hl1 := h.l1
 have hN : IsN (vn k) := ⟨k, hk, rfl⟩
 refine' y78ac
 refine ab.loc [] [] rfl rfl ((l9 nl ns h slS).mono ?_)
 rintro _ _ ⟨k0, e, hk0, hs, rfl, rfl⟩
 obtain ⟨rfl, rfl⟩ := hs rfl
 (conv => whnf); repeat' ((first | refine' z78ac | (refine ab.scalar (nJ hN) ?_)) <;> (conv => whnf))
 refine ai (fun (c : Nat) => ⟨[(2, .p (pS (vn k))), (3, .ptr 0 0), (6, .ptr 1 0), (8, .p (pI (0 : Nat))), (28, .p (.list nl (ns.map Nd.pv))), (29, .p (pI ns.length)), (30, .p (pI c))], [some (AO.cells [.p (.list nl (ns.map Nd.pv))]), some (AO.cells [.p (.list true [])])]⟩) (fun c => c <= ns.length) (fun c => ns.length - c) 0 ?_ ?_ ?_; (refine aq.auto rfl rfl rfl rfl ?_ ?_ <;> refine' aj)
 ·omega
 rintro c hc
 rcases Nat.lt_or_ge c ns.length with hlt | hge
 ·have e1 : (ns[c].nm.toList == (vn k).toList) = false := by
   rw [mn]
   exact decide_eq_false (hnew _ (List.getElem_mem hlt))
  refine' y78ac
  all_goals
   (refine' ⟨c + 1, _, _, _⟩; rotate_right; (refine aq.auto rfl rfl rfl rfl ?_ ?_ <;> refine' aj); rotate_right; exact aw)
   omega
 ·refine' y78ac
  refine ab.loc [] [] rfl rfl ((l6 nl ns h.toUV 0 hk0).mono ?_)
  rintro _ _ ⟨v, hv0, hv1, rfl, rfl⟩
  refine' y78ac
  refine ab.loc [] [] rfl rfl ((j7 nl ns h.toUV).mono ?_)
  rintro _ _ ⟨nb, rfl, rfl⟩
  have hu := h.copy.snoc (n := ⟨0, vn k, true, []⟩) (by simpa using h7) rfl hN .nil (fun i hi _ => by
   simp only [List.length_map] at hi
   simpa [Nd.cp] using hnew _ (List.getElem_mem hi))
  have hul : (ns.map Nd.cp).length <= 7 := by simpa using h7
  (conv => whnf); repeat' ((first | (refine IsL.lit (f := Nd.pv) [⟨0, vn k, true, []⟩] rfl ?_) | refine' z78ac | fail) <;> (conv => whnf))
  refine ab.loc [] [5] rfl rfl ((qW _ _ hu).mono ?_)
  rintro _ _ ⟨ms, nb2, hf, hml, hmn, rfl, rfl⟩
  refine' y78ac
  (refine' ay.auto (.tup [.p (.agg [.list nb2 (ms.map Nd.pv)]), .p (pI 0)]) ([]) rfl rfl rfl rfl _ _ _ <;> refine' aj)
  refine ⟨ms, nb2, rfl, hf, by simp [hml], fun n hn => ?_, rfl⟩
  rcases List.mem_append.1 (hmn n hn) with hn | hn
  ·obtain ⟨m, hm, rfl⟩ := List.mem_map.1 hn
   exact .inr ⟨m, hm, rfl⟩
  ·simp at hn
   subst hn
   exact .inl rfl
theorem gpS {P : Prop} (h : P := by
 (first | ((first | apply bx.snoc (f := pS) (a := _) rfl | apply bx.one (f := pS) (a := _) rfl); exact ar_) | apply IsL.set (f := pS) (a := _) rfl | apply IsL.rep (f := pS) (a := _) rfl | apply IsL.lit (f := pS) [] rfl | apply IsL.lit (f := pS) [_] rfl | apply IsL.lit (f := pS) [_, _] rfl | apply IsL.lit (f := pS) [_, _, _] rfl) <;> (solve_by_elim (newGoals := .nonDependentOnly) -symm -exfalso (transparency := .reducible) only [rfl, aC])) : P := h
def tr6 : Ln := (.lazy 0 (.lazy 1 (.lazy 2 (.lazy 3 (.lazy 4 (.one 5 (.one 6 (.lazy 7 (.lazy 8 (.lazy 9 (.one 10 .done)))))))))))
def Da : Ln := (.lazy 0 (.lazy 1 (.lazy 2 (.lazy 3 (.lazy 4 (.one 5 (.one 6 (.one 7 .done))))))))
def C_ : Ln := (.lazy 0 (.lazy 1 (.lazy 2 (.lazy 3 (.one 4 (.one 5 (.one 6 .done)))))))
def C9 : Ln := (.lazy 0 (.lazy 1 (.lazy 2 (.lazy 3 (.lazy 4 (.lazy 5 (.one 6 (.one 7 (.one 8 .done)))))))))
def AP : Ln := (.lazy 0 (.lazy 1 (.lazy 2 (.lazy 3 (.lazy 4 (.one 5 (.one 6 (.one 7 .done))))))))
def AN : Ln := (.lazy 0 (.lazy 1 (.lazy 2 (.lazy 3 (.lazy 4 (.one 5 (.one 6 (.one 7 .done))))))))
def AM : Ln := (.lazy 0 (.lazy 1 (.lazy 2 (.lazy 3 (.lazy 7 (.lazy 9 (.lazy 12 (.one 4 (.lazy 5 (.lazy 6 (.one 8 (.one 10 (.lazy 11 (.one 13 (.lazy 14 (.lazy 15 (.one 16 (.one 17 .done))))))))))))))))))
theorem prv (j : Nat) (hj : j < 7) (h2 : j ≠ 2) (s : ByteArray) (hs : s.size <= 20) : PrV (pn j, s) := ⟨⟨j, hj, rfl⟩, hs, fun e => absurd (zC hj (by omega) e) h2⟩
theorem En : PrV (pn 2, wR) := ⟨⟨2, by omega, rfl⟩, by decide, fun _ => rfl⟩
theorem Dj {xs ys : List ByteArray} (h1 : ∀ x ∈ xs, ∃ j, j < 7 /\ j ≠ 2 /\ x = pn j) (h2 : ∀ y ∈ ys, y.size <= 20) {i j : Nat} (hi : i < xs.length) (hj : j < ys.length) : PrV (xs[i], ys[j]) := by
 obtain ⟨k, hk, h3, e⟩ := h1 _ (List.getElem_mem hi)
 rw [e]
 exact prv k hk h3 _ (h2 _ (List.getElem_mem hj))
theorem Cf : ∀ x ∈ ([⟨#[115, 117, 112, 112, 108, 105, 101, 115]⟩, ⟨#[108, 101, 118, 101, 108, 115]⟩, ⟨#[100, 114, 111, 112, 111, 117, 116]⟩, ⟨#[99, 97, 112, 97, 99, 105, 116, 121]⟩, ⟨#[97, 108, 119, 97, 121, 115, 45, 111, 110]⟩, ⟨#[112, 104, 97, 110, 100, 108, 101]⟩] : List ByteArray), ∃ j, j < 7 /\ j ≠ 2 /\ x = pn j := by
 intro x hx
 simp only [List.mem_cons, List.not_mem_nil, or_false] at hx
 rcases hx with rfl | rfl | rfl | rfl | rfl | rfl
 ·exact ⟨6, by omega, by omega, rfl⟩
 ·exact ⟨4, by omega, by omega, rfl⟩
 ·exact ⟨3, by omega, by omega, rfl⟩
 ·exact ⟨1, by omega, by omega, rfl⟩
 ·exact ⟨0, by omega, by omega, rfl⟩
 ·exact ⟨5, by omega, by omega, rfl⟩
inductive Sh (P : Prop) : Prop
 | mk (h : P)
theorem Sh.get {P : Prop} (h : Sh P) : P := by cases h; assumption
theorem share {P G : Prop} (h : Sh P -> G) (r : P) : G := h ⟨r⟩
theorem y16c4 {P : Prop} (h : P := by
 ((conv => whnf); repeat' ((first | apply aB.plain | refine' gC | refine' gpN | refine' gpI | refine' gpB | refine' gpS | refine' bh | refine' bj | refine' aI | refine' gE | (apply ax.quiet (by kernel_rfl) (by kernel_rfl); (conv => whnf); fail_if_success (show False))) <;> (conv => whnf))) <;> (solve_by_elim (newGoals := .nonDependentOnly) -symm -exfalso (transparency := .reducible) only [rfl, aC])) : P := h
theorem y86a8 {P : Prop} (h : P := by
 ((conv => whnf); repeat' ((first | apply aB.plain | refine' gC | refine' gpN | refine' gpI | refine' gpB | refine' gpS | refine' bh | refine' bj | refine' aI | refine' gE | fail) <;> (conv => whnf))) <;> (solve_by_elim (newGoals := .nonDependentOnly) -symm -exfalso (transparency := .reducible) only [rfl, aC])) : P := h
theorem y08a6 {P : Prop} (h : P := by
 ((conv => whnf); repeat' ((first | refine' gC | refine' gpN | refine' gpI | refine' gpB | refine' gpS | refine' bh | refine' bj | refine' aI | refine' gE | fail) <;> (conv => whnf))) <;> (solve_by_elim (newGoals := .nonDependentOnly) -symm -exfalso (transparency := .reducible) only [rfl, aC])) : P := h
theorem z86a8 {P : Prop} (h : P := by
 ((first | apply aB.plain | refine' gC | refine' gpN | refine' gpI | refine' gpB | refine' gpS | refine' bh | refine' bj | refine' aI | refine' gE | fail) <;> (conv => whnf)) <;> (solve_by_elim (newGoals := .nonDependentOnly) -symm -exfalso (transparency := .reducible) only [rfl, aC])) : P := h
theorem z08a6 {P : Prop} (h : P := by
 ((first | refine' gC | refine' gpN | refine' gpI | refine' gpB | refine' gpS | refine' bh | refine' bj | refine' aI | refine' gE | fail) <;> (conv => whnf)) <;> (solve_by_elim (newGoals := .nonDependentOnly) -symm -exfalso (transparency := .reducible) only [rfl, aC])) : P := h
theorem z16c4 {P : Prop} (h : P := by
 ((first | apply aB.plain | refine' gC | refine' gpN | refine' gpI | refine' gpB | refine' gpS | refine' bh | refine' bj | refine' aI | refine' gE | (apply ax.quiet (by kernel_rfl) (by kernel_rfl); (conv => whnf); fail_if_success (show False))) <;> (conv => whnf)) <;> (solve_by_elim (newGoals := .nonDependentOnly) -symm -exfalso (transparency := .reducible) only [rfl, aC])) : P := h
set_option maxHeartbeats 4000000 in
theorem yN (nl : Bool) (ts : List Int) (i : Nat) (h : i <= ts.length) (nq : Bool) (l : List Sup) (hl : aT l) (h7 : l.length <= 7) (hlv : ∀ s ∈ l, s.lv.length <= 5) :
  ao Tryz.prog 5 [.ptr 0 0, .p (.list nq (l.map Sup.pv))] (src nl ts i) fun r H => ∃ (ns : List Nd) (nb : Bool) (i' : Nat), FV ns /\ i' <= ts.length /\ r = .p (.agg [.list nb (ns.map Nd.pv)]) /\ H = src nl ts i' := by
 refine aa Tryz.func5 rfl rfl au rfl ?_
 (conv => whnf); repeat' ((first | (refine IsL.lit (f := Nd.pv) [⟨-1, ByteArray.empty, true, []⟩] rfl ?_) | refine' z16c4 | fail) <;> (conv => whnf))
 refine ab.loc [0] [] rfl rfl ((tX nl ts i h l.length (by omega)).mono ?_)
 rintro r H ⟨pe, n2, i2, hpe, hi2, rfl, rfl⟩
 have hpl : pe.length = l.length := by rw [hpe.length_eq, List.length_range]
 have hpk : ∀ (j : Nat) (hj : j < pe.length), pe[j] < 7 := fun j hj => by
  have := hpe.mem_iff.1 (List.getElem_mem hj)
  rw [List.mem_range] at this
  omega
 have hpn : ∀ (j k : Nat) (hj : j < pe.length) (hk : k < pe.length), pe[j] = pe[k] -> j = k := fun j k hj hk e => by
  have hn : pe.Nodup := hpe.nodup_iff.2 List.nodup_range
  exact (List.getElem_inj hn).1 e
 refine' y16c4
 refine ai (fun (⟨c, ns, nb⟩ : Nat × List Nd × Bool) => ⟨[(0, .ptr 0 0), (1, .p (.list nq (l.map Sup.pv))), (4, .ptr 1 0), (5, .ptr 2 0), (6, .p (.list n2 (pe.map pN))), (19, .p (pI l.length)), (20, .p (pI c))], src nl ts i2 ++ [some (AO.cells [.p (.list true [])]), some (AO.cells [.p (.list nb (ns.map Nd.pv))])]⟩) (fun ⟨c, ns, nb⟩ => c <= l.length /\ FV ns /\ ns.length = c + 1 /\ ∀ n ∈ ns, n.nm = ByteArray.empty \/ ∃ (j : Nat) (hj : j < pe.length), j < c /\ n.nm = vn pe[j]) (fun ⟨c, ns, nb⟩ => l.length - c) (0, [⟨-1, ByteArray.empty, true, []⟩], false) ?_ ?_ ?_; (refine aq.ez _ [2] [] ?_; refine aq.cells _ [3] ?_; refine aq.auto rfl rfl rfl rfl ?_ ?_ <;> refine' aj)
 ·exact ⟨by omega, .start _, rfl, fun n hn => by simp at hn; subst hn; exact .inl rfl⟩
 rintro ⟨c, ns, nb⟩ ⟨hc, hf, hnl, hnm⟩
 try simp only at hc hf hnl hnm
 rcases Nat.lt_or_ge c l.length with hcl | hcg
 ·have hk := hpk c (by omega)
  have hnew : ∀ n ∈ ns, n.nm ≠ vn pe[c] := fun n hn e => by
   rcases hnm n hn with h1 | ⟨j, hj, hjc, h1⟩
   ·rw [h1] at e
    have := congrArg ByteArray.size e
    cases this
   ·have := hpn j c hj (by omega) (y5 (hpk j hj) hk (h1.symm.trans e))
    omega
  (conv => whnf); repeat' ((first | (apply PdC.same; · with_reducible rfl) | apply PdC.chk | apply PdA.mk | (apply EqA.mk; rfl) | (apply LzA.mk; · ((conv => whnf); repeat' ((first | (apply EqA.mk; rfl) | refine' z08a6 | fail) <;> (conv => whnf)))) | refine' z86a8 | (apply ax.lin tr6 (by kernel_rfl) (by decide +kernel)) | (refine ab.scalar (qi pe[c] hk) ?_)) <;> (conv => whnf))
  refine ab.loc [] [] rfl rfl ((yc nb ns hf (by omega) pe[c] hk hnew).mono ?_)
  rintro r H ⟨ms, nb2, rfl, hf2, hml, hmn, rfl⟩
  (conv => whnf); repeat' ((first | (apply PdC.same; · with_reducible rfl) | apply PdC.chk | apply PdA.mk | (apply EqA.mk; rfl) | (apply LzA.mk; · ((conv => whnf); repeat' ((first | (apply EqA.mk; rfl) | refine' z08a6 | fail) <;> (conv => whnf)))) | refine' z86a8 | (apply ax.lin tr6 (by kernel_rfl) (by decide +kernel))) <;> (conv => whnf))
  (refine' ⟨(c + 1, ms, nb2), _, _, _⟩; rotate_right; (refine aq.auto rfl rfl rfl rfl ?_ ?_ <;> refine' aj); rotate_right; exact aw)
  refine ⟨by omega, hf2, by omega, fun n hn => ?_⟩
  rcases hmn n hn with h1 | ⟨m, hm, h1⟩
  ·exact .inr ⟨c, by omega, by omega, h1⟩
  ·rcases hnm m hm with h2 | ⟨j, hj, hjc, h2⟩
   ·exact .inl (h1.trans h2)
   ·exact .inr ⟨j, hj, by omega, h1.trans h2⟩
 ·refine' y16c4
  refine ai (fun (⟨c, ns, nb, i⟩ : Nat × List Nd × Bool × Nat) => ⟨[(0, .ptr 0 0), (4, .ptr 1 0), (5, .ptr 2 0), (6, .p (.list n2 (pe.map pN))), (34, .p (.list nq (l.map Sup.pv))), (35, .p (pI l.length)), (36, .p (pI c))], src nl ts i ++ [some (AO.cells [.p (.list true [])]), some (AO.cells [.p (.list nb (ns.map Nd.pv))])]⟩) (fun ⟨c, ns, nb, i⟩ => c <= l.length /\ FV ns /\ i <= ts.length) (fun ⟨c, ns, nb, i⟩ => l.length - c) (0, ns, nb, i2) ?_ ?_ ?_; (refine aq.auto rfl rfl rfl rfl ?_ ?_ <;> refine' aj)
  ·exact ⟨by omega, hf, hi2⟩
  clear hf hnl hnm hc hcg
  rintro ⟨c, ns, nb, i⟩ ⟨hc, hf, hi⟩
  try simp only at hc hf hi
  rcases Nat.lt_or_ge c l.length with hcl | hcg
  rotate_left
  ·refine' y16c4
   (refine' ay.auto (.p (.agg [.list nb (ns.map Nd.pv)])) (src nl ts i) rfl rfl rfl rfl _ _ _ <;> refine' aj)
   exact ⟨ns, nb, i, hf, hi, rfl, rfl⟩
  have hk := hpk c (by omega)
  have hlv5 := hlv _ (List.getElem_mem hcl)
  have hpr : -1 <= l[c].par /\ l[c].par <= 16 := by have := (hl.2.2 c hcl).1; omega
  have hvs : (vn pe[c]).size = 2 := rfl
  have h47 : (⟨#[47]⟩ : ByteArray).size = 1 := rfl
  (conv => whnf); repeat' ((first | refine' z86a8 | (refine ab.scalar (qi pe[c] hk) ?_) | (refine BA.mk (by omega) ?_)) <;> (conv => whnf))
  obtain ⟨pa, hpa⟩ : ∃ pa, pa = (⟨#[47]⟩ : ByteArray) ++ vn pe[c] := ⟨_, rfl⟩
  rw [<- hpa]
  refine ab.loc [] [] rfl rfl ((b5 nb ns hf _ (pn 2) wR En).mono ?_)
  rintro _ _ ⟨ns, nb, rfl, hf, -, -, rfl⟩
  (conv => whnf); repeat' ((first | (apply PdC.same; · with_reducible rfl) | apply PdC.chk | apply PdA.mk | (apply EqA.mk; rfl) | (apply LzA.mk; · ((conv => whnf); repeat' ((first | (apply EqA.mk; rfl) | refine' z08a6 | fail) <;> (conv => whnf)))) | refine' z86a8 | (apply ax.lin Da (by kernel_rfl) (by decide +kernel)) | ((refine ab.loc [] [] rfl rfl ((bY _ [_] (by simp)).mono ?_); rintro _ _ ⟨v1, hv1, rfl, rfl⟩))) <;> (conv => whnf))
  refine ab.loc [] [] rfl rfl ((b5 nb ns hf _ (pn 5) v1 (prv 5 (by omega) (by omega) _ (by simp at hv1; omega))).mono ?_)
  rintro _ _ ⟨ns, nb, rfl, hf, -, -, rfl⟩
  (conv => whnf); repeat' ((first | (apply PdC.same; · with_reducible rfl) | apply PdC.chk | apply PdA.mk | (apply EqA.mk; rfl) | (apply LzA.mk; · ((conv => whnf); repeat' ((first | (apply EqA.mk; rfl) | refine' z08a6 | fail) <;> (conv => whnf)))) | refine' z86a8 | (apply ax.lin Da (by kernel_rfl) (by decide +kernel)) | (apply ax.lin C_ (by kernel_rfl) (by decide +kernel)) | ((refine ab.loc [] [] rfl rfl ((bY _ _ (by omega)).mono ?_); rintro _ _ ⟨v1, hv1, rfl, rfl⟩))) <;> (conv => whnf))
  refine ab.loc [] [] rfl rfl ((b5 nb ns hf _ (pn 4) v1 (prv 4 (by omega) (by omega) _ (by omega))).mono ?_)
  rintro _ _ ⟨ns, nb, rfl, hf, -, -, rfl⟩
  (conv => whnf); repeat' ((first | (apply PdC.same; · with_reducible rfl) | apply PdC.chk | apply PdA.mk | (apply EqA.mk; rfl) | (apply LzA.mk; · ((conv => whnf); repeat' ((first | (apply EqA.mk; rfl) | refine' z08a6 | fail) <;> (conv => whnf)))) | refine' z08a6 | (apply ax.lin C_ (by kernel_rfl) (by decide +kernel))) <;> (conv => whnf))
  refine aB.meet (fun (⟨ns, nb, i⟩ : List Nd × Bool × Nat) => ⟨[(0, .ptr 0 0), (4, .ptr 1 0), (5, .ptr 2 0), (6, .p (.list n2 (pe.map pN))), (9, .ptr 3 0), (10, .p (pS pa)), (34, .p (.list nq (l.map Sup.pv))), (35, .p (pI l.length)), (36, .p (pI c))], src nl ts i ++ [some (AO.cells [.p (.list true [])]), some (AO.cells [.p (.list nb (ns.map Nd.pv))]), some (AO.cells [.p (pI l[c].par), .p (.list l[c].ln (l[c].lv.map pI)), .p (pI l[c].drop), .p (pI l[c].cap), .p (pB l[c].alw)])]⟩) (fun (⟨ns, nb, i⟩ : List Nd × Bool × Nat) => FV ns /\ i <= ts.length) ?_ ?_
  ·(conv => whnf); repeat' ((first | (apply PdC.same; · with_reducible rfl) | apply PdC.chk | apply PdA.mk | (apply EqA.mk; rfl) | (apply LzA.mk; · ((conv => whnf); repeat' ((first | (apply EqA.mk; rfl) | refine' z08a6 | fail) <;> (conv => whnf)))) | refine' z86a8 | (apply ax.lin C9 (by kernel_rfl) (by decide +kernel)) | ((refine ab.loc [] [] rfl rfl ((bY _ [_] (by simp)).mono ?_); rintro _ _ ⟨v1, hv1, rfl, rfl⟩))) <;> (conv => whnf))
   ·refine ab.loc [] [] rfl rfl ((b5 nb ns hf _ (pn 6) v1 (prv 6 (by omega) (by omega) _ (by simp at hv1; omega))).mono ?_)
    rintro _ _ ⟨ns, nb, rfl, hf, -, -, rfl⟩
    (conv => whnf); repeat' ((first | (apply PdC.same; · with_reducible rfl) | apply PdC.chk | apply PdA.mk | (apply EqA.mk; rfl) | (apply LzA.mk; · ((conv => whnf); repeat' ((first | (apply EqA.mk; rfl) | refine' z08a6 | fail) <;> (conv => whnf)))) | refine' z86a8 | (apply ax.lin C9 (by kernel_rfl) (by decide +kernel))) <;> (conv => whnf))
    (refine' ⟨(ns, nb, i), _, _⟩; rotate_right; (refine aq.auto rfl rfl rfl rfl ?_ ?_ <;> refine' aj); rotate_right; exact aw)
   ·(refine' ⟨(ns, nb, i), _, _⟩; rotate_right; (refine aq.auto rfl rfl rfl rfl ?_ ?_ <;> refine' aj); rotate_right; exact aw)
  rintro ⟨ns, nb, i⟩ ⟨hf, hi⟩
  try simp only at hf hi
  with_reducible apply share
  ·intro rest
   refine' y08a6
   ·skip
    refine aB.meet (fun (⟨ns, nb, i⟩ : List Nd × Bool × Nat) => ⟨[(0, .ptr 0 0), (4, .ptr 1 0), (5, .ptr 2 0), (6, .p (.list n2 (pe.map pN))), (9, .ptr 3 0), (10, .p (pS pa)), (34, .p (.list nq (l.map Sup.pv))), (35, .p (pI l.length)), (36, .p (pI c))], src nl ts i ++ [some (AO.cells [.p (.list true [])]), some (AO.cells [.p (.list nb (ns.map Nd.pv))]), some (AO.cells [.p (pI l[c].par), .p (.list l[c].ln (l[c].lv.map pI)), .p (pI l[c].drop), .p (pI l[c].cap), .p (pB l[c].alw)])]⟩) (fun (⟨ns, nb, i⟩ : List Nd × Bool × Nat) => FV ns /\ i <= ts.length) ?_ rest.get
    (conv => whnf); repeat' ((first | (apply PdC.same; · with_reducible rfl) | apply PdC.chk | apply PdA.mk | (apply EqA.mk; rfl) | (apply LzA.mk; · ((conv => whnf); repeat' ((first | (apply EqA.mk; rfl) | refine' z08a6 | fail) <;> (conv => whnf)))) | refine' z86a8 | (apply ax.lin AP (by kernel_rfl) (by decide +kernel)) | ((refine ab.loc [] [] rfl rfl ((bY _ [_] (by simp)).mono ?_); rintro _ _ ⟨v1, hv1, rfl, rfl⟩))) <;> (conv => whnf))
    ·refine ab.loc [] [] rfl rfl ((b5 nb ns hf _ (pn 3) v1 (prv 3 (by omega) (by omega) _ (by simp at hv1; omega))).mono ?_)
     rintro _ _ ⟨ns, nb, rfl, hf, -, -, rfl⟩
     (conv => whnf); repeat' ((first | (apply PdC.same; · with_reducible rfl) | apply PdC.chk | apply PdA.mk | (apply EqA.mk; rfl) | (apply LzA.mk; · ((conv => whnf); repeat' ((first | (apply EqA.mk; rfl) | refine' z08a6 | fail) <;> (conv => whnf)))) | refine' z86a8 | (apply ax.lin AP (by kernel_rfl) (by decide +kernel))) <;> (conv => whnf))
     (refine' ⟨(ns, nb, i), _, _⟩; rotate_right; (refine aq.auto rfl rfl rfl rfl ?_ ?_ <;> refine' aj); rotate_right; exact aw)
   ·refine ab.loc [0] [] rfl rfl ((dU nl ts i hi 3 (by omega)).mono ?_)
    rintro r H ⟨v, i', hv0, hv1', hi', rfl, rfl⟩
    refine' y08a6
    refine aB.meet (fun (⟨ns, nb, i⟩ : List Nd × Bool × Nat) => ⟨[(0, .ptr 0 0), (4, .ptr 1 0), (5, .ptr 2 0), (6, .p (.list n2 (pe.map pN))), (9, .ptr 3 0), (10, .p (pS pa)), (34, .p (.list nq (l.map Sup.pv))), (35, .p (pI l.length)), (36, .p (pI c))], src nl ts i ++ [some (AO.cells [.p (.list true [])]), some (AO.cells [.p (.list nb (ns.map Nd.pv))]), some (AO.cells [.p (pI l[c].par), .p (.list l[c].ln (l[c].lv.map pI)), .p (pI l[c].drop), .p (pI l[c].cap), .p (pB l[c].alw)])]⟩) (fun (⟨ns, nb, i⟩ : List Nd × Bool × Nat) => FV ns /\ i <= ts.length) ?_ rest.get
    (conv => whnf); repeat' ((first | (apply PdC.same; · with_reducible rfl) | apply PdC.chk | apply PdA.mk | (apply EqA.mk; rfl) | (apply LzA.mk; · ((conv => whnf); repeat' ((first | (apply EqA.mk; rfl) | refine' z08a6 | fail) <;> (conv => whnf)))) | refine' z86a8 | (apply ax.lin AP (by kernel_rfl) (by decide +kernel)) | ((refine ab.loc [] [] rfl rfl ((bY _ [_] (by simp)).mono ?_); rintro _ _ ⟨v1, hv1, rfl, rfl⟩))) <;> (conv => whnf))
    ·refine ab.loc [] [] rfl rfl ((b5 nb ns hf _ (pn 3) v1 (prv 3 (by omega) (by omega) _ (by simp at hv1; omega))).mono ?_)
     rintro _ _ ⟨ns, nb, rfl, hf, -, -, rfl⟩
     (conv => whnf); repeat' ((first | (apply PdC.same; · with_reducible rfl) | apply PdC.chk | apply PdA.mk | (apply EqA.mk; rfl) | (apply LzA.mk; · ((conv => whnf); repeat' ((first | (apply EqA.mk; rfl) | refine' z08a6 | fail) <;> (conv => whnf)))) | refine' z86a8 | (apply ax.lin AP (by kernel_rfl) (by decide +kernel))) <;> (conv => whnf))
     (refine' ⟨(ns, nb, i'), _, _⟩; rotate_right; (refine aq.auto rfl rfl rfl rfl ?_ ?_ <;> refine' aj); rotate_right; exact aw)
    ·(refine' ⟨(ns, nb, i'), _, _⟩; rotate_right; (refine aq.auto rfl rfl rfl rfl ?_ ?_ <;> refine' aj); rotate_right; exact aw)
  rintro ⟨ns, nb, i⟩ ⟨hf, hi⟩
  try simp only at hf hi
  with_reducible apply share
  ·intro rest
   refine' y08a6
   ·skip
    refine aB.meet (fun (⟨ns, nb, i⟩ : List Nd × Bool × Nat) => ⟨[(0, .ptr 0 0), (4, .ptr 1 0), (5, .ptr 2 0), (6, .p (.list n2 (pe.map pN))), (9, .ptr 3 0), (10, .p (pS pa)), (34, .p (.list nq (l.map Sup.pv))), (35, .p (pI l.length)), (36, .p (pI c))], src nl ts i ++ [some (AO.cells [.p (.list true [])]), some (AO.cells [.p (.list nb (ns.map Nd.pv))]), some (AO.cells [.p (pI l[c].par), .p (.list l[c].ln (l[c].lv.map pI)), .p (pI l[c].drop), .p (pI l[c].cap), .p (pB l[c].alw)])]⟩) (fun (⟨ns, nb, i⟩ : List Nd × Bool × Nat) => FV ns /\ i <= ts.length) ?_ rest.get
    (conv => whnf); repeat' ((first | (apply PdC.same; · with_reducible rfl) | apply PdC.chk | apply PdA.mk | (apply EqA.mk; rfl) | (apply LzA.mk; · ((conv => whnf); repeat' ((first | (apply EqA.mk; rfl) | refine' z08a6 | fail) <;> (conv => whnf)))) | refine' z86a8 | (apply ax.lin AN (by kernel_rfl) (by decide +kernel)) | ((refine ab.loc [] [] rfl rfl ((bY _ [_] (by simp)).mono ?_); rintro _ _ ⟨v1, hv1, rfl, rfl⟩))) <;> (conv => whnf))
    ·refine ab.loc [] [] rfl rfl ((b5 nb ns hf _ (pn 1) v1 (prv 1 (by omega) (by omega) _ (by simp at hv1; omega))).mono ?_)
     rintro _ _ ⟨ns, nb, rfl, hf, -, -, rfl⟩
     (conv => whnf); repeat' ((first | (apply PdC.same; · with_reducible rfl) | apply PdC.chk | apply PdA.mk | (apply EqA.mk; rfl) | (apply LzA.mk; · ((conv => whnf); repeat' ((first | (apply EqA.mk; rfl) | refine' z08a6 | fail) <;> (conv => whnf)))) | refine' z86a8 | (apply ax.lin AN (by kernel_rfl) (by decide +kernel))) <;> (conv => whnf))
     (refine' ⟨(ns, nb, i), _, _⟩; rotate_right; (refine aq.auto rfl rfl rfl rfl ?_ ?_ <;> refine' aj); rotate_right; exact aw)
   ·refine ab.loc [0] [] rfl rfl ((dU nl ts i hi 3 (by omega)).mono ?_)
    rintro r H ⟨v, i', hv0, hv1', hi', rfl, rfl⟩
    refine' y08a6
    refine aB.meet (fun (⟨ns, nb, i⟩ : List Nd × Bool × Nat) => ⟨[(0, .ptr 0 0), (4, .ptr 1 0), (5, .ptr 2 0), (6, .p (.list n2 (pe.map pN))), (9, .ptr 3 0), (10, .p (pS pa)), (34, .p (.list nq (l.map Sup.pv))), (35, .p (pI l.length)), (36, .p (pI c))], src nl ts i ++ [some (AO.cells [.p (.list true [])]), some (AO.cells [.p (.list nb (ns.map Nd.pv))]), some (AO.cells [.p (pI l[c].par), .p (.list l[c].ln (l[c].lv.map pI)), .p (pI l[c].drop), .p (pI l[c].cap), .p (pB l[c].alw)])]⟩) (fun (⟨ns, nb, i⟩ : List Nd × Bool × Nat) => FV ns /\ i <= ts.length) ?_ rest.get
    (conv => whnf); repeat' ((first | (apply PdC.same; · with_reducible rfl) | apply PdC.chk | apply PdA.mk | (apply EqA.mk; rfl) | (apply LzA.mk; · ((conv => whnf); repeat' ((first | (apply EqA.mk; rfl) | refine' z08a6 | fail) <;> (conv => whnf)))) | refine' z86a8 | (apply ax.lin AN (by kernel_rfl) (by decide +kernel)) | ((refine ab.loc [] [] rfl rfl ((bY _ [_] (by simp)).mono ?_); rintro _ _ ⟨v1, hv1, rfl, rfl⟩))) <;> (conv => whnf))
    ·refine ab.loc [] [] rfl rfl ((b5 nb ns hf _ (pn 1) v1 (prv 1 (by omega) (by omega) _ (by simp at hv1; omega))).mono ?_)
     rintro _ _ ⟨ns, nb, rfl, hf, -, -, rfl⟩
     (conv => whnf); repeat' ((first | (apply PdC.same; · with_reducible rfl) | apply PdC.chk | apply PdA.mk | (apply EqA.mk; rfl) | (apply LzA.mk; · ((conv => whnf); repeat' ((first | (apply EqA.mk; rfl) | refine' z08a6 | fail) <;> (conv => whnf)))) | refine' z86a8 | (apply ax.lin AN (by kernel_rfl) (by decide +kernel))) <;> (conv => whnf))
     (refine' ⟨(ns, nb, i'), _, _⟩; rotate_right; (refine aq.auto rfl rfl rfl rfl ?_ ?_ <;> refine' aj); rotate_right; exact aw)
    ·(refine' ⟨(ns, nb, i'), _, _⟩; rotate_right; (refine aq.auto rfl rfl rfl rfl ?_ ?_ <;> refine' aj); rotate_right; exact aw)
  rintro ⟨ns, nb, i⟩ ⟨hf, hi⟩
  try simp only at hf hi
  refine' y08a6
  refine aB.meet (fun (⟨ns, nb, i⟩ : List Nd × Bool × Nat) => ⟨[(0, .ptr 0 0), (4, .ptr 1 0), (5, .ptr 2 0), (6, .p (.list n2 (pe.map pN))), (9, .ptr 3 0), (10, .p (pS pa)), (34, .p (.list nq (l.map Sup.pv))), (35, .p (pI l.length)), (36, .p (pI c))], src nl ts i ++ [some (AO.cells [.p (.list true [])]), some (AO.cells [.p (.list nb (ns.map Nd.pv))]), some (AO.cells [.p (pI l[c].par), .p (.list l[c].ln (l[c].lv.map pI)), .p (pI l[c].drop), .p (pI l[c].cap), .p (pB l[c].alw)])]⟩) (fun (⟨ns, nb, i⟩ : List Nd × Bool × Nat) => FV ns /\ i <= ts.length) ?_ ?_
  ·refine' y86a8
   ·refine ab.loc [] [] rfl rfl ((b5 nb ns hf _ (pn 0) (⟨#[]⟩ : ByteArray) (prv 0 (by omega) (by omega) _ (by decide))).mono ?_)
    rintro _ _ ⟨ns, nb, rfl, hf, -, -, rfl⟩
    refine' y86a8
    (refine' ⟨(ns, nb, i), _, _⟩; rotate_right; (refine aq.auto rfl rfl rfl rfl ?_ ?_ <;> refine' aj); rotate_right; exact aw)
   ·(refine' ⟨(ns, nb, i), _, _⟩; rotate_right; (refine aq.auto rfl rfl rfl rfl ?_ ?_ <;> refine' aj); rotate_right; exact aw)
  rintro ⟨ns, nb, i⟩ ⟨hf, hi⟩
  try simp only at hf hi
  refine' y08a6
  refine ab.loc [0] [] rfl rfl ((dU nl ts i hi 40 (by omega)).mono ?_)
  rintro r H ⟨v, i', hv0, hv1', hi', rfl, rfl⟩
  (conv => whnf); repeat' ((first | (apply PdC.same; · with_reducible rfl) | apply PdC.chk | apply PdA.mk | (apply EqA.mk; rfl) | (apply LzA.mk; · ((conv => whnf); repeat' ((first | (apply EqA.mk; rfl) | (refine IsL.lit (f := pS) [_, _, _, _, _, _] rfl ?_) | (refine IsL.lit (f := pS) [_, _, _, _] rfl ?_) | refine' z08a6 | fail) <;> (conv => whnf)))) | (refine IsL.lit (f := pS) [_, _, _, _, _, _] rfl ?_) | (refine IsL.lit (f := pS) [_, _, _, _] rfl ?_) | refine' z86a8 | (apply ax.lin AM (by kernel_rfl) (by decide +kernel))) <;> (conv => whnf))
  ·refine ab.loc [0] [] rfl rfl ((dU nl ts i' hi' 6 (by omega)).mono ?_)
   rintro r H ⟨q, i', hq0, hq1, hi', rfl, rfl⟩
   (conv => whnf); repeat' ((first | (apply PdC.same; · with_reducible rfl) | apply PdC.chk | apply PdA.mk | (apply EqA.mk; rfl) | (apply LzA.mk; · ((conv => whnf); repeat' ((first | (apply EqA.mk; rfl) | (refine IsL.lit (f := pS) [_, _, _, _, _, _] rfl ?_) | (refine IsL.lit (f := pS) [_, _, _, _] rfl ?_) | refine' z08a6 | fail) <;> (conv => whnf)))) | (refine IsL.lit (f := pS) [_, _, _, _, _, _] rfl ?_) | (refine IsL.lit (f := pS) [_, _, _, _] rfl ?_) | refine' z86a8 | (apply ax.lin AM (by kernel_rfl) (by decide +kernel)) | ((refine ab.loc [] [] rfl rfl ((bY _ [_] (by simp)).mono ?_); rintro _ _ ⟨v1, hv1, rfl, rfl⟩)) | ((refine ab.loc [] [] rfl rfl ((bY _ [_, _] (by simp)).mono ?_); rintro _ _ ⟨v2, hv2, rfl, rfl⟩))) <;> (conv => whnf))
   refine ab.loc [0] [] rfl rfl ((dU nl ts i' hi' 4 (by omega)).mono ?_)
   rintro r H ⟨p, i', hp0, hp1, hi', rfl, rfl⟩
   (conv => whnf); repeat' ((first | (apply PdC.same; · with_reducible rfl) | apply PdC.chk | apply PdA.mk | (apply EqA.mk; rfl) | (apply LzA.mk; · ((conv => whnf); repeat' ((first | (apply EqA.mk; rfl) | (refine IsL.lit (f := pS) [_, _, _, _, _, _] rfl ?_) | (refine IsL.lit (f := pS) [_, _, _, _] rfl ?_) | refine' z08a6 | fail) <;> (conv => whnf)))) | (refine IsL.lit (f := pS) [_, _, _, _, _, _] rfl ?_) | (refine IsL.lit (f := pS) [_, _, _, _] rfl ?_) | refine' z86a8 | (apply ax.lin AM (by kernel_rfl) (by decide +kernel))) <;> (conv => whnf))
   refine ab.loc [] [] rfl rfl ((b5 nb ns hf _ _ _ (Dj Cf (fun y hy => by
    simp only [List.mem_cons, List.not_mem_nil, or_false] at hy
    simp at hv1 hv2
    rcases hy with rfl | rfl | rfl | rfl
    ·decide
    ·omega
    ·omega
    ·decide) _ _)).mono ?_)
   rintro _ _ ⟨ns, nb, rfl, hf, -, -, rfl⟩
   (conv => whnf); repeat' ((first | (apply PdC.same; · with_reducible rfl) | apply PdC.chk | apply PdA.mk | (apply EqA.mk; rfl) | (apply LzA.mk; · ((conv => whnf); repeat' ((first | (apply EqA.mk; rfl) | refine' z08a6 | fail) <;> (conv => whnf)))) | refine' z86a8 | (apply ax.lin AM (by kernel_rfl) (by decide +kernel))) <;> (conv => whnf))
   (refine' ⟨(c + 1, ns, nb, i'), _, _, _⟩; rotate_right; (refine aq.auto rfl rfl rfl rfl ?_ ?_ <;> refine' aj); rotate_right; exact aw)
   exact ⟨by omega, hf, hi'⟩
  ·(refine' ⟨(c + 1, ns, nb, i'), _, _, _⟩; rotate_right; (refine aq.auto rfl rfl rfl rfl ?_ ?_ <;> refine' aj); rotate_right; exact aw)
   exact ⟨by omega, hf, hi'⟩
theorem y682c {P : Prop} (h : P := by
 ((conv => whnf); repeat' ((first | apply aB.plain | refine' gC | refine' gpN | refine' gpI | refine' gpB | refine' gpS | refine' bh | refine' bj | refine' gE | (apply ax.quiet (by kernel_rfl) (by kernel_rfl); (conv => whnf); fail_if_success (show False))) <;> (conv => whnf))) <;> (solve_by_elim (newGoals := .nonDependentOnly) -symm -exfalso (transparency := .reducible) only [rfl, aC])) : P := h
theorem At (p : bf) : ao Tryz.prog 72 [.p (Pr.pv p)] [] fun r H => r = .p (pB (decide ((256 : Int) < p.2.size))) /\ H = [] := by
 refine aa Tryz.func72 rfl rfl au rfl ?_
 refine' y682c
 (refine ay.p ?_ <;> refine' aj; all_goals try first | refine Et ?_ | refine Dq ?_)
theorem yF  (nl : Bool) (xs : List _) : ao Tryz.prog 127 [.p (.list nl (xs.map Pr.pv)), .clo (.func 72) []] [] fun r H => (∃ v : Int, r = .p (pI v) /\ (decide (0 <= v) = xs.any fun x => decide ((256 : Int) < x.2.size))) /\ H = [] := by
 refine aa Tryz.func127 rfl rfl au rfl ?_
 refine' y682c
 refine ai (fun (c : Nat) => ⟨[(0, .p (.list nl (xs.map Pr.pv))), (1, .clo (.func 72) []), (7, .p (pI xs.length)), (8, .p (pI c))], []⟩) (fun c => c <= xs.length /\ ∀ (k : Nat) (h : k < xs.length), k < c -> (fun x => decide ((256 : Int) < x.2.size)) xs[k] = false) (fun c => xs.length - c) 0 ?_ ?_ ?_; (refine aq.auto rfl rfl rfl rfl ?_ ?_ <;> refine' aj)
 ·exact ⟨by omega, by omega⟩
 rintro c ⟨hc, hok⟩
 rcases Nat.lt_or_ge c xs.length with hlt | hge
 ·refine' y682c
  refine ab.loc [] [] rfl rfl ((At xs[c]).mono ?_)
  rintro r H ⟨rfl, rfl⟩
  refine' y682c
  ·(refine' ay.auto (.p (pI c)) ([]) rfl rfl rfl rfl _ _ _ <;> refine' aj)
   refine ⟨c, rfl, ?_⟩
   rw [List.any_eq_true.2 ⟨xs[c], List.getElem_mem _, by first | exact h0 | exact decide_eq_true h0 | exact congrArg (! ·) h0 | exact decide_eq_true (by omega)⟩]
   exact decide_eq_true (by omega)
  ·(refine' ⟨c + 1, _, _, _⟩; rotate_right; (refine aq.auto rfl rfl rfl rfl ?_ ?_ <;> refine' aj); rotate_right; exact aw)
   exact ⟨by omega, Go.Abs.all_succ hok fun _ => by first | exact h0 | exact decide_eq_false h0 | exact congrArg (! ·) h0 | exact decide_eq_false (by omega)⟩
 ·refine' y682c
  (refine' ay.auto (.p (pI (-1))) ([]) rfl rfl rfl rfl _ _ _ <;> refine' aj)
  refine ⟨-1, rfl, ?_⟩
  rw [List.any_eq_false.2]
  ·rfl
  ·intro x hx
   obtain ⟨k, hk, rfl⟩ := List.getElem_of_mem hx
   exact Bool.eq_false_iff.1 (hok k hk (by omega))
theorem r8  (nl : Bool) (xs : List _) : ao Tryz.prog 71 [.p (.list nl (xs.map Pr.pv)), .clo (.func 72) []] [] fun r H => r = .p (pB (xs.any fun x => decide ((256 : Int) < x.2.size))) /\ H = [] := by
 refine aa Tryz.func71 rfl rfl au rfl ?_
 refine' y682c
 refine ab.all ((yF  nl xs).mono ?_)
 rintro r H ⟨⟨v, rfl, hv⟩, rfl⟩
 refine' y682c
 (refine' ay.auto (.p (pB (xs.any fun x => decide ((256 : Int) < x.2.size)))) ([]) rfl rfl rfl rfl _ _ _ <;> refine' aj)
 rw [<- hv]; rfl
theorem z682c {P : Prop} (h : P := by
 ((first | apply aB.plain | refine' gC | refine' gpN | refine' gpI | refine' gpB | refine' gpS | refine' bh | refine' bj | refine' gE | (apply ax.quiet (by kernel_rfl) (by kernel_rfl); (conv => whnf); fail_if_success (show False))) <;> (conv => whnf)) <;> (solve_by_elim (newGoals := .nonDependentOnly) -symm -exfalso (transparency := .reducible) only [rfl, aC])) : P := h
theorem sD (nl : Bool) (ns : List Nd) (h : UV ns) : ao Tryz.prog 73 [.p (.agg [.list nl (ns.map Nd.pv)])] [] fun r H => r = .p (pB true) /\ H = [] := by
 refine aa Tryz.func73 rfl rfl au rfl ?_
 have h1 := h.l1
 have h8 := h.l8
 refine' y682c
 refine ai (fun (c : Nat) => ⟨[(8, .p (.list nl (ns.map Nd.pv))), (9, .p (pI ns.length)), (10, .p (pI c))], []⟩) (fun c => c <= ns.length) (fun c => ns.length - c) 0 ?_ ?_ ?_; (refine aq.auto rfl rfl rfl rfl ?_ ?_ <;> refine' aj)
 ·omega
 rintro c hc
 rcases Nat.lt_or_ge c ns.length with hlt | hge
 rotate_left
 ·refine' y682c
  (refine ay.p ?_ <;> refine' aj; all_goals try first | refine Et ?_ | refine Dq ?_)
 have hp := h.fG hlt
 have h7 := hp.len
 have hpn : ∀ (d : Nat) (hd : d < ns[c].ps.length), IsP (ns[c].ps[d]).1 := fun d hd => (hp.2 _ (List.getElem_mem hd)).1
 rcases Nat.eq_zero_or_pos c with hz | hz
 ·subst hz
  have e1 := (h.root hlt).1
  have e2 : (ns[0].nm.toList == (⟨#[]⟩ : ByteArray).toList) = true := by rw [(h.root hlt).2, mn]; rfl
  refine' y682c
  refine ai (fun (d : Nat) => ⟨[(8, .p (.list nl (ns.map Nd.pv))), (9, .p (pI ns.length)), (10, .p (pI (0 : Nat))), (49, .p (.list ns[0].nl (ns[0].ps.map Pr.pv))), (50, .p (pI ns[0].ps.length)), (51, .p (pI d))], []⟩) (fun d => d <= ns[0].ps.length) (fun d => ns[0].ps.length - d) 0 ?_ ?_ ?_; (refine aq.auto rfl rfl rfl rfl ?_ ?_ <;> refine' aj)
  ·omega
  rintro d hd
  rcases Nat.lt_or_ge d ns[0].ps.length with hlt2 | hge2
  ·(conv => whnf); repeat' ((first | refine' z682c | (refine ab.scalar (m_ (hpn d hlt2)) ?_)) <;> (conv => whnf))
   (refine' ⟨d + 1, _, _, _⟩; rotate_right; (refine aq.auto rfl rfl rfl rfl ?_ ?_ <;> refine' aj); rotate_right; exact aw)
   omega
  ·refine' y682c
   (refine' ⟨0 + 1, _, _, _⟩; rotate_right; (refine aq.auto rfl rfl rfl rfl ?_ ?_ <;> refine' aj); rotate_right; exact aw)
   omega
 ·have e1 := h.par c hlt hz
  have e2 := h.nam c hlt hz
  (conv => whnf); repeat' ((first | refine' z682c | (refine ab.scalar (uq e2) ?_)) <;> (conv => whnf))
  refine ai (fun (d : Nat) => ⟨[(8, .p (.list nl (ns.map Nd.pv))), (9, .p (pI ns.length)), (10, .p (pI c)), (49, .p (.list ns[c].nl (ns[c].ps.map Pr.pv))), (50, .p (pI ns[c].ps.length)), (51, .p (pI d))], []⟩) (fun d => d <= ns[c].ps.length) (fun d => ns[c].ps.length - d) 0 ?_ ?_ ?_; (refine aq.auto rfl rfl rfl rfl ?_ ?_ <;> refine' aj)
  ·omega
  rintro d hd
  rcases Nat.lt_or_ge d ns[c].ps.length with hlt2 | hge2
  ·(conv => whnf); repeat' ((first | refine' z682c | (refine ab.scalar (m_ (hpn d hlt2)) ?_)) <;> (conv => whnf))
   (refine' ⟨d + 1, _, _, _⟩; rotate_right; (refine aq.auto rfl rfl rfl rfl ?_ ?_ <;> refine' aj); rotate_right; exact aw)
   omega
  ·refine' y682c
   (refine' ⟨c + 1, _, _, _⟩; rotate_right; (refine aq.auto rfl rfl rfl rfl ?_ ?_ <;> refine' aj); rotate_right; exact aw)
   omega
theorem sE (nl : Bool) (ns : List Nd) (h : UV ns) (k : Nat) (hk : k < ns.length) : ao Tryz.prog 75 [.p (.agg [.list nl (ns.map Nd.pv)]), .p (pI k)] [] fun r H => ∃ v : Int, 0 <= v /\ v <= 1 /\ r = .p (pI v) /\ H = [] := by
 refine aa Tryz.func75 rfl rfl au rfl ?_
 have h1 := h.l1
 rcases Nat.eq_zero_or_pos k with hz | hz
 ·subst hz
  (conv => whnf); repeat' ((first | refine' z682c | (apply cw.fu)) <;> (conv => whnf))
  (refine' ay.auto (.p (pI 0)) ([]) rfl rfl rfl rfl _ _ _ <;> refine' aj)
  exact ⟨0, by omega, by omega, rfl, rfl⟩
 ·have e1 := h.par k hk hz
  (conv => whnf); repeat' ((first | refine' z682c | (apply cw.fu)) <;> (conv => whnf))
  (refine' ay.auto (.p (pI 1)) ([]) rfl rfl rfl rfl _ _ _ <;> refine' aj)
  exact ⟨1, by omega, by omega, rfl, rfl⟩
theorem sw (nl : Bool) (ns : List Nd) (h : FV ns) : ao Tryz.prog 74 [.p (.agg [.list nl (ns.map Nd.pv)])] [] fun r H => r = .p (pB true) /\ H = [] := by
 refine aa Tryz.func74 rfl rfl au rfl ?_
 have hl1 := h.l1
 have hl8 := h.l8
 refine' y682c
 refine ai (fun (⟨c, ls⟩ : Nat × List ByteArray) => ⟨[(1, .ptr 0 0), (3, .buf 1), (13, .p (.list nl (ns.map Nd.pv))), (14, .p (pI ns.length)), (15, .p (pI c))], [some (AO.cells [.p (.list nl (ns.map Nd.pv))]), some (AO.buf 9 false (ls.map pS))]⟩) (fun ⟨c, ls⟩ => c <= ns.length /\ ls.length = ns.length /\ (∀ h0 : 0 < ls.length, c <= 1 -> ls[0] = ByteArray.empty) /\ ∀ (h0 : 0 < ls.length) (h1 : c - 1 < ns.length), 2 <= c -> ls[0] = ns[c - 1].nm) (fun ⟨c, ls⟩ => ns.length - c) (0, List.replicate ns.length ByteArray.empty) ?_ ?_ ?_; (refine aq.auto rfl rfl rfl rfl ?_ ?_ <;> refine' aj)
 ·exact ⟨by omega, by simp, fun _ _ => by simp, fun _ _ h => by omega⟩
 rintro ⟨c, ls⟩ ⟨hc, hls, hi0, hi1⟩
 try simp only at hc hls hi0 hi1
 rcases Nat.lt_or_ge c ns.length with hlt | hge
 rotate_left
 ·refine' y682c
  (refine ay.p ?_ <;> refine' aj; all_goals try first | refine Et ?_ | refine Dq ?_)
 have hp := h.fG hlt
 have h7 := hp.len
 refine' y682c
 refine ai (fun (i : Nat) => ⟨[(1, .ptr 0 0), (3, .buf 1), (4, .p (pI c)), (5, .ptr 2 0), (6, .p (pI i)), (13, .p (.list nl (ns.map Nd.pv))), (14, .p (pI ns.length)), (15, .p (pI c))], [some (AO.cells [.p (.list nl (ns.map Nd.pv))]), some (AO.buf 9 false (ls.map pS)), some (AO.cells [.p (pI ns[c].par), .p (pS ns[c].nm), .p (.list ns[c].nl (ns[c].ps.map Pr.pv))])]⟩) (fun i => 1 <= i /\ i <= ns[c].ps.length + 1) (fun i => ns[c].ps.length + 1 - i) 1 ?_ ?_ ?_; (refine aq.auto rfl rfl rfl rfl ?_ ?_ <;> refine' aj)
 ·omega
 rintro i ⟨hi1', hi2'⟩
 rcases Nat.lt_or_ge i ns[c].ps.length with hil | hig
 ·have e1 := hp.less hil (i := ((i : Int) - 1).toNat) (by omega)
  refine' y682c
  (refine' ⟨i + 1, _, _, _⟩; rotate_right; (refine aq.auto rfl rfl rfl rfl ?_ ?_ <;> refine' aj); rotate_right; exact aw)
  omega
 ·rcases Nat.eq_zero_or_pos c with hz | hz
  ·subst hz
   refine' y682c
   (refine' ⟨(0 + 1, ls), _, _, _⟩; rotate_right; (refine aq.auto rfl rfl rfl rfl ?_ ?_ <;> refine' aj); rotate_right; exact aw)
   exact ⟨by omega, hls, fun h0 _ => hi0 h0 (by omega), fun _ _ h => by omega⟩
  ·have e2 := h.par c hlt hz
   have hl0 : 0 < ls.length := by omega
   have hcmp : Op.bytesLess ns[c].nm.toList ls[0].toList = false := by
    rcases Nat.lt_or_ge 1 c with h1 | h1
    ·rw [hi1 hl0 (by omega) h1, (h.nam c hlt hz).less (h.nam (c - 1) (by omega) (by omega))]
     have := h.asc (c - 1) c hlt (by omega) (by omega)
     exact decide_eq_false (by omega)
    ·rw [hi0 hl0 h1]
     exact (h.nam c hlt hz).DD
   have fin : c + 1 <= ns.length /\ (ls.set 0 ns[c].nm).length = ns.length /\ (∀ h0 : 0 < (ls.set 0 ns[c].nm).length, c + 1 <= 1 -> (ls.set 0 ns[c].nm)[0] = ByteArray.empty) /\ ∀ (h0 : 0 < (ls.set 0 ns[c].nm).length) (h1 : c + 1 - 1 < ns.length), 2 <= c + 1 -> (ls.set 0 ns[c].nm)[0] = ns[c + 1 - 1].nm := ⟨by omega, by simp [hls], fun _ h => by omega, fun _ _ _ => by simp⟩
   rcases Nat.lt_or_ge 1 c with h1 | h1
   ·have e3 : (ns[((c : Int) - 1).toNat]'(by omega)).par = 0 := h.par _ _ (by omega)
    have e4 : (ns[((c : Int) - 1).toNat]'(by omega)).par.toNat = 0 := by omega
    have hcx : Op.bytesLess ns[c].nm.toList (ls[(ns[((c : Int) - 1).toNat]'(by omega)).par.toNat]'(by omega)).toList = false := by
     have : ∀ (j : Nat) (hj : j < ls.length), j = 0 -> Op.bytesLess ns[c].nm.toList ls[j].toList = false := by rintro j hj rfl; exact hcmp
     exact this _ _ e4
    (conv => whnf); repeat' ((first | refine' z682c | (apply cw.fu)) <;> (conv => whnf))
    (refine' ⟨(c + 1, _), _, _, _⟩; rotate_right; (refine aq.auto rfl rfl rfl rfl ?_ ?_ <;> refine' aj); rotate_right; exact aw)
    rw [e4]
    exact fin
   ·obtain rfl : c = 1 := by omega
    (conv => whnf); repeat' ((first | refine' z682c | (apply cw.fu)) <;> (conv => whnf))
    (refine' ⟨(1 + 1, _), _, _, _⟩; rotate_right; (refine aq.auto rfl rfl rfl rfl ?_ ?_ <;> refine' aj); rotate_right; exact aw)
    exact fin
def chE (ns : List Nd) : List (Value × Value) := ns.map fun n => (cP [pS n.nm, pI n.par], .bool true)
theorem tR {a b : ByteArray} {x y : Int} (h : cP [pS a, pI x] = cP [pS b, pI y]) : a = b /\ x = y := by
 simp only [cP, ca, pS, pI] at h
 injection h with h
 have h := congrArg Array.toList h
 simp at h
 exact h
theorem CK {ns : List Nd} (cs : List PV) (n : Nd) (hcs : cs = [pS n.nm, pI n.par]) : ∀ e ∈ chE ns, BB ti [(9, 0), (3, 1)] cs e.1 := by
 subst hcs
 intro e he
 obtain ⟨m, hm, rfl⟩ := List.mem_map.1 he
 refine ⟨[pS m.nm, pI m.par], (n.nm.toList == m.nm.toList) && (n.par == m.par && true), rfl, rfl, rfl, ?_⟩
 rw [mn]
 simp only [Bool.and_true, Bool.and_eq_true, decide_eq_true_eq, beq_iff_eq]
 constructor
 ·rintro ⟨h1, h2⟩
  rw [h1, h2]
 ·intro h
  have := tR h
  exact ⟨this.1.symm, this.2.symm⟩
theorem Bt {ns : List Nd} (h : UV ns) {c : Nat} (hc : c < ns.length) : pR (cP [pS ns[c].nm, pI ns[c].par]) (chE (ns.take c)) none := by
 intro e he hk
 obtain ⟨m, hm, rfl⟩ := List.mem_map.1 he
 obtain ⟨j, hj, rfl⟩ := List.getElem_of_mem hm
 simp at hj
 rw [List.getElem_take] at hk
 obtain ⟨h1, h2⟩ := tR hk
 rcases Nat.eq_zero_or_pos j with hz | hz
 ·subst hz
  rw [(h.root (by omega)).1, h.par c hc (by omega)] at h2
  cases h2
 ·have := h.dis j c hc hz (by omega)
  rw [h1] at this
  exact this rfl
theorem cb (nl : Bool) (ns : List Nd) (h : FV ns) : ao Tryz.prog 28 [.p (.agg [.list nl (ns.map Nd.pv)])] [] fun r H => r = .p (pI 0) /\ H = [] := by
 refine aa Tryz.func28 rfl rfl au rfl ?_
 have hl1 := h.l1
 have hl8 := h.l8
 refine' y682c
 refine ai (fun (c : Nat) => ⟨[(1, .ptr 0 0), (21, .p (.list nl (ns.map Nd.pv))), (22, .p (pI ns.length)), (23, .p (pI c))], [some (AO.cells [.p (.list nl (ns.map Nd.pv))])]⟩) (fun c => c <= ns.length) (fun c => ns.length - c) 0 ?_ ?_ ?_; (refine aq.auto rfl rfl rfl rfl ?_ ?_ <;> refine' aj)
 ·omega
 rintro c hc
 rcases Nat.lt_or_ge c ns.length with hlt | hge
 ·have hp := h.fG hlt
  have h7 := hp.len
  have hb : (ns[c].ps.any fun x => decide ((256 : Int) < x.2.size)) = false := List.any_eq_false.2 fun q hq => by
   have := (hp.2 q hq).2.1
   simp; omega
  (conv => whnf); repeat' ((first | refine' z682c | (refine ab.scalar (r8 ns[c].nl ns[c].ps) ?_)) <;> (conv => whnf))
  (refine' ⟨c + 1, _, _, _⟩; rotate_right; (refine aq.auto rfl rfl rfl rfl ?_ ?_ <;> refine' aj); rotate_right; exact aw)
  omega
 (conv => whnf); repeat' ((first | refine' z682c | (refine ab.scalar (sD nl ns h.toUV) ?_) | (refine ab.scalar (sw nl ns h) ?_)) <;> (conv => whnf))
 refine ai (fun (c : Nat) => ⟨[(1, .ptr 0 0), (5, .mp 1), (45, .p (.list nl (ns.map Nd.pv))), (46, .p (pI ns.length)), (47, .p (pI c))], [some (AO.cells [.p (.list nl (ns.map Nd.pv))]), some (AO.map (chE (ns.take c)))]⟩) (fun c => c <= ns.length) (fun c => ns.length - c) 0 ?_ ?_ ?_; (refine aq.auto rfl rfl rfl rfl ?_ ?_ <;> refine' aj)
 ·omega
 rintro c hc
 rcases Nat.lt_or_ge c ns.length with hlt | hge
 ·have hk := CK (ns := ns.take c) _ ns[c] rfl
  have hn := Bt h.toUV hlt
  have e2 : chE (ns.take (c + 1)) = chE (ns.take c) ++ [(cP [pS ns[c].nm, pI ns[c].par], .bool true)] := by
   rw [chE, List.take_succ_eq_append_getElem hlt, List.map_append]
   rfl
  (conv => whnf); repeat' ((first | (refine tY.mk none _ rfl rfl hk hn ?_) | refine' z682c | fail) <;> (conv => whnf))
  all_goals
   rw [<- e2]
   (refine' ⟨c + 1, _, _, _⟩; rotate_right; (refine aq.auto rfl rfl rfl rfl ?_ ?_ <;> refine' aj); rotate_right; exact aw)
   omega
 ·refine' y682c
  refine ai (fun (c : Nat) => ⟨[(1, .ptr 0 0), (69, .p (pI ns.length)), (70, .p (pI c))], [some (AO.cells [.p (.list nl (ns.map Nd.pv))])]⟩) (fun c => c <= ns.length) (fun c => ns.length - c) 0 ?_ ?_ ?_; (refine aq.auto rfl rfl rfl rfl ?_ ?_ <;> refine' aj)
  ·omega
  rintro c hc
  rcases Nat.lt_or_ge c ns.length with hlt | hge
  ·refine' y682c
   refine ab.loc [] [] rfl rfl ((sE nl ns h.toUV c hlt).mono ?_)
   rintro _ _ ⟨v, hv0, hv1, rfl, rfl⟩
   refine' y682c
   (refine' ⟨c + 1, _, _, _⟩; rotate_right; (refine aq.auto rfl rfl rfl rfl ?_ ?_ <;> refine' aj); rotate_right; exact aw)
   omega
  ·refine' y682c
   (refine ay.p ?_ <;> refine' aj; all_goals try first | refine Et ?_ | refine Dq ?_)
theorem p_ (n : Int) : [IntKind.u8.wrap (n.fdiv (2 ^ (min (24 : Int).toNat IntKind.i64.bits))), IntKind.u8.wrap (n.fdiv (2 ^ (min (16 : Int).toNat IntKind.i64.bits))), IntKind.u8.wrap (n.fdiv (2 ^ (min (8 : Int).toNat IntKind.i64.bits))), IntKind.u8.wrap n] = aU n := by
 simp only [IntKind.wrap_u8]
 rw [show n.fdiv (2 ^ (min (24 : Int).toNat IntKind.i64.bits)) = n / 16777216 from Int.fdiv_eq_ediv_of_nonneg _ (by decide), show n.fdiv (2 ^ (min (16 : Int).toNat IntKind.i64.bits)) = n / 65536 from Int.fdiv_eq_ediv_of_nonneg _ (by decide), show n.fdiv (2 ^ (min (8 : Int).toNat IntKind.i64.bits)) = n / 256 from Int.fdiv_eq_ediv_of_nonneg _ (by decide)]
 rfl
theorem qa {xs : List Int} {c : Nat} (h : c < xs.length) : (xs.take (c + 1)).flatMap aU = (xs.take c).flatMap aU ++ aU xs[c] := by
 rw [List.take_succ_eq_append_getElem h, List.flatMap_append]
 simp
theorem j_ (xs : List Int) : (xs.flatMap aU).length = 4 * xs.length := by
 induction xs with
 | nil => rfl
 | cons x r ih => rw [List.flatMap_cons, List.length_append, ih, az, List.length_cons]; omega
theorem y4afe {P : Prop} (h : P := by
 ((conv => whnf); repeat' ((first | apply aB.plain | refine' gC | refine' gpI | refine' ia | refine' gpB | refine' gpS | refine' gE | (apply ax.quiet (by kernel_rfl) (by kernel_rfl); (conv => whnf); fail_if_success (show False))) <;> (conv => whnf))) <;> (solve_by_elim (newGoals := .nonDependentOnly) -symm -exfalso (transparency := .reducible) only [rfl, aC])) : P := h
theorem z4afe {P : Prop} (h : P := by
 ((first | apply aB.plain | refine' gC | refine' gpI | refine' ia | refine' gpB | refine' gpS | refine' gE | (apply ax.quiet (by kernel_rfl) (by kernel_rfl); (conv => whnf); fail_if_success (show False))) <;> (conv => whnf)) <;> (solve_by_elim (newGoals := .nonDependentOnly) -symm -exfalso (transparency := .reducible) only [rfl, aC])) : P := h
theorem gV (nb : Bool) (bs : List Int) (nl : Bool) (xs : List Int) (h0 : xs ≠ []) (hb : bs.length <= 100000) (hx : xs.length <= 100) : ao Tryz.prog 77 [.buf 0, .p (.list nl (xs.map pI))] [some (AO.buf 5 nb (bs.map pU8))]
  fun r H => ∃ nb', r = .buf 1 /\ H = [none, some (AO.buf 5 nb' ((bs ++ xs.flatMap aU).map pU8))] := by
 refine aa Tryz.func77 rfl rfl au rfl ?_
 refine' y4afe
 refine ai (fun (⟨c, zs, nb⟩ : Nat × List Int × Bool) => ⟨[(0, .buf 1), (7, .p (.list nl (xs.map pI))), (8, .p (pI xs.length)), (9, .p (pI c))], [none, some (AO.buf 5 nb (zs.map pU8))]⟩) (fun ⟨c, zs, nb⟩ => c <= xs.length /\ zs = bs ++ (xs.take c).flatMap aU) (fun ⟨c, zs, nb⟩ => xs.length - c) (0, bs, nb) ?_ ?_ ?_; (refine aq.auto rfl rfl rfl rfl ?_ ?_ <;> refine' aj)
 ·exact ⟨by omega, by simp⟩
 rintro ⟨c, zs, nb⟩ ⟨hc, hz⟩
 try simp only at hc hz
 have hzl : zs.length <= 100400 := by rw [hz, List.length_append, j_, List.length_take]; omega
 rcases Nat.lt_or_ge c xs.length with hlt | hge
 ·(conv => whnf); repeat' ((first | (refine NW.mk (kd := .u8) _ rfl ?_) | refine' z4afe | (apply IsL.lit (f := pU8) [_, _, _, _] rfl)) <;> (conv => whnf))
  (refine' ⟨(c + 1, _, _), _, _, _⟩; rotate_right; (refine aq.auto rfl rfl rfl rfl ?_ ?_ <;> refine' aj); rotate_right; exact aw)
  refine ⟨by omega, ?_⟩
  rw [p_, qa hlt, hz, List.append_assoc]
 ·obtain rfl : c = xs.length := by omega
  rw [List.take_length] at hz
  subst hz
  refine' y4afe
  (refine' ay.auto (.buf 1) ([none, some (AO.buf 5 nb ((bs ++ xs.flatMap aU).map pU8))]) rfl rfl rfl rfl _ _ _ <;> refine' aj)
  exact ⟨nb, rfl, rfl⟩
theorem yd (nl : Bool) (xs : List Int) (hx : xs.length <= 100) : ao Tryz.prog 77 [.p (.list true []), .p (.list nl (xs.map pI))] []
  fun r H => ∃ nb', r = .buf 0 /\ H = [some (AO.buf 5 nb' ((xs.flatMap aU).map pU8))] := by
 refine aa Tryz.func77 rfl rfl au rfl ?_
 refine' y4afe
 refine ai (fun (⟨c, zs, nb⟩ : Nat × List Int × Bool) => ⟨[(0, .buf 0), (7, .p (.list nl (xs.map pI))), (8, .p (pI xs.length)), (9, .p (pI c))], [some (AO.buf 5 nb (zs.map pU8))]⟩) (fun ⟨c, zs, nb⟩ => c <= xs.length /\ zs = (xs.take c).flatMap aU) (fun ⟨c, zs, nb⟩ => xs.length - c) (0, [], true) ?_ ?_ ?_; (refine aq.kM (5, 0) rfl rfl rfl rfl rfl ?_ ?_ <;> refine' aj)
 ·exact ⟨by omega, by simp⟩
 rintro ⟨c, zs, nb⟩ ⟨hc, hz⟩
 try simp only at hc hz
 have hzl : zs.length <= 100400 := by rw [hz, j_, List.length_take]; omega
 rcases Nat.lt_or_ge c xs.length with hlt | hge
 ·(conv => whnf); repeat' ((first | (refine NW.mk (kd := .u8) _ rfl ?_) | refine' z4afe | (apply IsL.lit (f := pU8) [_, _, _, _] rfl)) <;> (conv => whnf))
  (refine' ⟨(c + 1, _, _), _, _, _⟩; rotate_right; (refine aq.auto rfl rfl rfl rfl ?_ ?_ <;> refine' aj); rotate_right; exact aw)
  refine ⟨by omega, ?_⟩
  rw [p_, qa hlt, hz]
 ·obtain rfl : c = xs.length := by omega
  rw [List.take_length] at hz
  subst hz
  refine' y4afe
  (refine' ay.auto (.buf 0) ([some (AO.buf 5 nb ((xs.flatMap aU).map pU8))]) rfl rfl rfl rfl _ _ _ <;> refine' aj)
  exact ⟨nb, rfl, rfl⟩
def eV (least : Int) (n : Nat) : Nat := if least = 1 then 4 - n % 4 else (4 - n % 4) % 4
theorem l_ (nb : Bool) (bs : List Int) (s : ByteArray) (least : Int) (hl : least = 0 \/ least = 1) (hb : bs.length <= 100000) (hs : s.size <= 1000) : ao Tryz.prog 78 [.buf 0, .p (pS s), .p (pI least)] [some (AO.buf 5 nb (bs.map pU8))]
  fun r H => ∃ nb', r = .buf 1 /\ H = [none, some (AO.buf 5 nb' ((bs ++ (bl s ++ aY (eV least s.size))).map pU8))] := by
 refine aa Tryz.func78 rfl rfl au rfl ?_
 have hsl := aQ s
 have hK : eV least s.size <= 4 := by unfold eV; split <;> omega
 (conv => whnf); repeat' ((first | (refine IsL.mk ((bl s).map pU8) (sI s) ?_) | refine' z4afe | fail) <;> (conv => whnf))
 refine' ai (fun (⟨j, zs, nb⟩ : Nat × List Int × Bool) => ⟨[(0, .buf 1), (2, .p (pI (least - j))), (7, .p (pI (s.size + j : Nat)))], [none, some (AO.buf 5 nb (zs.map pU8))]⟩) (fun ⟨j, zs, nb⟩ => j <= eV least s.size /\ zs = bs ++ (bl s ++ aY j)) (fun ⟨j, zs, nb⟩ => eV least s.size - j) (0, bs ++ bl s, _) _ _ _; rotate_right; rotate_right; rotate_right; (refine aq.auto rfl rfl rfl rfl ?_ ?_ <;> refine' aj)
 ·exact ⟨by omega, by simp [aY]⟩
 rintro ⟨j, zs, nb⟩ ⟨hj, hz⟩
 try simp only at hj hz
 have hzl : zs.length <= 101004 := by rw [hz]; simp [hsl, aY]; omega
 have hm : ((s.size + j : Nat) : Int).tmod 4 = (((s.size + j) % 4 : Nat) : Int) := (Int.ofNat_tmod _ 4).symm
 rcases Nat.lt_or_ge j (eV least s.size) with hlt | hge
 ·have hc : 0 < least - j \/ ((((s.size + j) % 4 : Nat)) : Int) ≠ 0 := by
   unfold eV at hlt
   split at hlt <;> omega
  refine' y4afe
  all_goals first
   | (exfalso; omega)
   | ((refine' ⟨(j + 1, _, _), _, _, _⟩; rotate_right; (refine aq.auto rfl rfl rfl rfl ?_ ?_ <;> refine' aj); rotate_right; exact aw)
      refine ⟨by omega, ?_⟩
      rw [hz]
      simp [aY, List.replicate_succ'])
 ·have hc : ¬ 0 < least - j /\ ((((s.size + j) % 4 : Nat)) : Int) = 0 := by
   unfold eV at hge hj
   split at hge
   ·rw [if_pos (by assumption)] at hj; omega
   ·rw [if_neg (by assumption)] at hj; omega
  obtain rfl : j = eV least s.size := by omega
  subst hz
  refine' y4afe
  (refine' ay.auto (.buf 1) ([none, some (AO.buf 5 nb ((bs ++ (bl s ++ aY (eV least s.size))).map pU8))]) rfl rfl rfl rfl _ _ _ <;> refine' aj)
  exact ⟨nb, rfl, rfl⟩
def ph (bs : List Int) : Nat -> Int
 | 0 => 0
 | i + 1 => (ph bs i + bs.getD i 0 * ((i : Int) + 1)) % 4294967296
def iN (bs : List Int) : Int := ph bs bs.length
theorem na (bs : List Int) (i : Nat) : 0 <= ph bs i /\ ph bs i < 4294967296 := by
 cases i with
 | zero => unfold ph; omega
 | succ i => unfold ph; omega
theorem cB (bs : List Int) : 0 <= iN bs /\ iN bs < 4294967296 := na _ _
theorem fO (nl : Bool) (bs : List Int) (hb : ∀ b ∈ bs, 0 <= b /\ b < 256) (hl : bs.length <= 100000) : ao Tryz.prog 80 [.p (.list nl (bs.map pU8))] [] fun r H => r = .p (pI (iN bs)) /\ H = [] := by
 refine aa Tryz.func80 rfl rfl au rfl ?_
 refine' y4afe
 refine ai (fun (c : Nat) => ⟨[(3, .p (.v (.int .u32 (ph bs c)))), (6, .p (.list nl (bs.map pU8))), (7, .p (pI bs.length)), (8, .p (pI c))], []⟩) (fun c => c <= bs.length) (fun c => bs.length - c) 0 ?_ ?_ ?_; (refine aq.auto rfl rfl rfl rfl ?_ ?_ <;> refine' aj)
 ·omega
 rintro c hc
 rcases Nat.lt_or_ge c bs.length with hlt | hge
 ·have h1 := hb _ (List.getElem_mem hlt)
  have h2 : 0 <= bs[c] * ((c : Int) + 1) /\ bs[c] * ((c : Int) + 1) <= 255 * 100001 := by
   refine ⟨Int.mul_nonneg h1.1 (by omega), ?_⟩
   exact Int.mul_le_mul (by omega) (by omega) (by omega) (by omega)
  have h3 := na bs c
  have h4 : IntKind.u32.wrap (ph bs c + bs[c] * ((c : Int) + 1)) = ph bs (c + 1) := by
   rw [IntKind.wrap_u32, ph, List.getD_eq_getElem?_getD, List.getElem?_eq_getElem hlt]
   rfl
  refine' y4afe
  (refine' ⟨c + 1, _, _, _⟩; rotate_right; (refine aq.auto rfl rfl rfl rfl ?_ ?_ <;> refine' aj); rotate_right; exact aw)
  omega
 ·obtain rfl : c = bs.length := by omega
  have h3 := cB bs
  unfold iN at *
  refine' y4afe
  (refine ay.p ?_ <;> refine' aj; all_goals try first | refine Et ?_ | refine Dq ?_)
def mpE (L : List ByteArray) : List (Value × Value) := L.map fun s => (.string s, .int .i64 (place L s : Nat))
theorem uL (L : List ByteArray) : ∀ e ∈ mpE L, MapKept.IsKey .string e.1 := by
 intro e he
 obtain ⟨s, hs, rfl⟩ := List.mem_map.1 he
 exact trivial
theorem A6 {L : List ByteArray} {s : ByteArray} (h : s ∈ L) : pR (.string s) (mpE L) (some (.int .i64 (place L s : Nat))) := by
 refine ⟨⟨_, List.mem_map.2 ⟨s, h, rfl⟩, rfl⟩, fun e he hk => ?_⟩
 obtain ⟨t, ht, rfl⟩ := List.mem_map.1 he
 simp at hk
 subst hk
 rfl
theorem vT {L : List ByteArray} {s : ByteArray} (h : s ∉ L) : pR (.string s) (mpE L) none := by
 intro e he hk
 obtain ⟨t, ht, rfl⟩ := List.mem_map.1 he
 simp at hk
 subst hk
 exact h ht
theorem A7 {L : List ByteArray} {s : ByteArray} (h : s ∉ L) : mpE (L ++ [s]) = mpE L ++ [(.string s, .int .i64 ((strs L).length : Nat))] := by
 unfold mpE
 rw [List.map_append]
 congr 1
 ·exact List.map_congr_left fun t ht => by rw [kf [s] ht]
 ·simp [qd h]
def wNH (n1 : Bool) (st : List Int) (n2 : Bool) (L : List ByteArray) : AH := [some (.cells [.buf 1, .buf 2, .mp 3]), some (AO.buf 5 n1 (st.map pU8)), some (AO.buf 5 n2 ((strs L).map pU8)), some (.map (mpE L))]
def wNR (n1 : Bool) (st : List Int) (n2 : Bool) (L : List ByteArray) : AH := [some (.cells [.buf 1, .buf 4, .mp 3]), some (AO.buf 5 n1 (st.map pU8)), none, some (.map (mpE L)), some (AO.buf 5 n2 ((strs L).map pU8))]
theorem ui (n1 : Bool) (st : List Int) (n2 : Bool) (L : List ByteArray) (s : ByteArray) (hs : s.size <= 100) (hL : (strs L).length <= 10000) : ao Tryz.prog 79 [.ptr 0 0, .p (pS s)] (wNH n1 st n2 L)
  fun r H => ∃ n2', r = .p (pI (place (fy L s) s : Nat)) /\ H = wNR n1 st n2' (fy L s) := by
 refine aa Tryz.func79 rfl rfl au rfl ?_
 have hsl := aQ s
 by_cases h : s ∈ L
 ·have ea : fy L s = L := by unfold fy; rw [if_pos (sa.2 h)]
  rw [ea]
  (conv => whnf); repeat' ((first | refine' z4afe | ((refine wJ.mk _ trivial (uL L) (A6 h) ?_))) <;> (conv => whnf))
  refine' ay.mk _ _ _ [2] (.p (pI (place L s : Nat))) (wNR n1 st n2 L) rfl rfl _ rfl rfl ⟨n2, rfl, rfl⟩
  (all_goals try refine' aj)
 ·have ea : fy L s = L ++ [s] := by unfold fy; rw [if_neg (fun e => h (sa.1 e))]
  rw [ea, qd h]
  (conv => whnf); repeat' ((first | (refine vA.mk trivial (uL L) (vT h) ?_) | (refine IsL.mk ((bl s).map pU8) (sI s) ?_) | refine' z4afe | ((refine wJ.mk _ trivial (uL L) (vT h) ?_))) <;> (conv => whnf))
  rw [<- A7 h]
  have e2 : strs L ++ bl s ++ [0] = strs (L ++ [s]) := by rw [lO, List.append_assoc]; simp [strs]
  rw [e2]
  refine' ay.mk _ _ _ [6] (.p (pI ((strs L).length : Nat))) (wNR n1 st _ (L ++ [s])) rfl rfl _ rfl rfl ⟨_, rfl, rfl⟩
  all_goals (all_goals try refine' aj)
def clA : Ln := (.lazy 0 (.lazy 1 (.lazy 2 (.lazy 3 (.lazy 4 (.lazy 5 (.one 6 (.lazy 7 (.lazy 8 (.one 9 .done))))))))))
def cH (no : Bool) (op : List Int) (n1 : Bool) (st : List Int) (n2 : Bool) (ss : List Int) (es : List (Value × Value)) : AH := [some (.cells [.buf 1]), some (AO.buf 3 no (op.map pI)), some (.cells [.ptr 3 0]), some (.cells [.buf 4, .buf 5, .mp 6]), some (AO.buf 5 n1 (st.map pU8)), some (AO.buf 5 n2 (ss.map pU8)), some (.map es)]
def cR (no : Bool) (op : List Int) (n1 : Bool) (st : List Int) (n2 : Bool) (ss : List Int) (es : List (Value × Value)) : AH := [some (.cells [.buf 7]), none, some (.cells [.ptr 3 0]), some (.cells [.buf 8, .buf 5, .mp 6]), none, some (AO.buf 5 n2 (ss.map pU8)), some (.map es), some (AO.buf 3 no (op.map pI)), some (AO.buf 5 n1 (st.map pU8))]
theorem iE (p : Int) : ∀ k : List Int, (a_ p k).2 + (a_ p k).1.length = k.length
 | [] => rfl
 | x :: r => by
  unfold a_
  split
  ·simp
  ·have := iE p r
   simp only [List.length_cons]
   omega
theorem z6c3f {P : Prop} (h : P := by
 ((first | apply aB.plain | refine' gC | refine' gpI | refine' ia | refine' gpB | refine' gpS | refine' gE | fail) <;> (conv => whnf)) <;> (solve_by_elim (newGoals := .nonDependentOnly) -symm -exfalso (transparency := .reducible) only [rfl, aC])) : P := h
theorem z2386 {P : Prop} (h : P := by
 ((first | refine' gC | refine' gpI | refine' ia | refine' gpB | refine' gpS | refine' gE | fail) <;> (conv => whnf)) <;> (solve_by_elim (newGoals := .nonDependentOnly) -symm -exfalso (transparency := .reducible) only [rfl, aC])) : P := h
theorem oM (par : Int) (no : Bool) (k : List Int) (n1 : Bool) (st : List Int) (n2 : Bool) (ss : List Int) (es : List (Value × Value)) (hk : k.length <= 10) (hs : st.length <= 50000) : ao Tryz.prog 76 [.p (pI par), .ptr 0 0, .ptr 2 0] (cH no k.reverse n1 st n2 ss es)
  fun r H => ∃ no' n1', r = .tup [] /\ H = cR no' (a_ par k).1.reverse n1' (st ++ (List.replicate (a_ par k).2 (aU 2)).flatten) n2 ss es := by
 refine aa Tryz.func76 rfl rfl au rfl ?_
 have hpl := iE par k
 refine' y4afe
 refine ai (fun (⟨op, no, zs, n1⟩ : List Int × Bool × List Int × Bool) => ⟨[(0, .p (pI par)), (1, .ptr 0 0), (2, .ptr 2 0)], cR no op n1 zs n2 ss es⟩) (fun ⟨op, no, zs, n1⟩ => ∃ (j : Nat) (cur : List Int), op = cur.reverse /\ zs = st ++ (List.replicate j (aU 2)).flatten /\ j + cur.length = k.length /\ (a_ par k).2 = j + (a_ par cur).2 /\ (a_ par k).1 = (a_ par cur).1) (fun ⟨op, no, zs, n1⟩ => op.length) (k.reverse, no, st, n1) ?_ ?_ ?_; (refine aq.of [1, 4] rfl ?_ ?_ rfl rfl <;> refine' aj)
 ·exact ⟨0, k, rfl, by simp, by simp, by simp, rfl⟩
 rintro ⟨op, no, zs, n1⟩ ⟨j, cur, hop, hz, hj, h1, h2⟩
 try simp only at hop hz hj h1 h2
 have hzl : zs.length <= 60000 := by rw [hz]; simp [az]; omega
 rcases cur with _ | ⟨x, r⟩
 ·have e1 : (a_ par ([] : List Int)) = ([], 0) := rfl
  rw [e1] at h1 h2
  rw [h1, h2]
  have hop : op = [] := hop
  subst hz
  have hol : op.length = 0 := by rw [hop]; rfl
  refine' y4afe
  (refine' ay.mk _ _ _ [7, 8] (.tup []) (cR no op n1 (st ++ (List.replicate j (aU 2)).flatten) n2 ss es) rfl rfl _ rfl rfl _ <;> refine' aj)
  exact ⟨no, n1, rfl, by rw [hop]; rfl⟩
 ·have hol : op.length = r.length + 1 := by rw [hop]; simp
  have hlast : op[((op.length : Int) - 1).toNat]'(by omega) = x := by
   subst hop
   simp
  have hcut : (op.map pI).take ((op.length : Int) - 1).toNat = r.reverse.map pI := by
   subst hop
   rw [show (((x :: r).reverse.length : Int) - 1).toNat = r.reverse.length by simp]
   simp
  by_cases hx : x = par
  ·have e1 : a_ par (x :: r) = (x :: r, 0) := by unfold a_; rw [if_pos hx]
   rw [e1] at h1 h2
   rw [h1, h2]
   subst hz
   refine' y4afe
   (refine' ay.mk _ _ _ [7, 8] (.tup []) (cR no op n1 (st ++ (List.replicate j (aU 2)).flatten) n2 ss es) rfl rfl _ rfl rfl _ <;> refine' aj)
   exact ⟨no, n1, rfl, by rw [hop]; rfl⟩
  ·have e1 : a_ par (x :: r) = ((a_ par r).1, (a_ par r).2 + 1) := by rw [a_, if_neg hx]
   rw [e1] at h1 h2
   simp only [List.length_cons] at hj
   (conv => whnf); repeat' ((first | (apply PdC.same; · with_reducible rfl) | apply PdC.chk | apply PdA.mk | (apply EqA.mk; rfl) | (apply LzA.mk; · ((conv => whnf); repeat' ((first | (apply EqA.mk; rfl) | (refine sj.own ?_) | (refine IsL.mk (r.reverse.map pI) hcut ?_) | refine' z2386 | fail) <;> (conv => whnf)))) | (refine sj.own ?_) | (refine IsL.mk (r.reverse.map pI) hcut ?_) | refine' z6c3f | (apply ax.lin clA (by kernel_rfl) (by decide +kernel))) <;> (conv => whnf))
   refine ab.loc [8] [] rfl rfl ((gV n1 zs false [2] (by simp) (by omega) (by simp)).mono ?_)
   rintro _ _ ⟨nb, rfl, rfl⟩
   (conv => whnf); repeat' ((first | (apply PdC.same; · with_reducible rfl) | apply PdC.chk | apply PdA.mk | (apply EqA.mk; rfl) | (apply LzA.mk; · ((conv => whnf); repeat' ((first | (apply EqA.mk; rfl) | refine' z2386 | fail) <;> (conv => whnf)))) | refine' z6c3f | (apply ax.lin clA (by kernel_rfl) (by decide +kernel))) <;> (conv => whnf))
   (refine' ⟨(r.reverse, no, _, nb), _, _, _⟩; rotate_right; (refine aq.of [9, 10] rfl ?_ ?_ rfl rfl <;> refine' aj); rotate_right; exact aw)
   refine ⟨j + 1, r, rfl, ?_, by omega, by rw [h1]; simp only; omega, h2⟩
   rw [hz, List.append_assoc, List.replicate_succ', List.flatten_append]
   simp
def en9 : Ln := (.lazy 0 (.lazy 1 (.lazy 2 (.lazy 3 (.lazy 4 (.lazy 5 (.lazy 7 (.lazy 8 (.one 6 (.one 9 (.lazy 10 (.lazy 11 (.one 12 .done)))))))))))))
def Bq : Ln := (.lazy 0 (.lazy 1 (.lazy 2 (.lazy 3 (.lazy 4 (.lazy 5 (.lazy 6 (.lazy 7 (.lazy 8 (.lazy 9 (.lazy 10 (.lazy 14 (.lazy 15 (.one 11 (.lazy 12 (.one 13 (.one 16 (.lazy 17 (.lazy 18 (.one 19 .done))))))))))))))))))))
def CC : Ln := (.lazy 0 (.lazy 1 (.lazy 2 (.lazy 3 (.lazy 4 (.lazy 5 (.one 6 (.lazy 7 (.lazy 8 (.one 9 .done))))))))))
def CB : Ln := (.lazy 0 (.lazy 1 (.lazy 2 (.lazy 3 (.lazy 4 (.lazy 5 (.lazy 6 (.lazy 7 (.lazy 8 (.lazy 9 (.lazy 10 (.lazy 11 (.lazy 12 (.lazy 13 (.lazy 14 (.lazy 15 (.lazy 16 (.lazy 17 (.lazy 18 (.lazy 19 (.lazy 20 (.lazy 21 (.lazy 22 (.lazy 23 (.lazy 24 (.lazy 25 (.lazy 27 (.lazy 28 (.lazy 29 (.lazy 30 (.one 26 (.one 31 (.lazy 32 (.one 33 (.lazy 34 .done)))))))))))))))))))))))))))))))))))
def Ey : Ln := (.lazy 0 (.lazy 1 (.lazy 2 (.lazy 3 (.lazy 4 (.lazy 6 (.lazy 7 (.lazy 8 (.lazy 9 (.one 5 (.one 10 (.lazy 11 .done))))))))))))
def Nd.b (n : Nd) : bD := (n.par, n.nm, n.ps)
def eH (no : Bool) (op : List Int) (n1 : Bool) (st : List Int) (n2 : Bool) (L : List ByteArray) : AH := [some (.cells [.ptr 1 0]), some (.cells [.buf 2, .buf 3, .mp 4]), some (AO.buf 5 n1 (st.map pU8)), some (AO.buf 5 n2 ((strs L).map pU8)), some (.map (mpE L)), some (.cells [.buf 6]), some (AO.buf 3 no (op.map pI))]
structure EI (T ts : List Tok) (rest : List Tok) (L : List ByteArray) (st : List Int) : Prop where
 all : T = ts ++ rest
 tab : L = cr ts
 nam : ∀ t ∈ ts, ∀ n ∈ t.names, n ∈ L
 byt : st = aR L ts
theorem EI.start {T : List Tok} : EI T [] T [] [] := ⟨rfl, rfl, fun t ht => (by cases ht), rfl⟩
theorem EI.plain {T ts us rest : List Tok} {L : List ByteArray} {st bs : List Int} (h : EI T ts (us ++ rest) L st) (hn : ∀ t ∈ us, t.names = []) (hb : aR L us = bs) : EI T (ts ++ us) rest L (st ++ bs) := by
 refine ⟨by rw [h.all, List.append_assoc], ?_, fun t ht n hx => ?_, by rw [h.byt, <- hb, iT]⟩
 ·rw [h.tab, cr, cr, List.flatMap_append]
  have : us.flatMap Tok.names = [] := by
   rw [List.flatMap_eq_nil_iff]
   exact hn
  rw [this, List.append_nil]
 ·rcases List.mem_append.1 ht with ht | ht
  ·exact h.nam t ht n hx
  ·rw [hn t ht] at hx
   cases hx
theorem EI.prop {T ts rest : List Tok} {L : List ByteArray} {st bs : List Int} {n v : ByteArray} (h : EI T ts (.prop n v :: rest) L st) (hb : (Tok.prop n v).bytes (fy L n) = bs) : EI T (ts ++ [.prop n v]) rest (fy L n) (st ++ bs) := by
 have hmem : ∀ t ∈ ts, ∀ x ∈ t.names, x ∈ L := h.nam
 obtain ⟨M, hM⟩ := yM L n
 refine ⟨by rw [h.all, List.append_assoc]; rfl, ?_, fun t ht x hx => ?_, ?_⟩
 ·rw [h.tab, cr, cr, List.flatMap_append, List.foldl_append]
  rfl
 ·rcases List.mem_append.1 ht with ht | ht
  ·exact oV.2 (.inl (h.nam t ht x hx))
  ·simp at ht
   subst ht
   simp [Tok.names] at hx
   exact oV.2 (.inr hx)
 ·rw [h.byt, <- hb, iT]
  congr 1
  ·rw [hM]
   exact (sC M h.nam).symm
  ·simp [aR]
theorem iS (L : List ByteArray) (j : Nat) : aR L (List.replicate j .leave) = (List.replicate j (aU 2)).flatten := by
 induction j with
 | zero => rfl
 | succ j ih =>
  rw [List.replicate_succ, List.replicate_succ, List.flatten_cons, <- ih]
  rfl
def iO (st ss : List Int) : List Int := [3490578157, 28 + (st.length : Int) + ss.length, (st.length : Int), (ss.length : Int), iN st, iN ss].flatMap aU
def dk (st ss : List Int) : List Int := iO st ss ++ [iN (iO st ss)].flatMap aU ++ st ++ ss
def oL (ns : List bD) : List Int := dk (aR (cr (b6 0 [] ns)) (b6 0 [] ns)) (strs (cr (b6 0 [] ns)))
theorem cD {n b : Int} (h : b ∈ aU n) : 0 <= b /\ b < 256 := by
 simp only [aU, List.mem_cons, List.not_mem_nil, or_false] at h
 rcases h with rfl | rfl | rfl | rfl <;> omega
theorem lI {n : Nat} {b : Int} (h : b ∈ aY n) : 0 <= b /\ b < 256 := by
 have := (List.mem_replicate.1 h).2
 omega
theorem jW (L : List ByteArray) (ts : List Tok) : ∀ b ∈ aR L ts, 0 <= b /\ b < 256 := by
 intro b hb
 obtain ⟨t, _, ht⟩ := List.mem_flatMap.1 hb
 cases t with
 | beg s =>
  simp only [Tok.bytes, List.mem_append] at ht
  rcases ht with ht | ht | ht
  ·exact cD ht
  ·exact fL ht
  ·exact lI ht
 | prop n v =>
  simp only [Tok.bytes, List.mem_append] at ht
  rcases ht with ht | ht | ht | ht | ht
  ·exact cD ht
  ·exact cD ht
  ·exact cD ht
  ·exact fL ht
  ·exact lI ht
 | leave => exact cD ht
 | fin => exact cD ht
theorem nf (L : List ByteArray) : ∀ b ∈ strs L, 0 <= b /\ b < 256 := by
 intro b hb
 obtain ⟨s, _, hs⟩ := List.mem_flatMap.1 hb
 rcases List.mem_append.1 hs with h | h
 ·exact fL h
 ·simp at h; omega
theorem dI (xs : List Int) : ∀ b ∈ xs.flatMap aU, 0 <= b /\ b < 256 := by
 intro b hb
 obtain ⟨s, _, hs⟩ := List.mem_flatMap.1 hb
 exact cD hs
theorem qb (p : Int) : ∀ (k : List Int) (x : Int), x ∈ (a_ p k).1 -> x ∈ k
 | [], x, h => h
 | y :: r, x, h => by
  unfold a_ at h
  split at h
  ·exact h
  ·exact List.mem_cons_of_mem _ (qb p r x h)
theorem qc : ∀ {k : List Int}, (∀ x ∈ k, (0 : Int) <= x) -> a_ (-1) k = ([], k.length)
 | [], _ => rfl
 | y :: r, h => by
  have h1 := h y (by simp)
  rw [a_, if_neg (by omega), qc fun x hx => h x (List.mem_cons_of_mem _ hx)]
  rfl
theorem tT (L : List ByteArray) (s : ByteArray) (h : s.size <= 10) : (strs (fy L s)).length <= (strs L).length + 11 := by
 unfold fy
 split
 ·omega
 ·rw [lO, List.length_append]
  simp [strs, aQ]
  omega
theorem y3621 {P : Prop} (h : P := by
 ((conv => whnf); repeat' ((first | apply aB.plain | refine' gC | refine' gpI | refine' ia | refine' gpB | refine' gpS | refine' gpN | refine' bh | refine' bj | refine' gE | (apply ax.quiet (by kernel_rfl) (by kernel_rfl); (conv => whnf); fail_if_success (show False))) <;> (conv => whnf))) <;> (solve_by_elim (newGoals := .nonDependentOnly) -symm -exfalso (transparency := .reducible) only [rfl, aC])) : P := h
theorem zfc23 {P : Prop} (h : P := by
 ((first | apply aB.plain | refine' gC | refine' gpI | refine' ia | refine' gpB | refine' gpS | refine' gpN | refine' bh | refine' bj | refine' gE | fail) <;> (conv => whnf)) <;> (solve_by_elim (newGoals := .nonDependentOnly) -symm -exfalso (transparency := .reducible) only [rfl, aC])) : P := h
theorem z7773 {P : Prop} (h : P := by
 ((first | refine' gC | refine' gpI | refine' ia | refine' gpB | refine' gpS | refine' gpN | refine' bh | refine' bj | refine' gE | fail) <;> (conv => whnf)) <;> (solve_by_elim (newGoals := .nonDependentOnly) -symm -exfalso (transparency := .reducible) only [rfl, aC])) : P := h
theorem yfc23 {P : Prop} (h : P := by
 ((conv => whnf); repeat' ((first | apply aB.plain | refine' gC | refine' gpI | refine' ia | refine' gpB | refine' gpS | refine' gpN | refine' bh | refine' bj | refine' gE | fail) <;> (conv => whnf))) <;> (solve_by_elim (newGoals := .nonDependentOnly) -symm -exfalso (transparency := .reducible) only [rfl, aC])) : P := h
set_option maxHeartbeats 4000000 in
theorem mi (nl : Bool) (ns : List Nd) (h : FV ns) : ao Tryz.prog 29 [.p (.agg [.list nl (ns.map Nd.pv)])] [] fun r H => ∃ nb, r = .buf 0 /\ H = [some (AO.buf 5 nb ((oL (ns.map Nd.b)).map pU8))] := by
 refine aa Tryz.func29 rfl rfl au rfl ?_
 have hl1 := h.l1
 have hl8 := h.l8
 obtain ⟨TT, hTT⟩ : ∃ TT, TT = b6 0 [] (ns.map Nd.b) := ⟨_, rfl⟩
 refine' y3621
 refine ai (fun (⟨c, k, op, no, st, n1, L, n2, ts⟩ : Nat × List Int × List Int × Bool × List Int × Bool × List ByteArray × Bool × List Tok) => ⟨[(3, .ptr 0 0), (4, .ptr 5 0), (5, .clo (.func 76) [.ptr 5 0, .ptr 0 0]), (16, .p (.list nl (ns.map Nd.pv))), (17, .p (pI ns.length)), (18, .p (pI c))], eH no op n1 st n2 L⟩) (fun ⟨c, k, op, no, st, n1, L, n2, ts⟩ => c <= ns.length /\ op = k.reverse /\ (∀ x ∈ k, (0 : Int) <= x) /\ k.length <= c /\ st.length <= 400 * c /\ (strs L).length <= 100 * c /\ EI TT ts (b6 c k ((ns.drop c).map Nd.b)) L st) (fun ⟨c, k, op, no, st, n1, L, n2, ts⟩ => ns.length - c) (0, [], [], true, [], true, [], true, []) ?_ ?_ ?_; (refine aq.cell _ 2 0 5 _ _ _ _ _ rfl rfl rfl ?_; refine aq.cell _ 2 1 5 _ _ _ _ _ rfl rfl rfl ?_; refine aq.cell _ 4 0 3 _ _ _ _ _ rfl rfl rfl ?_; refine aq.of [3, 2, 5, 6, 1, 4, 7] rfl ?_ ?_ rfl rfl <;> refine' aj)
 ·refine ⟨by omega, rfl, by simp, by simp, by simp, by simp [strs], ?_⟩
  rw [hTT]
  exact .start
 rintro ⟨c, k, op, no, st, n1, L, n2, ts⟩ ⟨hc, hop, hk0, hkc, hst, hss, hI⟩
 try simp only at hc hop hk0 hkc hst hss hI
 subst hop
 rcases Nat.lt_or_ge c ns.length with hlt | hge
 ·have hp := h.fG hlt
  have h7 := hp.len
  have hnm : ns[c].nm.size <= 2 := by
   rcases Nat.eq_zero_or_pos c with hz | hz
   ·subst hz
    rw [(h.root hlt).2]
    decide
   ·rw [(h.nam c hlt hz).size]
    omega
  have hpop := iE ns[c].par k
  have hd : (ns.drop c).map Nd.b = Nd.b ns[c] :: (ns.drop (c + 1)).map Nd.b := by rw [List.drop_eq_getElem_cons hlt]; rfl
  rw [hd] at hI
  unfold b6 at hI
  refine' yfc23
  refine ab.loc [5, 6, 0, 1, 2, 3, 4] [] rfl rfl ((oM ns[c].par no k n1 st n2 (strs L) (mpE L) (by omega) (by omega)).mono ?_)
  rintro _ _ ⟨no, n1, rfl, rfl⟩
  have hI1 := hI.plain (fun t ht => by rw [(List.mem_replicate.1 ht).2]; rfl) (iS L _)
  have hst1 : (st ++ (List.replicate (a_ ns[c].par k).2 (aU 2)).flatten).length <= 400 * c + 4 * 8 := by
   simp [az]
   omega
  change EI TT _ _ L (st ++ (List.replicate (a_ ns[c].par k).2 (aU 2)).flatten) at hI1
  generalize st ++ (List.replicate (a_ ns[c].par k).2 (aU 2)).flatten = st at hI1 hst1 ⊢
  have hrl : (a_ ns[c].par k).1.length <= c := by omega
  have hkk : ∀ x ∈ (a_ ns[c].par k).1, (0 : Int) <= x := fun x hx => hk0 x (qb _ _ _ hx)
  change EI TT _ (.beg ns[c].nm :: (ns[c].ps.map iU ++ b6 (c + 1) ((c : Int) :: (a_ ns[c].par k).1) ((ns.drop (c + 1)).map Nd.b))) L st at hI1
  generalize (a_ ns[c].par k).1 = kk at hI1 hrl hkk ⊢
  (conv => whnf); repeat' ((first | (apply PdC.same; · with_reducible rfl) | apply PdC.chk | apply PdA.mk | (apply EqA.mk; rfl) | (apply LzA.mk; · ((conv => whnf); repeat' ((first | (apply EqA.mk; rfl) | refine' z7773 | fail) <;> (conv => whnf)))) | refine' zfc23 | (apply ax.lin en9 (by kernel_rfl) (by decide +kernel))) <;> (conv => whnf))
  refine ab.loc [9] [] rfl rfl ((gV n1 st false [1] (by simp) (by omega) (by simp)).mono ?_)
  rintro _ _ ⟨n1, rfl, rfl⟩
  (conv => whnf); repeat' ((first | (apply PdC.same; · with_reducible rfl) | apply PdC.chk | apply PdA.mk | (apply EqA.mk; rfl) | (apply LzA.mk; · ((conv => whnf); repeat' ((first | (apply EqA.mk; rfl) | refine' z7773 | fail) <;> (conv => whnf)))) | refine' zfc23 | (apply ax.lin en9 (by kernel_rfl) (by decide +kernel))) <;> (conv => whnf))
  refine ab.loc [12] [] rfl rfl ((l_ n1 _ ns[c].nm 1 (.inr rfl) (by simp [az]; omega) (by omega)).mono ?_)
  rintro _ _ ⟨n1, rfl, rfl⟩
  have hI2 := hI1.plain (us := [.beg ns[c].nm]) (fun t ht => by simp at ht; subst ht; rfl) (bs := aU 1 ++ (bl ns[c].nm ++ aY (eV 1 ns[c].nm.size))) (by simp [aR, Tok.bytes, eV])
  have e2 : st ++ [1].flatMap aU ++ (bl ns[c].nm ++ aY (eV 1 ns[c].nm.size)) = st ++ (aU 1 ++ (bl ns[c].nm ++ aY (eV 1 ns[c].nm.size))) := by simp
  rw [e2]
  have hst2 : (st ++ (aU 1 ++ (bl ns[c].nm ++ aY (eV 1 ns[c].nm.size)))).length <= 400 * c + 50 := by
   have hK : eV 1 ns[c].nm.size <= 4 := by unfold eV; split <;> omega
   simp [az, aQ, aY]
   omega
  generalize st ++ (aU 1 ++ (bl ns[c].nm ++ aY (eV 1 ns[c].nm.size))) = st at hI2 hst2 ⊢
  generalize ts ++ List.replicate (a_ ns[c].b.fst k).snd Tok.leave ++ [Tok.beg ns[c].nm] = ts at hI2
  clear hI hI1
  obtain ⟨op, hop⟩ : ∃ op, op = kk.reverse ++ [(c : Int)] := ⟨_, rfl⟩
  (conv => whnf); repeat' ((first | (apply PdC.same; · with_reducible rfl) | apply PdC.chk | apply PdA.mk | (apply EqA.mk; rfl) | (apply LzA.mk; · ((conv => whnf); repeat' ((first | (apply EqA.mk; rfl) | refine' z7773 | fail) <;> (conv => whnf)))) | refine' zfc23 | (apply ax.lin en9 (by kernel_rfl) (by decide +kernel))) <;> (conv => whnf))
  rw [<- hop]
  refine' ai (fun (⟨d, st, n1, L, n2, no, ts⟩ : Nat × List Int × Bool × List ByteArray × Bool × Bool × List Tok) => ⟨[(3, .ptr 0 0), (4, .ptr 5 0), (5, .clo (.func 76) [.ptr 5 0, .ptr 0 0]), (16, .p (.list nl (ns.map Nd.pv))), (17, .p (pI ns.length)), (18, .p (pI c)), (44, .p (.list ns[c].nl (ns[c].ps.map Pr.pv))), (45, .p (pI ns[c].ps.length)), (46, .p (pI d))], eH no op n1 st n2 L⟩) (fun ⟨d, st, n1, L, n2, no, ts⟩ => d <= ns[c].ps.length /\ st.length <= 400 * c + 50 + 40 * d /\ (strs L).length <= 100 * c + 11 * d /\ EI TT ts ((ns[c].ps.drop d).map iU ++ b6 (c + 1) ((c : Int) :: kk) ((ns.drop (c + 1)).map Nd.b)) L st) (fun ⟨d, st, n1, L, n2, no, ts⟩ => ns[c].ps.length - d) (0, st, n1, L, n2, _, ts) _ _ _; rotate_right; rotate_right; rotate_right; (refine aq.of [0, 1, 13, 3, 4, 5, 11] rfl ?_ ?_ rfl rfl <;> refine' aj)
  ·exact ⟨by omega, by omega, by omega, hI2⟩
  clear hI2 hst2 hst1 hss hst
  rintro ⟨d, st, n1, L, n2, no, ts⟩ ⟨hd1, hst, hss, hI⟩
  try simp only at hd1 hst hss hI
  rcases Nat.lt_or_ge d ns[c].ps.length with hdl | hdg
  ·have hq := hp.2 _ (List.getElem_mem hdl)
   have hq1 := hq.1.size
   have hq2 := hq.2.1
   have hdd : (ns[c].ps.drop d).map iU = iU ns[c].ps[d] :: (ns[c].ps.drop (d + 1)).map iU := by rw [List.drop_eq_getElem_cons hdl]; rfl
   rw [hdd] at hI
   (conv => whnf); repeat' ((first | (apply PdC.same; · with_reducible rfl) | apply PdC.chk | apply PdA.mk | (apply EqA.mk; rfl) | (apply LzA.mk; · ((conv => whnf); repeat' ((first | (apply EqA.mk; rfl) | refine' z7773 | fail) <;> (conv => whnf)))) | refine' zfc23 | (apply ax.lin Bq (by kernel_rfl) (by decide +kernel))) <;> (conv => whnf))
   refine ab.loc [1, 2, 3, 4] [] rfl rfl ((ui n1 st n2 L ns[c].ps[d].1 (by omega) (by omega)).mono ?_)
   rintro _ _ ⟨n2, rfl, rfl⟩
   (conv => whnf); repeat' ((first | (apply PdC.same; · with_reducible rfl) | apply PdC.chk | apply PdA.mk | (apply EqA.mk; rfl) | (apply LzA.mk; · ((conv => whnf); repeat' ((first | (apply EqA.mk; rfl) | refine' z7773 | fail) <;> (conv => whnf)))) | refine' zfc23 | (apply ax.lin Bq (by kernel_rfl) (by decide +kernel))) <;> (conv => whnf))
   refine ab.loc [2] [] rfl rfl ((gV n1 st false [3, _, _] (by simp) (by omega) (by simp)).mono ?_)
   rintro _ _ ⟨n1, rfl, rfl⟩
   (conv => whnf); repeat' ((first | (apply PdC.same; · with_reducible rfl) | apply PdC.chk | apply PdA.mk | (apply EqA.mk; rfl) | (apply LzA.mk; · ((conv => whnf); repeat' ((first | (apply EqA.mk; rfl) | refine' z7773 | fail) <;> (conv => whnf)))) | refine' zfc23 | (apply ax.lin Bq (by kernel_rfl) (by decide +kernel))) <;> (conv => whnf))
   refine ab.loc [9] [] rfl rfl ((l_ n1 _ ns[c].ps[d].2 0 (.inl rfl) (by simp [az]; omega) (by omega)).mono ?_)
   rintro _ _ ⟨n1, rfl, rfl⟩
   have hI2 := hI.prop (bs := [3, (ns[c].ps[d].2.size : Int), (place (fy L ns[c].ps[d].1) ns[c].ps[d].1 : Nat)].flatMap aU ++ (bl ns[c].ps[d].2 ++ aY (eV 0 ns[c].ps[d].2.size))) (by simp [Tok.bytes, eV])
   rw [<- List.append_assoc] at hI2
   (conv => whnf); repeat' ((first | (apply PdC.same; · with_reducible rfl) | apply PdC.chk | apply PdA.mk | (apply EqA.mk; rfl) | (apply LzA.mk; · ((conv => whnf); repeat' ((first | (apply EqA.mk; rfl) | refine' z7773 | fail) <;> (conv => whnf)))) | refine' zfc23 | (apply ax.lin Bq (by kernel_rfl) (by decide +kernel))) <;> (conv => whnf))
   (refine' ⟨(d + 1, _, _, fy L ns[c].ps[d].1, _, _, ts ++ [.prop ns[c].ps[d].1 ns[c].ps[d].2]), _, _, _⟩; rotate_right; (refine aq.of [0, 1, 10, 8, 4, 5, 6] rfl ?_ ?_ rfl rfl <;> refine' aj); rotate_right; exact aw)
   refine ⟨by omega, ?_, ?_, hI2⟩
   ·have hK : eV 0 ns[c].ps[d].2.size <= 4 := by unfold eV; split <;> omega
    simp [az, aQ, aY]
    omega
   ·have := tT L ns[c].ps[d].1 (by omega)
    omega
  ·obtain rfl : d = ns[c].ps.length := by omega
   rw [List.drop_length] at hI
   refine' yfc23
   (refine' ⟨(c + 1, (c : Int) :: kk, _, _, _, _, _, _, ts), _, _, _⟩; rotate_right; (refine aq.of [0, 1, 2, 3, 4, 5, 6] rfl ?_ ?_ rfl rfl <;> refine' aj); rotate_right; exact aw)
   refine ⟨by omega, by rw [hop]; simp, fun x hx => (List.mem_cons.1 hx).elim (fun e => by omega) (hkk x), by simp; omega, by omega, by omega, hI⟩
 ·obtain rfl : c = ns.length := by omega
  rw [List.drop_length] at hI
  change EI TT ts (List.replicate k.length .leave ++ [.fin]) L st at hI
  have hpn := qc hk0
  refine' yfc23
  refine ab.loc [5, 6, 0, 1, 2, 3, 4] [] rfl rfl ((oM (-1) no k n1 st n2 (strs L) (mpE L) (by omega) (by omega)).mono ?_)
  rw [hpn]
  rintro _ _ ⟨no, n1, rfl, rfl⟩
  have hI1 := hI.plain (fun t ht => by rw [(List.mem_replicate.1 ht).2]; rfl) (iS L _)
  have hst1 : (st ++ (List.replicate k.length (aU 2)).flatten).length <= 400 * ns.length + 4 * 8 := by
   simp [az]
   omega
  generalize st ++ (List.replicate k.length (aU 2)).flatten = st at hI1 hst1 ⊢
  refine' yfc23
  refine ax.meet (fun (⟨n1, no⟩ : Bool × Bool) => ⟨[(3, .ptr 0 0)], [some (.cells [.ptr 1 0]), some (.cells [.buf 2, .buf 3, .mp 4]), some (AO.buf 5 n1 ((st ++ [9].flatMap aU).map pU8)), some (AO.buf 5 n2 ((strs L).map pU8)), some (.map (mpE L))]⟩) (fun (⟨n1, no⟩ : Bool × Bool) => True) (dN.lin CC (by kernel_rfl) (by decide +kernel) ?_) ?_
  ·(conv => whnf); repeat' ((first | (apply PdC.same; · with_reducible rfl) | apply PdC.chk | apply PdA.mk | (apply EqA.mk; rfl) | (apply LzA.mk; · ((conv => whnf); repeat' ((first | (apply EqA.mk; rfl) | refine' z7773 | fail) <;> (conv => whnf)))) | refine' zfc23 | (apply ax.lin CC (by kernel_rfl) (by decide +kernel))) <;> (conv => whnf))
   refine ab.loc [8] [] rfl rfl ((gV n1 st false [9] (by simp) (by omega) (by simp)).mono ?_)
   rintro _ _ ⟨n1, rfl, rfl⟩
   (conv => whnf); repeat' ((first | (apply PdC.same; · with_reducible rfl) | apply PdC.chk | apply PdA.mk | (apply EqA.mk; rfl) | (apply LzA.mk; · ((conv => whnf); repeat' ((first | (apply EqA.mk; rfl) | refine' z7773 | fail) <;> (conv => whnf)))) | refine' zfc23 | (apply ax.lin CC (by kernel_rfl) (by decide +kernel))) <;> (conv => whnf))
   (refine' ⟨(n1, no), _, _⟩; rotate_right; (refine aq.of [0, 1, 9, 3, 4] rfl ?_ ?_ rfl rfl <;> refine' aj); rotate_right; exact aw)
  rintro ⟨n1, no⟩ -
  have hI2 := hI1.plain (us := [.fin]) (rest := []) (fun t ht => by simp at ht; subst ht; rfl) (bs := [9].flatMap aU) (by simp [aR, Tok.bytes])
  have hst2 : (st ++ [9].flatMap aU).length <= 400 * ns.length + 50 := by simp [az]; omega
  generalize st ++ [9].flatMap aU = st at hI2 hst2 ⊢
  have hall := hI2.all
  rw [List.append_nil] at hall
  have hfin : oL (ns.map Nd.b) = dk st (strs L) := by
   unfold oL
   rw [<- hTT, hall, <- hI2.tab, <- hI2.byt]
  have hbs : ∀ b ∈ st, 0 <= b /\ b < 256 := by rw [hI2.byt]; exact jW _ _
  have hbl := nf L
  have hb1 : st.length <= 100000 := by omega
  have hb2 : (strs L).length <= 100000 := by omega
  have hs1 := cB st
  have hs2 := cB (strs L)
  refine' yfc23
  refine ax.meet (fun (⟨n3, nz⟩ : Bool × Bool) => ⟨[(3, .ptr 0 0), (10, .buf 5)], [some (.cells [.ptr 1 0]), some (.cells [.buf 2, .buf 3, .mp 4]), some (AO.buf 5 n1 (st.map pU8)), some (AO.buf 5 n2 ((strs L).map pU8)), some (.map (mpE L)), some (AO.buf 5 n3 ((iO st (strs L)).map pU8))]⟩) (fun (⟨n3, nz⟩ : Bool × Bool) => True) (dN.lin CB (by kernel_rfl) (by decide +kernel) ?_) ?_
  ·(conv => whnf); repeat' ((first | (apply PdC.same; · with_reducible rfl) | apply PdC.chk | apply PdA.mk | (apply EqA.mk; rfl) | (apply LzA.mk; · ((conv => whnf); repeat' ((first | (apply EqA.mk; rfl) | (refine IsL.lit (f := pI) [_, _, _, _, _, _] rfl ?_) | refine' z7773 | fail) <;> (conv => whnf)))) | (refine IsL.lit (f := pI) [_, _, _, _, _, _] rfl ?_) | refine' zfc23 | (apply ax.lin CB (by kernel_rfl) (by decide +kernel)) | (refine ab.scalar (fO n1 st hbs hb1) ?_) | (refine ab.scalar (fO n2 (strs L) hbl hb2) ?_)) <;> (conv => whnf))
   refine ab.loc [] [] rfl rfl ((yd false [_, _, _, _, _, _] (by simp)).mono ?_)
   rintro _ _ ⟨n3, rfl, rfl⟩
   (conv => whnf); repeat' ((first | (apply PdC.same; · with_reducible rfl) | apply PdC.chk | apply PdA.mk | (apply EqA.mk; rfl) | (apply LzA.mk; · ((conv => whnf); repeat' ((first | (apply EqA.mk; rfl) | refine' z7773 | fail) <;> (conv => whnf)))) | refine' zfc23 | (apply ax.lin CB (by kernel_rfl) (by decide +kernel))) <;> (conv => whnf))
   (refine' ⟨(n3, n3), _, _⟩; rotate_right; (refine aq.of [0, 1, 2, 3, 4, 5] rfl ?_ ?_ rfl rfl <;> refine' aj); rotate_right; exact aw)
  rintro ⟨n3, nz⟩ -
  have hb3 : (iO st (strs L)).length = 24 := rfl
  have hs3 := cB (iO st (strs L))
  have hb4 : ∀ b ∈ iO st (strs L), 0 <= b /\ b < 256 := dI _
  have hb5 : (iO st (strs L)).length <= 100000 := by omega
  unfold dk at hfin
  generalize iO st (strs L) = hd at *
  (conv => whnf); repeat' ((first | refine' zfc23 | (refine ab.scalar (fO n3 hd hb4 hb5) ?_)) <;> (conv => whnf))
  refine ab.loc [5] [6] rfl rfl ((gV n3 hd false [iN hd] (by simp) (by omega) (by simp)).mono ?_)
  rintro _ _ ⟨n3, rfl, rfl⟩
  have hb6 : ([iN hd].flatMap aU).length = 4 := rfl
  generalize [iN hd].flatMap aU = h4 at *
  (conv => whnf); repeat' ((first | (apply PdC.same; · with_reducible rfl) | apply PdC.chk | apply PdA.mk | (apply EqA.mk; rfl) | (apply LzA.mk; · ((conv => whnf); repeat' ((first | (apply EqA.mk; rfl) | refine' z7773 | fail) <;> (conv => whnf)))) | refine' zfc23 | (apply ax.lin Ey (by kernel_rfl) (by decide +kernel))) <;> (conv => whnf))
  rw [<- hfin]
  (refine' ay.auto (.buf 0) ([some (AO.buf 5 _ ((oL (ns.map Nd.b)).map pU8))]) rfl rfl rfl rfl _ _ _ <;> try refine' aj)
  exact ⟨_, rfl, rfl⟩
def stk (op : List Int) (ch : List Bool) : Stk := (op.zip ch).reverse
theorem dE {o : List Int} {c : List Bool} (h : c.length = o.length) (p : Int) (x : Bool) : stk (o ++ [p]) (c ++ [x]) = (p, x) :: stk o c := by
 unfold stk
 rw [List.zip_append (by omega)]
 simp
theorem iA {op : List Int} {ch : List Bool} (h : ch.length = op.length) : (op = [] /\ ch = []) \/ ∃ o p c x, op = o ++ [p] /\ ch = c ++ [x] /\ c.length = o.length := by
 rcases List.eq_nil_or_concat op with rfl | ⟨o, p, rfl⟩
 ·exact .inl ⟨rfl, List.eq_nil_of_length_eq_zero h⟩
 ·rcases List.eq_nil_or_concat ch with rfl | ⟨c, x, rfl⟩
  ·simp at h
  ·refine .inr ⟨o, p, c, x, by simp, by simp, ?_⟩
   simpa using h
def Dp : Nat -> List Tok -> Prop
 | _, [] => True
 | d, .beg _ :: r => d < 7 /\ Dp (d + 1) r
 | d, .leave :: r => Dp (d - 1) r
 | d, .prop _ _ :: r => Dp d r
 | d, .fin :: r => Dp d r
def EG (L : List ByteArray) : Tok -> Prop
 | .beg s => (0 : Int) ∉ bl s /\ s.size <= 100
 | .prop n v => n ∈ L /\ (0 : Int) ∉ bl n /\ n.size <= 1000 /\ v.size <= 256
 | .leave => True
 | .fin => True
def isP : List Tok -> Bool
 | .prop _ _ :: _ => true
 | _ => false
structure DI (bs : List Int) (L : List ByteArray) (FL : List bD) (at_ : Nat) (nb : List bD) (op : List Int) (ch : List Bool) (ts : List Tok) : Prop where
 byt : bs.drop at_ = aR L (ts ++ [.fin])
 run : fB nb (stk op ch) ts FL []
 len : ch.length = op.length
 fl : ∀ x ∈ (stk op ch).tail, x.2 = true
 dep : Dp op.length ts
 ok : ∀ t ∈ ts, EG L t
 cnt : nb.length + ts.length <= 90
 opl : op.length <= 7
theorem aV {bs A X : List Int} {at_ : Nat} (h : bs.drop at_ = A ++ X) : bs.drop (at_ + A.length) = X := by
 rw [<- List.drop_drop, h, List.drop_left]
theorem ey {bs : List Int} {L : List ByteArray} {at_ : Nat} {t : Tok} {ts : List Tok} (h : bs.drop at_ = aR L (t :: ts ++ [.fin])) : bs.drop at_ = t.bytes L ++ aR L (ts ++ [.fin]) /\ bs.drop (at_ + (t.bytes L).length) = aR L (ts ++ [.fin]) := by
 have h1 : bs.drop at_ = t.bytes L ++ aR L (ts ++ [.fin]) := by rw [h]; simp [aR]
 exact ⟨h1, aV h1⟩
theorem DI.EE {bs : List Int} {L : List ByteArray} {FL nb : List bD} {at_ : Nat} {s : ByteArray} {ts : List Tok} (h : DI bs L FL at_ nb [] [] (.beg s :: ts)) :
  nb = [] /\ DI bs L FL (at_ + 4 + (s.size + (4 - s.size % 4))) [(-1, s, [])] [0] [false] ts := by
 obtain ⟨h1, h2, h3, h4, h5, h6, h7, h8⟩ := h
 cases h2 with
 | cons hs hr =>
  cases hs with
  | beg _ _ _ hk =>
   obtain rfl : nb = [] := hk.resolve_left fun e => e rfl
   refine ⟨rfl, ?_, hr, rfl, ?_, h5.2, fun t ht => h6 t (List.mem_cons_of_mem _ ht), by simp at h7 ⊢; omega, by simp⟩
   ·have := (ey h1).2
    rw [<- this]
    congr 1
    simp [Tok.bytes, az, aQ, aZ]
    omega
   ·intro x hx
    simp [stk] at hx
theorem DI.ED {bs : List Int} {L : List ByteArray} {FL nb : List bD} {at_ : Nat} {o : List Int} {p : Int} {c : List Bool} {x : Bool} {s : ByteArray} {ts : List Tok} (hc : c.length = o.length) (h : DI bs L FL at_ nb (o ++ [p]) (c ++ [x]) (.beg s :: ts)) :
  DI bs L FL (at_ + 4 + (s.size + (4 - s.size % 4))) (nb ++ [(p, s, [])]) (o ++ [p] ++ [(nb.length : Int)]) (c ++ [true] ++ [false]) ts := by
 obtain ⟨h1, h2, h3, h4, h5, h6, h7, h8⟩ := h
 rw [dE hc] at h2 h4
 have e : stk (o ++ [p] ++ [(nb.length : Int)]) (c ++ [true] ++ [false]) = ((nb.length : Int), false) :: (p, true) :: stk o c := by
  rw [dE (by simp [hc]), dE hc]
 cases h2 with
 | cons hs hr =>
  cases hs with
  | beg _ _ _ hk =>
   refine ⟨?_, by rw [e]; exact hr, by simp [hc], ?_, ?_, fun t ht => h6 t (List.mem_cons_of_mem _ ht), by simp at h7 ⊢; omega, by have := h5.1; simp at this h8 ⊢; omega⟩
   ·have := (ey h1).2
    rw [<- this]
    congr 1
    simp [Tok.bytes, az, aQ, aZ]
    omega
   ·rw [e]
    intro y hy
    simp only [List.tail_cons, List.mem_cons] at hy
    rcases hy with rfl | hy
    ·rfl
    ·exact h4 y hy
   ·have := h5.2
    simpa using this
theorem DI.prop {bs : List Int} {L : List ByteArray} {FL nb : List bD} {at_ : Nat} {y : bD} {op : List Int} {ch : List Bool} {n v : ByteArray} {ts : List Tok} (h : DI bs L FL at_ (nb ++ [y]) op ch (.prop n v :: ts)) :
  ∃ o c, op = o ++ [(nb.length : Int)] /\ ch = c ++ [false] /\ c.length = o.length /\ o.length < 8 /\
  DI bs L FL (at_ + 4 + 4 + 4 + (v.size + (4 - v.size % 4) % 4)) (nb ++ [(y.1, y.2.1, y.2.2 ++ [(n, v)])]) op ch ts := by
 obtain ⟨h1, h2, h3, h4, h5, h6, h7, h8⟩ := h
 cases h2 with
 | cons hs hr =>
  generalize hk : stk op ch = k at hs h4
  generalize hz : nb ++ [y] = z at hs
  cases hs with
  | prop ns x i k' _ _ hi =>
   obtain ⟨rfl, hy⟩ := List.append_inj' hz rfl
   injection hy with hy _
   subst hy
   rcases iA h3 with ⟨rfl, rfl⟩ | ⟨o, p, c, x, rfl, rfl, hc⟩
   ·cases hk
   ·rw [dE hc] at hk
    injection hk with hk1 hk2
    injection hk1 with hk1 hk3
    subst hk1 hk3 hi
    refine ⟨o, c, rfl, rfl, hc, ?_, ?_, ?_, h3, by rw [dE hc, <- hk2] at *; exact h4, h5, fun t ht => h6 t (List.mem_cons_of_mem _ ht), by simp at h7 ⊢; omega, h8⟩
    ·simp at h8; omega
    ·have := (ey h1).2
     rw [<- this]
     congr 1
     simp [Tok.bytes, az, aQ, aZ]
     omega
    ·rw [dE hc, hk2]
     exact hr
theorem DI.leave {bs : List Int} {L : List ByteArray} {FL nb : List bD} {at_ : Nat} {op : List Int} {ch : List Bool} {ts : List Tok} (h : DI bs L FL at_ nb op ch (.leave :: ts)) :
  ∃ o p c x, op = o ++ [p] /\ ch = c ++ [x] /\ c.length = o.length /\ o.length < 8 /\ DI bs L FL (at_ + 4) nb o c ts /\ isP ts = false := by
 obtain ⟨h1, h2, h3, h4, h5, h6, h7, h8⟩ := h
 rcases iA h3 with ⟨rfl, rfl⟩ | ⟨o, p, c, x, rfl, rfl, hc⟩
 ·cases h2 with
  | cons hs hr => cases hs
 ·rw [dE hc] at h2 h4
  rw [List.tail_cons] at h4
  cases h2 with
  | cons hs hr =>
   cases hs with
   | leave =>
    refine ⟨o, p, c, x, rfl, rfl, hc, by simp at h8; omega, ⟨?_, hr, hc, fun y hy => h4 y (List.mem_of_mem_tail hy), ?_, fun t ht => h6 t (List.mem_cons_of_mem _ ht), by simp at h7 ⊢; omega, by simp at h8; omega⟩, ?_⟩
    ·have := (ey h1).2
     rw [<- this]
     congr 1
    ·have := h5
     simpa [Dp] using this
    ·cases ts with
     | nil => rfl
     | cons t ts =>
      cases t with
      | prop n v =>
       exfalso
       generalize hk : stk o c = k at hr h4
       cases hr with
       | cons hs _ =>
        cases hs with
        | prop => exact absurd (h4 _ (List.mem_cons_self ..)) (by simp)
      | _ => rfl
theorem DI.fin {bs : List Int} {L : List ByteArray} {FL nb : List bD} {at_ : Nat} {op : List Int} {ch : List Bool} (h : DI bs L FL at_ nb op ch []) : nb = FL /\ op = [] /\ ch = [] /\ bs.drop at_ = aU 9 ++ [] := by
 obtain ⟨h1, h2, h3, h4, h5, h6, h7, h8⟩ := h
 rcases iA h3 with ⟨rfl, rfl⟩ | ⟨o, p, c, x, rfl, rfl, hc⟩
 ·cases h2
  exact ⟨rfl, rfl, rfl, by rw [h1]; rfl⟩
 ·rw [dE hc] at h2
  cases h2
theorem DI.Ds {bs : List Int} {L : List ByteArray} {FL nb : List bD} {at_ : Nat} {op : List Int} {ch : List Bool} {ts : List Tok} (h : DI bs L FL at_ nb op ch (.fin :: ts)) : False := by
 have := h.run
 generalize stk op ch = k at this
 cases this with
 | cons hs _ => cases hs
theorem Dp.left : ∀ {d : Nat} {a b : List Tok}, Dp d (a ++ b) -> Dp d a
 | _, [], _, _ => trivial
 | _, .beg _ :: a, _, h => ⟨h.1, Dp.left (a := a) h.2⟩
 | d, .leave :: a, _, h => Dp.left (d := d - 1) (a := a) h
 | d, .prop _ _ :: a, _, h => Dp.left (d := d) (a := a) h
 | d, .fin :: a, _, h => Dp.left (d := d) (a := a) h
theorem Dp.props (d : Nat) (r : List Tok) : ∀ ps : List bf, Dp d r -> Dp d (ps.map iU ++ r)
 | [], h => h
 | _ :: ps, h => Dp.props d r ps h
theorem Dp.enc : ∀ (l : List bD) (i : Nat) (k : List Int), (∀ n ∈ l, n.1 = 0) -> 0 < i -> k = [0] \/ (∃ j, k = [j, 0] /\ j ≠ 0) -> Dp k.length (b6 i k l)
 | [], i, k, _, _, hk => by rcases hk with rfl | ⟨j, rfl, hj⟩ <;> simp [b6, Dp, List.replicate]
 | n :: l, i, k, h, hi, hk => by
  have h0 := h n (by simp)
  have ih := Dp.enc l (i + 1) [(i : Int), 0] (fun m hm => h m (List.mem_cons_of_mem _ hm)) (by omega) (.inr ⟨i, rfl, by omega⟩)
  rcases hk with rfl | ⟨j, rfl, hj⟩
  ·have e : a_ n.1 [0] = ([0], 0) := by rw [h0]; rfl
   rw [b6, e]
   exact ⟨by simp, Dp.props _ _ _ ih⟩
  ·have e : a_ n.1 [j, 0] = ([0], 1) := by rw [h0, a_, if_neg hj]; rfl
   rw [b6, e]
   exact ⟨by simp, Dp.props _ _ _ ih⟩
theorem mY : ∀ (l : List bD) (i : Nat) (k : List Int), (∀ n ∈ l, n.1 = 0) -> (0 : Int) ∈ k -> se i k l
 | [], _, _, _, _ => trivial
 | n :: l, i, k, h, hk => by
  have h0 := h n (by simp)
  refine ⟨.inl (by rw [h0]; exact hk), mY l _ _ (fun m hm => h m (List.mem_cons_of_mem _ hm)) ?_⟩
  rw [h0]
  obtain ⟨r, hr⟩ := lg hk
  rw [hr]
  simp
theorem oK : ∀ (l : List bD) (i : Nat) (k : List Int), (b6 i k l).length = k.length + 1 + (l.map fun n => 2 + n.2.2.length).sum
 | [], i, k => by simp [b6]
 | n :: l, i, k => by
  have := iE n.1 k
  rw [b6, List.length_append, List.length_replicate, List.length_cons, List.length_append, List.length_map, oK l, List.length_cons, List.map_cons, List.sum_cons]
  omega
theorem wu : ∀ (l : List bD) (i : Nat) (k : List Int) (t : Tok), t ∈ b6 i k l -> t = .leave \/ t = .fin \/ (∃ n ∈ l, t = .beg n.2.1) \/ ∃ n ∈ l, ∃ q ∈ n.2.2, t = iU q
 | [], i, k, t, h => by
  rw [b6] at h
  rcases List.mem_append.1 h with h | h
  ·exact .inl (List.mem_replicate.1 h).2
  ·exact .inr (.inl (by simpa using h))
 | n :: l, i, k, t, h => by
  rw [b6] at h
  rcases List.mem_append.1 h with h | h
  ·exact .inl (List.mem_replicate.1 h).2
  ·rcases List.mem_cons.1 h with h | h
   ·exact .inr (.inr (.inl ⟨n, by simp, h⟩))
   ·rcases List.mem_append.1 h with h | h
    ·obtain ⟨q, hq, rfl⟩ := List.mem_map.1 h
     exact .inr (.inr (.inr ⟨n, by simp, q, hq, rfl⟩))
    ·rcases wu l _ _ t h with h | h | ⟨m, hm, h⟩ | ⟨m, hm, h⟩
     ·exact .inl h
     ·exact .inr (.inl h)
     ·exact .inr (.inr (.inl ⟨m, List.mem_cons_of_mem _ hm, h⟩))
     ·exact .inr (.inr (.inr ⟨m, List.mem_cons_of_mem _ hm, h⟩))
theorem jf : ∀ (l L : List ByteArray) (x : ByteArray), x ∈ l.foldl fy L ↔ x ∈ L \/ x ∈ l
 | [], L, x => by simp
 | y :: l, L, x => by
  rw [List.foldl_cons, jf l (fy L y) x, oV, List.mem_cons, or_assoc]
theorem yg {ts : List Tok} {n v : ByteArray} (h : Tok.prop n v ∈ ts) : n ∈ cr ts :=
 (jf _ _ _).2 (.inr (List.mem_flatMap.2 ⟨_, h, by simp [Tok.names]⟩))
def CW : Tok -> Prop
 | .beg s => (0 : Int) ∉ bl s /\ s.size <= 2
 | .prop n v => IsP n /\ v.size <= 20
 | .leave => True
 | .fin => True
theorem C0 : ∀ j, j < 7 -> (0 : Int) ∉ bl (vn j) := by decide +kernel
theorem Dm : ∀ j, j < 7 -> (0 : Int) ∉ bl (pn j) := by decide +kernel
theorem FV.BX {ns : List Nd} (h : FV ns) : ∀ t ∈ b6 0 [] (ns.map Nd.b), CW t := by
 intro t ht
 rcases wu _ _ _ t ht with rfl | rfl | ⟨n, hn, rfl⟩ | ⟨n, hn, q, hq, rfl⟩
 ·trivial
 ·trivial
 ·obtain ⟨m, hm, rfl⟩ := List.mem_map.1 hn
  obtain ⟨i, hi, rfl⟩ := List.getElem_of_mem hm
  rcases Nat.eq_zero_or_pos i with rfl | h0
  ·show (0 : Int) ∉ bl ns[0].nm /\ ns[0].nm.size <= 2
   rw [(h.root hi).2]
   decide
  ·obtain ⟨j, hj, e⟩ := h.nam i hi h0
   show (0 : Int) ∉ bl ns[i].nm /\ ns[i].nm.size <= 2
   rw [e]
   exact ⟨C0 j hj, Nat.le_refl _⟩
 ·obtain ⟨m, hm, rfl⟩ := List.mem_map.1 hn
  have := (h.ps m hm).2 q hq
  exact ⟨this.1, this.2.1⟩
theorem IsP.bl {s : ByteArray} (h : IsP s) : (0 : Int) ∉ bl s := by
 obtain ⟨j, hj, rfl⟩ := h
 exact Dm j hj
theorem FV.Ah {ns : List Nd} (h : FV ns) : (b6 0 [] (ns.map Nd.b)).length <= 73 := by
 rw [oK]
 have : ∀ l : List Nd, (∀ n ∈ l, PsV n.ps) -> ((l.map Nd.b).map fun n => 2 + n.2.2.length).sum <= 9 * l.length := by
  intro l
  induction l with
  | nil => intro _; simp
  | cons n l ih =>
   intro hl
   have h1 := ih fun m hm => hl m (List.mem_cons_of_mem _ hm)
   have h2 := (hl n (by simp)).len
   rw [List.map_cons, List.map_cons, List.sum_cons, List.length_cons]
   show 2 + n.ps.length + _ <= _
   omega
 have h1 := this ns h.ps
 have h8 := h.l8
 simp only [List.length_nil]
 omega
theorem FV.walked {ns : List Nd} (h : FV ns) : ∃ r rest, ns.map Nd.b = r :: rest /\ r.1 = -1 /\ (∀ n ∈ rest, n.1 = 0) := by
 cases ns with
 | nil => have := h.l1; simp at this
 | cons r rest =>
  refine ⟨Nd.b r, rest.map Nd.b, rfl, (h.root (by simp)).1, fun n hn => ?_⟩
  obtain ⟨m, hm, rfl⟩ := List.mem_map.1 hn
  obtain ⟨i, hi, rfl⟩ := List.getElem_of_mem hm
  have := h.par (i + 1) (by simp; omega) (by omega)
  rw [List.getElem_cons_succ] at this
  exact this
theorem DI.start {ns : List Nd} (h : FV ns) {bs H : List Int} (hH : H.length = 28) (hb : bs = H ++ aR (cr (b6 0 [] (ns.map Nd.b))) (b6 0 [] (ns.map Nd.b))) :
  ∃ ts, b6 0 [] (ns.map Nd.b) = ts ++ [.fin] /\ isP ts = false /\ DI bs (cr (b6 0 [] (ns.map Nd.b))) (ns.map Nd.b) 28 [] [] [] ts := by
 have htf := h.BX
 have hlen := h.Ah
 obtain ⟨r, rest, e, hr, hrest⟩ := h.walked
 rw [e] at htf hlen hb ⊢
 have hw : se 0 [] (r :: rest) := ⟨.inr ⟨hr, rfl, rfl⟩, mY rest _ _ hrest (by simp)⟩
 have hd : Dp 0 (b6 0 [] (r :: rest)) := by
  rw [b6, hr]
  exact ⟨by omega, Dp.props _ _ _ (Dp.enc rest 1 [0] hrest (by omega) (.inl rfl))⟩
 obtain ⟨ts, h1, h2⟩ := wq (r :: rest) [] [] hw
 simp only [List.length_nil, List.map_nil, List.nil_append] at h1 h2
 have hisP : isP ts = false := by
  cases ts with
  | nil => rfl
  | cons t ts =>
   cases t with
   | prop n v =>
    cases h2 with
    | cons hs _ => generalize hz : ([] : List bD) = z at hs; cases hs
   | _ => rfl
 refine ⟨ts, h1, hisP, ?_, h2, rfl, by simp [stk], Dp.left (b := [.fin]) (by rw [<- h1]; exact hd), fun t ht => ?_, ?_, by simp⟩
 ·rw [hb, <- h1]
  exact List.drop_left' hH
 ·have hm : t ∈ b6 0 [] (r :: rest) := by rw [h1]; simp [ht]
  have := htf t hm
  cases t with
  | beg s => exact ⟨this.1, by have := this.2; omega⟩
  | prop n v =>
   have hs := this.1.size
   exact ⟨yg hm, this.1.bl, by omega, by have := this.2; omega⟩
  | leave => trivial
  | fin => trivial
 ·rw [h1] at hlen
  simp at hlen ⊢
  omega
theorem m9 (L : List ByteArray) : ∀ ts : List Tok, (∀ t ∈ ts, CW t) -> (aR L ts).length <= 40 * ts.length
 | [], _ => by simp [aR]
 | t :: ts, h => by
  have h1 := m9 L ts fun t ht => h t (List.mem_cons_of_mem _ ht)
  have h2 : (t.bytes L).length <= 40 := by
   have := h t (by simp)
   cases t with
   | beg s =>
    have := this.2
    simp [Tok.bytes, az, aQ, aZ]
    omega
   | prop n v =>
    have := this.2
    simp [Tok.bytes, az, aQ, aZ]
    omega
   | leave => simp [Tok.bytes, az]
   | fin => simp [Tok.bytes, az]
  have e : aR L (t :: ts) = t.bytes L ++ aR L ts := by simp [aR]
  rw [e, List.length_append, List.length_cons]
  omega
theorem sG : ∀ (l L : List ByteArray), (∀ s ∈ l, s.size <= 10) -> (strs (l.foldl fy L)).length <= (strs L).length + 11 * l.length
 | [], L, _ => by simp
 | s :: l, L, h => by
  have h1 := sG l (fy L s) fun t ht => h t (List.mem_cons_of_mem _ ht)
  have h2 := tT L s (h s (by simp))
  rw [List.foldl_cons, List.length_cons]
  omega
theorem yh {ts : List Tok} (h : ∀ t ∈ ts, CW t) : (strs (cr ts)).length <= 11 * ts.length := by
 have h1 := sG (ts.flatMap Tok.names) [] fun s hs => by
  obtain ⟨t, ht, hs⟩ := List.mem_flatMap.1 hs
  have := h t ht
  cases t with
  | prop n v =>
   simp [Tok.names] at hs
   subst hs
   exact this.1.size.1
  | _ => simp [Tok.names] at hs
 have h2 : ∀ us : List Tok, (us.flatMap Tok.names).length <= us.length := by
  intro us
  induction us with
  | nil => simp
  | cons t us ih =>
   rw [List.flatMap_cons, List.length_append, List.length_cons]
   have : t.names.length <= 1 := by cases t <;> simp [Tok.names]
   omega
 have h3 := h2 ts
 have h4 : (strs ([] : List ByteArray)).length = 0 := rfl
 unfold cr
 omega
theorem FV.BG {ns : List Nd} (h : FV ns) : (aR (cr (b6 0 [] (ns.map Nd.b))) (b6 0 [] (ns.map Nd.b))).length <= 3000 /\ (strs (cr (b6 0 [] (ns.map Nd.b)))).length <= 1000 := by
 have h1 := m9 (cr (b6 0 [] (ns.map Nd.b))) _ h.BX
 have h2 := yh h.BX
 have h3 := h.Ah
 omega
theorem m8 (L : List ByteArray) : ∀ ts : List Tok, (aR L ts).length % 4 = 0
 | [] => rfl
 | t :: ts => by
  have h1 := m8 L ts
  have h2 := t.yC L
  have e : aR L (t :: ts) = t.bytes L ++ aR L ts := by simp [aR]
  rw [e, List.length_append]
  omega
theorem FV.same {ns ms : List Nd} (h : FV ns) (e : ms.map Nd.b = ns.map Nd.b) : FV ms := by
 have hl : ms.length = ns.length := by simpa using congrArg List.length e
 have hx : ∀ (i : Nat) (hi : i < ns.length), Nd.b (ms[i]'(by omega)) = Nd.b ns[i] := fun i hi => by
  have h1 : (ms.map Nd.b)[i]? = (ns.map Nd.b)[i]? := by rw [e]
  rw [List.getElem?_map, List.getElem?_map, List.getElem?_eq_getElem hi, List.getElem?_eq_getElem (by omega)] at h1
  exact Option.some.inj h1
 refine h.upd hl (fun i hi => ⟨congrArg (·.1) (hx i hi), congrArg (·.2.1) (hx i hi)⟩) fun n hn => ?_
 obtain ⟨i, hi, rfl⟩ := List.getElem_of_mem hn
 have h1 : ms[i].ps = (ns[i]'(by omega)).ps := congrArg (·.2.2) (hx i (by omega))
 rw [h1]
 exact h.fG _
theorem Cb {u v : Int} (k : Nat) (n : Nat) (hu : u = ((2 ^ k * n : Nat) : Int)) (hv : 0 <= v /\ v < ((2 ^ k : Nat) : Int)) (hb : u + v < 4611686018427387904) : IntKind.i64.wrap (((BitVec.ofInt IntKind.i64.bits u ||| BitVec.ofInt IntKind.i64.bits v).toNat : Nat) : Int) = u + v := by
 obtain ⟨m, rfl⟩ := Int.eq_ofNat_of_zero_le hv.1
 subst hu
 have hm : m < 2 ^ k := by omega
 have e : 2 ^ k * n + m = 2 ^ k * n ||| m := Nat.two_pow_add_eq_or_of_lt hm n
 have h1 : (BitVec.ofInt IntKind.i64.bits ((2 ^ k * n : Nat) : Int)).toNat = 2 ^ k * n := by
  rw [BitVec.toNat_ofInt]
  show (((2 ^ k * n : Nat) : Int) % ((2 ^ 64 : Nat) : Int)).toNat = _
  rw [<- Int.natCast_emod, Int.toNat_natCast, Nat.mod_eq_of_lt]
  have : ((2 ^ k * n : Nat) : Int) < 4611686018427387904 := by omega
  omega
 have h2 : (BitVec.ofInt IntKind.i64.bits (m : Int)).toNat = m := by
  rw [BitVec.toNat_ofInt]
  show ((m : Int) % ((2 ^ 64 : Nat) : Int)).toNat = _
  rw [<- Int.natCast_emod, Int.toNat_natCast, Nat.mod_eq_of_lt]
  omega
 rw [BitVec.toNat_or, h1, h2, <- e]
 rw [wrap64 (by omega) (by omega)]
 simp
theorem we {a b c d : Int} (ha : 0 <= a /\ a < 256) (hb : 0 <= b /\ b < 256) (hc : 0 <= c /\ c < 256) (hd : 0 <= d /\ d < 256) :
  IntKind.i64.wrap (((BitVec.ofInt IntKind.i64.bits (a * 16777216) ||| BitVec.ofInt IntKind.i64.bits (b * 65536)).toNat : Nat) : Int) = a * 16777216 + b * 65536 /\
  IntKind.i64.wrap (((BitVec.ofInt IntKind.i64.bits (a * 16777216 + b * 65536) ||| BitVec.ofInt IntKind.i64.bits (c * 256)).toNat : Nat) : Int) = a * 16777216 + b * 65536 + c * 256 /\
  IntKind.i64.wrap (((BitVec.ofInt IntKind.i64.bits (a * 16777216 + b * 65536 + c * 256) ||| BitVec.ofInt IntKind.i64.bits d).toNat : Nat) : Int) = yr a b c d := by
 obtain ⟨a, rfl⟩ := Int.eq_ofNat_of_zero_le ha.1
 obtain ⟨b, rfl⟩ := Int.eq_ofNat_of_zero_le hb.1
 obtain ⟨c, rfl⟩ := Int.eq_ofNat_of_zero_le hc.1
 refine ⟨Cb 24 a (by omega) (by omega) (by omega), Cb 16 (a * 256 + b) (by omega) (by omega) (by omega), ?_⟩
 rw [Cb 8 (a * 65536 + b * 256 + c) (by omega) (by omega) (by omega)]
 rfl
theorem pZ {a : Int} (ha : 0 <= a /\ a < 256) : IntKind.i64.wrap (a * 2 ^ (min (24 : Int).toNat IntKind.i64.bits)) = a * 16777216 /\ IntKind.i64.wrap (a * 2 ^ (min (16 : Int).toNat IntKind.i64.bits)) = a * 65536 /\ IntKind.i64.wrap (a * 2 ^ (min (8 : Int).toNat IntKind.i64.bits)) = a * 256 := by
 refine ⟨?_, ?_, ?_⟩
 ·show IntKind.i64.wrap (a * 16777216) = _
  exact wrap64 (by omega) (by omega)
 ·show IntKind.i64.wrap (a * 65536) = _
  exact wrap64 (by omega) (by omega)
 ·show IntKind.i64.wrap (a * 256) = _
  exact wrap64 (by omega) (by omega)
theorem cY (nl : Bool) (bs : List Int) (hb : ∀ b ∈ bs, 0 <= b /\ b < 256) (at_ : Nat) (n : Int) (hn : 0 <= n /\ n < 4294967296) (hl : bs.length <= 100000) (X : List Int) (hX : bs.drop at_ = aU n ++ X) : ao Tryz.prog 81 [.p (.list nl (bs.map pU8)), .p (pI at_)] [] fun r H => r = .p (pI n) /\ H = [] := by
 refine aa Tryz.func81 rfl rfl au rfl ?_
 have hlen : at_ + 4 <= bs.length := by
  have := congrArg List.length hX
  rw [List.length_drop, List.length_append, az] at this
  omega
 have hx : ∀ (j : Nat) (hj : j < bs.length) (i : Nat) (hi : i < (aU n).length), j = at_ + i -> bs[j] = (aU n)[i] := fun j hj i hi e => by
  subst e
  have h1 : (bs.drop at_)[i]? = (aU n ++ X)[i]? := by rw [hX]
  rw [List.getElem?_drop, List.getElem?_append_left hi, List.getElem?_eq_getElem hj, List.getElem?_eq_getElem hi] at h1
  injection h1
 have e0 := hx at_ (by omega) 0 (by rw [az]; omega) rfl
 have e1 := hx ((at_ : Int) + 1).toNat (by omega) 1 (by rw [az]; omega) (by omega)
 have e2 := hx ((at_ : Int) + 2).toNat (by omega) 2 (by rw [az]; omega) (by omega)
 have e3 := hx ((at_ : Int) + 3).toNat (by omega) 3 (by rw [az]; omega) (by omega)
 have r0 := hb _ (List.getElem_mem (l := bs) (n := at_) (by omega))
 have r1 := hb _ (List.getElem_mem (l := bs) (n := ((at_ : Int) + 1).toNat) (by omega))
 have r2 := hb _ (List.getElem_mem (l := bs) (n := ((at_ : Int) + 2).toNat) (by omega))
 have r3 := hb _ (List.getElem_mem (l := bs) (n := ((at_ : Int) + 3).toNat) (by omega))
 have s0 := (pZ r0).1
 have s1 := (pZ r1).2.1
 have s2 := (pZ r2).2.2
 obtain ⟨o1, o2, o3⟩ := we r0 r1 r2 r3
 have hg : yr bs[at_] bs[((at_ : Int) + 1).toNat] bs[((at_ : Int) + 2).toNat] bs[((at_ : Int) + 3).toNat] = n := by
  rw [e0, e1, e2, e3]
  exact yq hn
 rw [hg] at o3
 clear e0 e1 e2 e3 hx hX
 (conv => whnf); repeat' ((first | apply aB.plain | refine' gC | refine' gpI | refine' ia | refine' gpB | refine' gpS | refine' gE | (apply ax.quiet (by kernel_rfl) (by kernel_rfl); (conv => whnf); fail_if_success (show False))) <;> (conv => whnf))
 (refine ay.p ?_ <;> refine' aj; all_goals try first | refine Et ?_ | refine Dq ?_)
end Go.Proofs.YtaocnijlcgohnaaGreatDoor
namespace Go.Abs
open Go.RowKit
theorem kS.uW {P : Program} {f : FuncId} {fn : Func} (hf : P.funcs[f]? = some fn) (hname : (fn.name == "runtime.NumGoroutine") = false) (hb : fn.body.isNone = true) (hn : Extern.findNext fn = none) (he : Extern.find fn = some Extern.BytealgIndexByte.indexByte) (nl : Bool) (ns : List Int) (c : Int) :
  kS P f [.p (.list nl (ns.map fun n => .v (.int .u8 n))), .p (.v (.int .u8 c))] (.p (.v (.int .i64 (Lib.indexByte (Lib.bytesOf ns) c.toNat.toUInt8)))) :=
 ⟨fun H m S w vals hp hl hr => by
  obtain ⟨l⟩ := vals
  match l, hl with
  | [a, b], _ =>
   have h0 := hr 0 _ rfl
   have h1 := hr 1 _ rfl
   have e1 : b = .int .u8 c := by cases h1 with | p _ _ h => cases h; rfl
   have hxr : RdP S w (.list nl (ns.map fun n => .v (.int .u8 n))) a := by cases h0 with | p _ _ h => exact h
   have hsrc := cJ hxr (sz := 1) (fun x hx => by
    simp only [List.mem_map] at hx
    obtain ⟨n, _, rfl⟩ := hx
    rfl)
   rw [e1, run_callFunc_extern hf hname hb hn he]
   have key : ∀ (a : Addr) (cp : Nat), (∀ j v, (ns.map (Value.int .u8))[j]? = some v -> w.cell? (a.add j) = some v) -> (Extern.BytealgIndexByte.indexByte #[.slice (some a) ns.length cp, .int .u8 c]).run P w = .ok (.int .i64 (Lib.indexByte (Lib.bytesOf ns) c.toNat.toUInt8)) w :=
    fun a cp hcell => Lib.run_indexByteAt (P := P) w a ns.length cp ns rfl (fun i hi => hcell i _ (by rw [List.getElem?_map, List.getElem?_eq_getElem hi]; simp [List.getD, hi])) c
   rcases hsrc.at_ with ⟨h00, a, cp, rfl⟩ | ⟨a, cp, news, rfl, hnl, hat, hrr⟩
   ·have : ns = [] := by simpa using h00
    subst this
    cases a with
    | none =>
     rw [Lib.run_indexByteNil]
     exact ⟨_, rfl, .p _ _ (.v _ rfl)⟩
    | some a =>
     have hk := key a cp (by simp)
     rw [List.length_nil] at hk
     rw [hk]
     exact ⟨_, rfl, .p _ _ (.v _ rfl)⟩
   ·rw [List.length_map, key a cp fun j v hj => ?_]
    ·exact ⟨_, rfl, .p _ _ (.v _ rfl)⟩
    have h5 : (flat (ns.map fun n => PV.v (.int .u8 n)))[j]? = some (PV.v v) := by
     rw [lj, List.getElem?_map]
     rw [List.getElem?_map] at hj
     cases hj2 : ns[j]? with
     | none => rw [hj2] at hj; cases hj
     | some n => rw [hj2] at hj; injection hj with hj; subst hj; rfl
    obtain ⟨u, hu, hru, _⟩ := hrr j _ h5
    have e2 : u = v := by cases hru; rfl
    subst e2
    exact hat j u hu⟩
end Go.Abs
namespace Go.Proofs.YtaocnijlcgohnaaGreatDoor
open Go.Abs
set_option maxRecDepth 100000
def fi1 : Ln := (.lazy 0 (.lazy 1 (.lazy 2 (.lazy 3 (.lazy 4 (.lazy 5 (.lazy 6 (.lazy 7 (.lazy 8 (.lazy 9 (.lazy 10 (.lazy 11 (.lazy 12 (.lazy 13 (.lazy 14 (.lazy 15 (.lazy 16 (.lazy 17 (.lazy 18 (.one 19 (.lazy 20 (.lazy 21 .done))))))))))))))))))))))
def nu3 : Ln := (.lazy 0 (.lazy 1 (.lazy 2 (.lazy 3 (.lazy 4 (.lazy 5 (.lazy 6 (.lazy 7 (.one 8 (.lazy 9 .done))))))))))
def cu3 : Ln := (.lazy 0 (.lazy 1 (.lazy 2 (.lazy 3 (.lazy 4 (.lazy 5 (.lazy 6 (.lazy 7 (.lazy 8 (.lazy 9 (.lazy 10 (.lazy 11 .done))))))))))))
theorem kq {s : ByteArray} (h : (0 : Int) ∉ bl s) (X : List Int) : Lib.indexByte (Lib.bytesOf (bl s ++ 0 :: X)) (0 : Int).toNat.toUInt8 = s.size := by
 have key : ∀ (xs : List Int), (∀ x ∈ xs, 0 <= x /\ x < 256 /\ x ≠ 0) -> Lib.indexByte (Lib.bytesOf (xs ++ 0 :: X)) (0 : Int).toNat.toUInt8 = xs.length := by
  intro xs
  induction xs with
  | nil => intro _; rfl
  | cons x r ih =>
   intro h
   have h1 := h x (by simp)
   have h2 := ih fun y hy => h y (List.mem_cons_of_mem _ hy)
   unfold Lib.bytesOf at h2 ⊢
   rw [List.cons_append, List.map_cons, Lib.indexByte]
   have hne : (UInt8.ofNat x.toNat == (0 : Int).toNat.toUInt8) = false := by
    rw [beq_eq_false_iff_ne]
    intro e
    have := congrArg UInt8.toNat e
    rw [UInt8.toNat_ofNat_of_lt' (by simp [UInt8.size]; omega)] at this
    have h3 : ((0 : Int).toNat.toUInt8).toNat = 0 := rfl
    omega
   rw [hne, h2]
   simp only [Bool.false_eq_true, if_false, List.length_cons]
   rw [if_neg (by simp)]
   omega
 rw [key (bl s) fun x hx => ⟨(fL hx).1, (fL hx).2, fun e => h (e ▸ hx)⟩, aQ]
theorem y1d11 {P : Prop} (h : P := by
 ((conv => whnf); repeat' ((first | apply aB.plain | refine' gC | refine' gpI | refine' ia | refine' gpB | refine' gpS | refine' bh | refine' bj | refine' gE | (apply ax.quiet (by kernel_rfl) (by kernel_rfl); (conv => whnf); fail_if_success (show False))) <;> (conv => whnf))) <;> (solve_by_elim (newGoals := .nonDependentOnly) -symm -exfalso (transparency := .reducible) only [rfl, aC])) : P := h
theorem Bi (nl : Bool) (s : ByteArray) (h : (0 : Int) ∉ bl s) (X : List Int) : ao Tryz.prog 171 [.p (.list nl ((bl s ++ 0 :: X).map pU8)), .p (pU8 0)] [] fun r H => r = .p (pI s.size) /\ H = [] := by
 refine aa Tryz.func171 rfl rfl au rfl ?_
 refine' y1d11
 refine ab.ext _ (kS.uW Tryz.func206 (by kernel_rfl) (by kernel_rfl) (by kernel_rfl) (by kernel_rfl) nl (bl s ++ 0 :: X) 0) ?_
 rw [kq h X]
 refine' y1d11
 (refine ay.p ?_ <;> refine' aj; all_goals try first | refine Et ?_ | refine Dq ?_)
def rB (nb : Bool) (bs : List Int) (nz : Bool) (ss : List Int) (at_ : Nat) (n1 : Bool) (ns : List Nd) (n2 : Bool) (op : List Int) (n3 : Bool) (ch : List Bool) : AH := some (.cells [.p (.list nb (bs.map pU8)), .p (.list nz (ss.map pU8)), .p (pI at_), .buf 1, .buf 2, .buf 3, .p (pI 0), .p (pI 0)]) :: [some (AO.buf 64 n1 (ns.map Nd.pv)), some (AO.buf 3 n2 (op.map pI)), some (AO.buf 4 n3 (ch.map pB))]
theorem ze42c {P : Prop} (h : P := by
 ((first | apply aB.plain | refine' gC | refine' gpI | refine' ia | refine' gpB | refine' gpS | refine' bh | refine' bj | refine' gE | fail) <;> (conv => whnf)) <;> (solve_by_elim (newGoals := .nonDependentOnly) -symm -exfalso (transparency := .reducible) only [rfl, aC])) : P := h
theorem zedca {P : Prop} (h : P := by
 ((first | refine' gC | refine' gpI | refine' ia | refine' gpB | refine' gpS | refine' bh | refine' bj | refine' gE | fail) <;> (conv => whnf)) <;> (solve_by_elim (newGoals := .nonDependentOnly) -symm -exfalso (transparency := .reducible) only [rfl, aC])) : P := h
theorem oh (nb : Bool) (bs : List Int) (nz : Bool) (ss : List Int) (at_ : Nat) (n1 : Bool) (ns : List Nd) (n2 : Bool) (op : List Int) (n3 : Bool) (ch : List Bool) (n : Int) (h : n <= (bs.length : Int) - at_) (hl : bs.length <= 100000) (ha : at_ <= 100000) : ao Tryz.prog 130 [.ptr 0 0, .p (pI n)] (rB nb bs nz ss at_ n1 ns n2 op n3 ch) fun r H => r = .p (pB true) /\ H = rB nb bs nz ss at_ n1 ns n2 op n3 ch := by
 refine aa Tryz.func130 rfl rfl au rfl ?_
 (conv => whnf); repeat' ((first | (apply PdC.same; · with_reducible rfl) | apply PdC.chk | apply PdA.mk | (apply EqA.mk; rfl) | (apply LzA.mk; · ((conv => whnf); repeat' ((first | (apply EqA.mk; rfl) | refine' zedca | fail) <;> (conv => whnf)))) | refine' ze42c | (apply ax.lin fi1 (by kernel_rfl) (by decide +kernel))) <;> (conv => whnf))
 (refine' ay.auto (.p (pB _)) (rB nb bs nz ss at_ n1 ns n2 op n3 ch) rfl rfl rfl rfl _ _ _ <;> try refine' aj)
 all_goals first | rfl | (rw [decide_eq_true (by omega)]; rfl)
theorem ye42c {P : Prop} (h : P := by
 ((conv => whnf); repeat' ((first | apply aB.plain | refine' gC | refine' gpI | refine' ia | refine' gpB | refine' gpS | refine' bh | refine' bj | refine' gE | fail) <;> (conv => whnf))) <;> (solve_by_elim (newGoals := .nonDependentOnly) -symm -exfalso (transparency := .reducible) only [rfl, aC])) : P := h
theorem d_ (nb : Bool) (bs : List Int) (nz : Bool) (ss : List Int) (at_ : Nat) (n1 : Bool) (ns : List Nd) (n2 : Bool) (op : List Int) (n3 : Bool) (ch : List Bool) (n : Int) (hn : 0 <= n /\ n < 4294967296) (X : List Int) (hX : bs.drop at_ = aU n ++ X) (hb : ∀ b ∈ bs, 0 <= b /\ b < 256) (hl : bs.length <= 100000) : ao Tryz.prog 82 [.ptr 0 0] (rB nb bs nz ss at_ n1 ns n2 op n3 ch) fun r H => r = .tup [.p (pI n), .p (pB true)] /\ H = rB nb bs nz ss (at_ + 4) n1 ns n2 op n3 ch := by
 refine aa Tryz.func82 rfl rfl au rfl ?_
 have hlen : at_ + 4 <= bs.length := by
  have := congrArg List.length hX
  rw [List.length_drop, List.length_append, az] at this
  omega
 refine' ye42c
 refine ab.all ((oh nb bs nz ss at_ n1 ns n2 op n3 ch 4 (by omega) hl (by omega)).mono ?_)
 rintro _ _ ⟨rfl, rfl⟩
 (conv => whnf); repeat' ((first | (apply PdC.same; · with_reducible rfl) | apply PdC.chk | apply PdA.mk | (apply EqA.mk; rfl) | (apply LzA.mk; · ((conv => whnf); repeat' ((first | (apply EqA.mk; rfl) | refine' zedca | fail) <;> (conv => whnf)))) | refine' ze42c | (apply ax.lin nu3 (by kernel_rfl) (by decide +kernel)) | (refine ab.scalar (cY nb bs hb at_ n hn hl X hX) ?_)) <;> (conv => whnf))
 (refine' ay.auto (.tup [.p (pI n), .p (pB true)]) (rB nb bs nz ss (at_ + 4) n1 ns n2 op n3 ch) rfl rfl rfl rfl _ _ _ <;> refine' aj)
 all_goals exact ⟨rfl, rfl⟩
def rL (nb : Bool) (bs : List Int) (nz : Bool) (ss : List Int) (at_ : Nat) (ns : List Nd) (par : Int) (nm : ByteArray) (n2 : Bool) (op : List Int) (n3 : Bool) (ch : List Bool) (n4 : Bool) (ps : List bf) : AH := some (.cells [.p (.list nb (bs.map pU8)), .p (.list nz (ss.map pU8)), .p (pI at_), .buf 1, .buf 2, .buf 3, .p (pI 0), .p (pI 0)]) :: [some (AO.bn 64 (ns.map Nd.pv) [.p (pI par), .p (pS nm), .buf 4]), some (AO.buf 3 n2 (op.map pI)), some (AO.buf 4 n3 (ch.map pB)), some (AO.buf 97 n4 (ps.map Pr.pv))]
theorem og (nb : Bool) (bs : List Int) (nz : Bool) (ss : List Int) (at_ : Nat) (ns : List Nd) (par : Int) (nm : ByteArray) (n2 : Bool) (op : List Int) (n3 : Bool) (ch : List Bool) (n4 : Bool) (ps : List bf) (n : Int) (h : n <= (bs.length : Int) - at_) (hl : bs.length <= 100000) (ha : at_ <= 100000) : ao Tryz.prog 130 [.ptr 0 0, .p (pI n)] (rL nb bs nz ss at_ ns par nm n2 op n3 ch n4 ps) fun r H => r = .p (pB true) /\ H = rL nb bs nz ss at_ ns par nm n2 op n3 ch n4 ps := by
 refine aa Tryz.func130 rfl rfl au rfl ?_
 (conv => whnf); repeat' ((first | (apply PdC.same; · with_reducible rfl) | apply PdC.chk | apply PdA.mk | (apply EqA.mk; rfl) | (apply LzA.mk; · ((conv => whnf); repeat' ((first | (apply EqA.mk; rfl) | refine' zedca | fail) <;> (conv => whnf)))) | refine' ze42c | (apply ax.lin fi1 (by kernel_rfl) (by decide +kernel))) <;> (conv => whnf))
 (refine' ay.auto (.p (pB _)) (rL nb bs nz ss at_ ns par nm n2 op n3 ch n4 ps) rfl rfl rfl rfl _ _ _ <;> try refine' aj)
 all_goals first | rfl | (rw [decide_eq_true (by omega)]; rfl)
theorem fY (nb : Bool) (bs : List Int) (nz : Bool) (ss : List Int) (at_ : Nat) (ns : List Nd) (par : Int) (nm : ByteArray) (n2 : Bool) (op : List Int) (n3 : Bool) (ch : List Bool) (n4 : Bool) (ps : List bf) (n : Int) (hn : 0 <= n /\ n < 4294967296) (X : List Int) (hX : bs.drop at_ = aU n ++ X) (hb : ∀ b ∈ bs, 0 <= b /\ b < 256) (hl : bs.length <= 100000) : ao Tryz.prog 82 [.ptr 0 0] (rL nb bs nz ss at_ ns par nm n2 op n3 ch n4 ps) fun r H => r = .tup [.p (pI n), .p (pB true)] /\ H = rL nb bs nz ss (at_ + 4) ns par nm n2 op n3 ch n4 ps := by
 refine aa Tryz.func82 rfl rfl au rfl ?_
 have hlen : at_ + 4 <= bs.length := by
  have := congrArg List.length hX
  rw [List.length_drop, List.length_append, az] at this
  omega
 refine' ye42c
 refine ab.all ((og nb bs nz ss at_ ns par nm n2 op n3 ch n4 ps 4 (by omega) hl (by omega)).mono ?_)
 rintro _ _ ⟨rfl, rfl⟩
 (conv => whnf); repeat' ((first | (apply PdC.same; · with_reducible rfl) | apply PdC.chk | apply PdA.mk | (apply EqA.mk; rfl) | (apply LzA.mk; · ((conv => whnf); repeat' ((first | (apply EqA.mk; rfl) | refine' zedca | fail) <;> (conv => whnf)))) | refine' ze42c | (apply ax.lin nu3 (by kernel_rfl) (by decide +kernel)) | (refine ab.scalar (cY nb bs hb at_ n hn hl X hX) ?_)) <;> (conv => whnf))
 (refine' ay.auto (.tup [.p (pI n), .p (pB true)]) (rL nb bs nz ss (at_ + 4) ns par nm n2 op n3 ch n4 ps) rfl rfl rfl rfl _ _ _ <;> refine' aj)
 all_goals exact ⟨rfl, rfl⟩
theorem AL : ∀ k, k < 5 -> (bk Tryz.prog ti xf 10000 mdN [] 30).1 133 [.p (pS (c_ (aY k))), .p (pS ⟨#[0]⟩)] = some (.p (pS ⟨#[]⟩))
 | 0, _ => by kernel_rfl
 | 1, _ => by kernel_rfl
 | 2, _ => by kernel_rfl
 | 3, _ => by kernel_rfl
 | 4, _ => by kernel_rfl
 | k + 5, h => absurd h (by omega)
theorem wO (k : Nat) (hk : k < 5) : ao Tryz.prog 133 [.p (pS (c_ (aY k))), .p (pS ⟨#[0]⟩)] [] fun r H => r = .p (pS ⟨#[]⟩) /\ H = [] := cd au mixed fD cg 30 (AL k hk)
theorem vo (s : ByteArray) (a b : Nat) : bl (s.extract a b) = ((bl s).take b).drop a := by
 unfold bl
 rw [ByteArray.data_extract, Array.toList_extract, List.extract_eq_take_drop, List.map_take, List.map_drop, List.drop_take]
theorem tx {ns : List Int} (h : ∀ n ∈ ns, 0 <= n /\ n < 256) {x : ByteArray} {X : List Int} (e : ns = bl x ++ X) : (c_ ns).extract 0 x.size = x := by
 apply CO
 rw [vo, Bw h, e, <- aQ x, List.take_left, List.drop_zero]
theorem zl (x : ByteArray) (hx : (0 : Int) ∉ bl x) (X : List Int) : ao Tryz.prog 238 [.p (pS (c_ (bl x ++ 0 :: X))), .p (pU8 0)] [] fun r H => r = .p (pI x.size) /\ H = [] := by
 refine aa Tryz.func238 rfl rfl au rfl ?_
 refine' y1d11
 refine ab.ext _ (kS.indexByte Tryz.func256 (by kernel_rfl) (by kernel_rfl) (by kernel_rfl) (by kernel_rfl) (c_ (bl x ++ 0 :: X)) 0) ?_
 rw [lE]
 have := kq hx X
 unfold Lib.bytesOf at this
 rw [this]
 refine' y1d11
 (refine ay.p ?_ <;> refine' aj; all_goals try first | refine Et ?_ | refine Dq ?_)
theorem z1d11 {P : Prop} (h : P := by
 ((first | apply aB.plain | refine' gC | refine' gpI | refine' ia | refine' gpB | refine' gpS | refine' bh | refine' bj | refine' gE | (apply ax.quiet (by kernel_rfl) (by kernel_rfl); (conv => whnf); fail_if_success (show False))) <;> (conv => whnf)) <;> (solve_by_elim (newGoals := .nonDependentOnly) -symm -exfalso (transparency := .reducible) only [rfl, aC])) : P := h
theorem wY (x : ByteArray) (hx : (0 : Int) ∉ bl x) (X : List Int) : ao Tryz.prog 239 [.p (pS (c_ (bl x ++ 0 :: X))), .p (pS ⟨#[0]⟩)] [] fun r H => r = .p (pI x.size) /\ H = [] := by
 refine aa Tryz.func239 rfl rfl au rfl ?_
 by_cases hE : ((⟨#[0]⟩ : ByteArray).toList == (c_ (bl x ++ 0 :: X)).toList) = true
 ·have e := hE
  rw [mn, decide_eq_true_eq] at e
  have hz : x.size = 0 := by
   have h1 := congrArg ByteArray.size e
   rw [iM, List.length_append, aQ, List.length_cons] at h1
   have h2 : (⟨#[0]⟩ : ByteArray).size = 1 := rfl
   omega
  rw [hz]
  have h1 : (⟨#[0]⟩ : ByteArray).size = 1 := rfl
  refine' y1d11
  (refine ay.p ?_ <;> refine' aj; all_goals try first | refine Et ?_ | refine Dq ?_)
 ·have hE : ((⟨#[0]⟩ : ByteArray).toList == (c_ (bl x ++ 0 :: X)).toList) = false := by simpa using hE
  have h1 : (⟨#[0]⟩ : ByteArray).size = 1 := rfl
  (conv => whnf); repeat' ((first | (refine ⟨0, Int.le_refl 0, rfl, ?_⟩) | refine' z1d11 | (refine ab.scalar (zl x hx X) ?_)) <;> (conv => whnf))
  (refine ay.p ?_ <;> refine' aj; all_goals try first | refine Et ?_ | refine Dq ?_)
theorem ub (x : ByteArray) (hx : (0 : Int) ∉ bl x) (X : List Int) (hX : ∀ n ∈ X, 0 <= n /\ n < 256) (hxs : x.size <= 1000) (hXl : X.length <= 100000) : ao Tryz.prog 172 [.p (pS (c_ (bl x ++ 0 :: X))), .p (pS ⟨#[0]⟩)] [] fun r H => ∃ y, r = .tup [.p (pS x), .p (pS y), .p (pB true)] /\ H = [] := by
 have hr : ∀ n ∈ bl x ++ 0 :: X, 0 <= n /\ n < 256 := fun n hn => by
  rcases List.mem_append.1 hn with h | h
  ·exact fL h
  ·rcases List.mem_cons.1 h with rfl | h
   ·omega
   ·exact hX n h
 have he := tx hr (x := x) (X := 0 :: X) rfl
 have hsz : (c_ (bl x ++ 0 :: X)).size = x.size + (X.length + 1) := by rw [iM, List.length_append, aQ, List.length_cons]
 have hC : ao Tryz.prog 207 [.p (pS (c_ (bl x ++ 0 :: X))), .p (pS ⟨#[0]⟩)] [] fun r H => ∃ y, r = .tup [.p (pS x), .p (pS y), .p (pB true)] /\ H = [] := by
  refine aa Tryz.func207 rfl rfl au rfl ?_
  have h1 : (⟨#[0]⟩ : ByteArray).size = 1 := rfl
  (conv => whnf); repeat' ((first | (apply PdC.same; · with_reducible rfl) | apply PdC.chk | apply PdA.mk | (apply EqA.mk; rfl) | (apply LzA.mk; · ((conv => whnf); repeat' ((first | (apply EqA.mk; rfl) | refine' zedca | fail) <;> (conv => whnf)))) | refine' ze42c | (refine ab.scalar (wY x hx X) ?_) | (apply ax.lin cu3 (by kernel_rfl) (by decide +kernel))) <;> (conv => whnf))
  refine ay.raw _ _ _ ⟨(c_ (bl x ++ 0 :: X)).extract ((x.size : Int) + ((⟨#[0]⟩ : ByteArray).size : Nat)).toNat (c_ (bl x ++ 0 :: X)).size, ?_, rfl⟩
  show AV.tup [.p (pS ((c_ (bl x ++ 0 :: X)).extract 0 x.size)), _, _] = _
  rw [he]
  rfl
 refine aa Tryz.func172 rfl rfl au rfl ?_
 refine' y1d11
 refine ab.all (hC.mono ?_)
 rintro _ _ ⟨y, rfl, rfl⟩
 refine' y1d11
 (refine' ay.auto (.tup [.p (pS x), .p (pS y), .p (pB true)]) ([]) rfl rfl rfl rfl _ _ _ <;> refine' aj)
 exact ⟨y, rfl, rfl⟩
def Dc : Ln := (.lazy 0 (.lazy 1 (.lazy 2 (.lazy 3 (.lazy 4 (.lazy 5 (.lazy 6 (.lazy 7 (.lazy 8 (.lazy 9 (.lazy 10 (.one 11 (.one 12 (.one 13 (.lazy 14 .done)))))))))))))))
theorem ud {n : Nat} (h : 0 < n) : aY n = 0 :: aY (n - 1) := by
 obtain ⟨m, rfl⟩ := Nat.exists_eq_add_of_lt h
 rw [show 0 + m + 1 = m + 1 by omega]
 rfl
theorem AZ {bs A X : List Int} {at_ : Nat} (h : bs.drop at_ = A ++ X) {i j : Int} (hi : i = at_) (hj : j = at_ + (A.length : Int)) (hb : at_ <= bs.length) : (bs.take j.toNat).drop i.toNat = A := by
 subst hi
 subst hj
 rw [show ((at_ : Int) + (A.length : Int)).toNat = at_ + A.length by omega, Int.toNat_natCast, List.drop_take, h, Nat.add_sub_cancel_left]
 simp
theorem pX (k : Nat) (hk : k < 5) : ao Tryz.prog 133 [.p (pS (c_ (aY k))), .p (pS ⟨#[0]⟩)] [] fun r H => ∃ z : ByteArray, z = ⟨#[]⟩ /\ r = .p (pS z) /\ H = [] := (wO k hk).mono fun _ _ h => ⟨_, rfl, h.1, h.2⟩
theorem lC (s : ByteArray) {k : AV -> Prop} (h : k (.p (pS s))) : eU ((bl s).map pU8) k := ⟨bl s, rfl, by rw [r6]; exact h⟩
theorem lu {bs A X : List Int} {at_ : Nat} (h : bs.drop at_ = A ++ X) {i j : Int} (hi : i = at_) (hj : j = at_ + (A.length : Int)) : ((bs.map pU8).take j.toNat).drop i.toNat = A.map pU8 := by
 subst hi
 subst hj
 rw [<- List.map_take, <- List.map_drop, show ((at_ : Int) + (A.length : Int)).toNat = at_ + A.length by omega, Int.toNat_natCast, List.drop_take, h, Nat.add_sub_cancel_left]
 simp
theorem dm {bs A X : List Int} {at_ : Nat} (h : bs.drop at_ = A ++ X) : bs.drop (at_ + A.length) = X := by
 rw [<- List.drop_drop, h]
 simp
theorem lh {bs A X : List Int} {at_ : Nat} (h : bs.drop at_ = A ++ X) (h0 : 0 < A.length) : at_ + A.length <= bs.length := by
 have := congrArg List.length h
 rw [List.length_drop, List.length_append] at this
 omega
theorem pY (nb : Bool) (bs : List Int) (nz : Bool) (ss : List Int) (at_ : Nat) (n1 : Bool) (ns : List Nd) (n2 : Bool) (op : List Int) (n3 : Bool) (ch : List Bool) (s : ByteArray) (hs : (0 : Int) ∉ bl s) (hsz : s.size <= 100) (X : List Int) (hX : bs.drop at_ = (bl s ++ aY (4 - s.size % 4)) ++ X) (hl : bs.length <= 100000) : ao Tryz.prog 131 [.ptr 0 0] (rB nb bs nz ss at_ n1 ns n2 op n3 ch) fun r H => r = .tup [.p (pS s), .p (pB true)] /\ H = rB nb bs nz ss (at_ + (s.size + (4 - s.size % 4))) n1 ns n2 op n3 ch := by
 refine aa Tryz.func131 rfl rfl au rfl ?_
 have hsl := aQ s
 have hA : (bl s ++ aY (4 - s.size % 4)).length = s.size + (4 - s.size % 4) := by rw [List.length_append, hsl, aZ]
 have hlen := lh hX (by omega)
 rw [hA] at hlen
 have hm : (s.size : Int).tmod 4 = ((s.size % 4 : Nat) : Int) := (Int.ofNat_tmod _ 4).symm
 have hd : bs.drop at_ = bl s ++ 0 :: (aY (4 - s.size % 4 - 1) ++ X) := by rw [hX, List.append_assoc, ud (by omega)]; rfl
 have hX2 : bs.drop at_ = bl s ++ (aY (4 - s.size % 4) ++ X) := by rw [hX, List.append_assoc]
 have hX3 := dm hX2
 (conv => whnf); repeat' ((first | (refine aX.mk ((bl s ++ 0 :: (aY (4 - s.size % 4 - 1) ++ X)).map pU8) (by simp; omega) (by rw [<- hd, List.map_drop]; simp; rw [List.take_of_length_le (by simp)]) ?_) | refine' ze42c | (refine ab.scalar (Bi nb s hs _) ?_)) <;> (conv => whnf))
 refine ab.all ((oh nb bs nz ss at_ n1 ns n2 op n3 ch _ (by omega) hl (by omega)).mono ?_)
 rintro _ _ ⟨rfl, rfl⟩
 (conv => whnf); repeat' ((first | (apply PdC.same; · with_reducible rfl) | apply PdC.chk | apply PdA.mk | (apply EqA.mk; rfl) | (apply LzA.mk; · ((conv => whnf); repeat' ((first | (apply EqA.mk; rfl) | (refine aX.mk ((aY (4 - s.size % 4)).map pU8) (by simp; omega) (lu hX3 (by omega) (by rw [aZ]; simp; omega)) ?_) | (refine eU.mk (aY (4 - s.size % 4)) rfl ?_) | refine' zedca | fail) <;> (conv => whnf)))) | (refine aX.mk ((aY (4 - s.size % 4)).map pU8) (by simp; omega) (lu hX3 (by omega) (by rw [aZ]; simp; omega)) ?_) | (refine eU.mk (aY (4 - s.size % 4)) rfl ?_) | refine' ze42c | (apply ax.lin Dc (by kernel_rfl) (by decide +kernel))) <;> (conv => whnf))
 refine ab.loc [] [] rfl rfl ((pX (4 - s.size % 4) (by omega)).mono ?_)
 rintro _ _ ⟨z, hz, rfl, rfl⟩
 conv => whnf
 apply PdC.same
 ·with_reducible rfl
 (conv => whnf); repeat' ((first | (apply PdC.same; · with_reducible rfl) | apply PdC.chk | apply PdA.mk | (apply EqA.mk; rfl) | (apply LzA.mk; · ((conv => whnf); repeat' ((first | (apply EqA.mk; rfl) | (refine aX.mk ((bl s).map pU8) (by simp; omega) (lu hX2 (by omega) (by simp; omega)) ?_) | (with_reducible refine lC s ?_) | refine' zedca | fail) <;> (conv => whnf)))) | (refine aX.mk ((bl s).map pU8) (by simp; omega) (lu hX2 (by omega) (by simp; omega)) ?_) | (with_reducible refine lC s ?_) | refine' ze42c | (apply ax.lin Dc (by kernel_rfl) (by decide +kernel))) <;> (conv => whnf))
 ·rw [hz, beq_self_eq_true] at h0
  exact Bool.noConfusion h0
 rw [show ((at_ : Int) + ((s.size : Int) + 4 - ((s.size % 4 : Nat) : Int))) = ((at_ + (s.size + (4 - s.size % 4)) : Nat) : Int) by omega]
 (refine' ay.auto (.tup [.p (pS s), .p (pB true)]) (rB nb bs nz ss (at_ + (s.size + (4 - s.size % 4))) n1 ns n2 op n3 ch) rfl rfl rfl rfl _ _ _ <;> refine' aj)
theorem Br {A Y : List Int} {i j : Int} {ss : List Int} (h : ss = A ++ Y) (hi : i = A.length) (hj : j = (ss.length : Int)) : ((ss.map pU8).take j.toNat).drop i.toNat = Y.map pU8 := by
 subst hi
 subst hj
 subst h
 rw [Int.toNat_natCast, Int.toNat_natCast, List.take_of_length_le (by simp), <- List.map_drop]
 simp
theorem last_zero {A0 Y : List Int} {i : Int} (hi : i = A0.length) : ((A0 ++ [0] ++ Y).map pU8)[i.toNat]? = some (pU8 0) := by
 subst hi
 simp
theorem sH (nb : Bool) (bs : List Int) (nz : Bool) (ss : List Int) (at_ : Nat) (ns : List Nd) (par : Int) (nm : ByteArray) (n2 : Bool) (op : List Int) (n3 : Bool) (ch : List Bool) (n4 : Bool) (ps : List bf) (n : ByteArray) (A B : List Int) (hss : ss = A ++ (bl n ++ 0 :: B)) (hA : A = [] \/ ∃ A0, A = A0 ++ [0]) (hn : (0 : Int) ∉ bl n) (hsz : n.size <= 1000) (hr : ∀ x ∈ ss, 0 <= x /\ x < 256) (hsl : ss.length <= 100000) : ao Tryz.prog 132 [.ptr 0 0, .p (pI A.length)] (rL nb bs nz ss at_ ns par nm n2 op n3 ch n4 ps) fun r H => r = .tup [.p (pS n), .p (pB true)] /\ H = rL nb bs nz ss at_ ns par nm n2 op n3 ch n4 ps := by
 refine aa Tryz.func132 rfl rfl au rfl ?_
 have hlen : ss.length = A.length + (n.size + (B.length + 1)) := by rw [hss, List.length_append, List.length_append, List.length_cons, aQ]
 have hrB : ∀ x ∈ B, 0 <= x /\ x < 256 := fun x hx => hr x (by rw [hss]; simp [hx])
 have hidx : ∀ i : Int, 0 < (A.length : Int) -> i = A.length - 1 -> (ss.map pU8)[i.toNat]? = some (pU8 0) := fun i h hi => by
  rcases hA with rfl | ⟨A0, rfl⟩
  ·simp at h
  ·rw [hss]
   exact last_zero (by rw [hi, List.length_append]; simp)
 (conv => whnf); repeat' ((first | (refine bO.mk (pU8 0) (by omega) (hidx _ (by omega) (by omega)) ?_) | (refine aX.mk ((bl n ++ 0 :: B).map pU8) (by simp; omega) (Br hss (by omega) (by simp)) ?_) | (refine eU.mk (bl n ++ 0 :: B) rfl ?_) | refine' ze42c | fail) <;> (conv => whnf))
 ·refine ab.loc [] [] rfl rfl ((ub n hn B hrB hsz (by omega)).mono ?_)
  rintro _ _ ⟨y, rfl, rfl⟩
  refine' y1d11
  (refine' ay.auto (.tup [.p (pS n), .p (pB true)]) (rL nb bs nz ss at_ ns par nm n2 op n3 ch n4 ps) rfl rfl rfl rfl _ _ _ <;> refine' aj)
 ·refine ab.loc [] [] rfl rfl ((ub n hn B hrB hsz (by omega)).mono ?_)
  rintro _ _ ⟨y, rfl, rfl⟩
  refine' y1d11
  (refine' ay.auto (.tup [.p (pS n), .p (pB true)]) (rL nb bs nz ss at_ ns par nm n2 op n3 ch n4 ps) rfl rfl rfl rfl _ _ _ <;> refine' aj)
def rP (nb : Bool) (bs : List Int) (nz : Bool) (ss : List Int) (at_ : Nat) (ns : List Nd) (par : Int) (nm : ByteArray) (n2 : Bool) (op : List Int) (n3 : Bool) (ch : List Bool) (n4 : Bool) (ps : List bf) : AH := some (.cells [.p (.list nb (bs.map pU8)), .p (.list nz (ss.map pU8)), .p (pI at_), .buf 1, .buf 2, .buf 3, .p (pI 0), .p (pI 0)]) :: [some (AO.bn 64 (ns.map Nd.pv) [.p (pI par), .p (pS nm), .buf 5]), some (AO.buf 3 n2 (op.map pI)), some (AO.buf 4 n3 (ch.map pB)), none, some (AO.buf 97 n4 (ps.map Pr.pv))]
def Es : Ln := (.lazy 0 (.lazy 1 (.lazy 2 (.lazy 3 (.lazy 4 (.lazy 5 (.lazy 6 (.lazy 7 (.lazy 8 (.lazy 9 (.lazy 10 (.one 11 (.one 12 (.one 13 (.lazy 14 .done)))))))))))))))
def Er : Ln := (.lazy 0 (.lazy 1 (.lazy 2 (.lazy 3 (.lazy 4 (.lazy 5 (.lazy 6 (.lazy 7 (.lazy 8 (.lazy 9 (.lazy 10 (.lazy 11 (.lazy 12 (.lazy 13 (.lazy 14 (.lazy 15 (.lazy 16 (.lazy 17 (.lazy 18 .done)))))))))))))))))))
def Ep : Ln := (.lazy 0 (.lazy 1 (.lazy 2 (.lazy 3 (.lazy 4 (.lazy 5 (.lazy 6 (.lazy 7 (.lazy 8 (.lazy 9 (.lazy 10 (.lazy 11 (.lazy 12 (.lazy 13 (.one 14 (.one 15 (.lazy 16 (.lazy 17 (.one 18 (.lazy 19 (.lazy 20 (.one 21 .done))))))))))))))))))))))
theorem pt (nb : Bool) (bs : List Int) (nz : Bool) (ss : List Int) (at_ : Nat) (ns : List Nd) (par : Int) (nm : ByteArray) (n2 : Bool) (op : List Int) (n3 : Bool) (ch : List Bool) (n4 : Bool) (ps : List bf) (n v : ByteArray) (A B X : List Int) (hss : ss = A ++ (bl n ++ 0 :: B)) (hA : A = [] \/ ∃ A0, A = A0 ++ [0]) (hn : (0 : Int) ∉ bl n) (hsz : n.size <= 1000) (hv : v.size <= 256) (hr : ∀ x ∈ ss, 0 <= x /\ x < 256) (hsl : ss.length <= 100000) (hb : ∀ b ∈ bs, 0 <= b /\ b < 256) (hl : bs.length <= 100000)
  (hX : bs.drop at_ = aU v.size ++ (aU A.length ++ ((bl v ++ aY ((4 - v.size % 4) % 4)) ++ X))) (o : List Int) (hop : op = o ++ [(ns.length : Int)]) (hps : ps.length <= 1000) (hns : ns.length <= 100000) (hol : o.length <= 1000) :
  ao Tryz.prog 84 [.ptr 0 0] (rL nb bs nz ss at_ ns par nm n2 op n3 ch n4 ps) fun r H => r = .p (pB true) /\ H = rP nb bs nz ss (at_ + 4 + 4 + (v.size + (4 - v.size % 4) % 4)) ns par nm n2 op n3 ch false (ps ++ [(n, v)]) := by
 refine aa Tryz.func84 rfl rfl au rfl ?_
 have hAl : A.length <= 100000 := by have := congrArg List.length hss; rw [List.length_append] at this; omega
 have hX1 := dm hX
 have hX2 := dm hX1
 rw [az] at hX1 hX2
 rw [az] at hX2
 have hX3 : bs.drop (at_ + 4 + 4) = bl v ++ (aY ((4 - v.size % 4) % 4) ++ X) := by rw [hX2, List.append_assoc]
 have hX4 := dm hX3
 rw [aQ] at hX4
 have h8 : at_ + 4 <= bs.length /\ at_ + 4 + 4 + v.size + (4 - v.size % 4) % 4 <= bs.length := by
  have h1 := congrArg List.length hX
  have h2 := congrArg List.length hX1
  have h3 := congrArg List.length hX2
  simp only [List.length_drop, List.length_append, az, aQ, aZ] at h1 h2 h3
  omega
 have hq : ((v.size : Int) + 3).tdiv 4 = (((v.size + 3) / 4 : Nat) : Int) := Int.ofNat_tdiv _ 4 |>.symm
 refine' ye42c
 refine ab.all ((fY nb bs nz ss at_ ns par nm n2 op n3 ch n4 ps v.size (by omega) _ hX hb hl).mono ?_)
 rintro _ _ ⟨rfl, rfl⟩
 refine' ye42c
 refine ab.all ((fY nb bs nz ss (at_ + 4) ns par nm n2 op n3 ch n4 ps A.length (by omega) _ hX1 hb hl).mono ?_)
 rintro _ _ ⟨rfl, rfl⟩
 refine' ye42c
 refine ab.all ((sH nb bs nz ss (at_ + 4 + 4) ns par nm n2 op n3 ch n4 ps n A B hss hA hn hsz hr hsl).mono ?_)
 rintro _ _ ⟨rfl, rfl⟩
 refine' ye42c
 refine ab.all ((og nb bs nz ss (at_ + 4 + 4) ns par nm n2 op n3 ch n4 ps _ (by omega) hl (by omega)).mono ?_)
 rintro _ _ ⟨rfl, rfl⟩
 (conv => whnf); repeat' ((first | (apply PdC.same; · with_reducible rfl) | apply PdC.chk | apply PdA.mk | (apply EqA.mk; rfl) | (apply LzA.mk; · ((conv => whnf); repeat' ((first | (apply EqA.mk; rfl) | (refine aX.mk ((aY ((4 - v.size % 4) % 4)).map pU8) (by simp; omega) (lu hX4 (by omega) (by rw [aZ]; simp; omega)) ?_) | (refine eU.mk (aY ((4 - v.size % 4) % 4)) rfl ?_) | refine' zedca | fail) <;> (conv => whnf)))) | (refine aX.mk ((aY ((4 - v.size % 4) % 4)).map pU8) (by simp; omega) (lu hX4 (by omega) (by rw [aZ]; simp; omega)) ?_) | (refine eU.mk (aY ((4 - v.size % 4) % 4)) rfl ?_) | refine' ze42c | (apply ax.lin Es (by kernel_rfl) (by decide +kernel))) <;> (conv => whnf))
 refine ab.loc [] [] rfl rfl ((pX ((4 - v.size % 4) % 4) (by omega)).mono ?_)
 rintro _ _ ⟨z, hz, rfl, rfl⟩
 conv => whnf
 apply PdC.same
 ·with_reducible rfl
 (conv => whnf); repeat' ((first | (apply PdC.same; · with_reducible rfl) | apply PdC.chk | apply PdA.mk | (apply EqA.mk; rfl) | (apply LzA.mk; · ((conv => whnf); repeat' ((first | (apply EqA.mk; rfl) | refine' zedca | fail) <;> (conv => whnf)))) | refine' ze42c | (fail "DrawA.lin")) <;> (conv => whnf))
 ·rw [hz, beq_self_eq_true] at h0
  exact Bool.noConfusion h0
 have hlast : (op.map pI)[((op.length : Int) - 1).toNat]? = some (pI ns.length) := by
  rw [hop, List.length_append, List.length_singleton, show ((o.length + 1 : Nat) : Int) - 1 = (o.length : Int) by omega, Int.toNat_natCast, List.map_append, List.getElem?_append_right (by simp)]
  simp
 have hopl : op.length = o.length + 1 := by rw [hop]; simp
 rw [hopl] at hlast
 conv => whnf
 apply ax.lin Er (by kernel_rfl) (by decide +kernel)
 (conv => whnf); repeat' ((first | (apply PdC.same; · with_reducible rfl) | apply PdC.chk | apply PdA.mk | (apply EqA.mk; rfl) | (apply LzA.mk; · ((conv => whnf); repeat' ((first | (apply EqA.mk; rfl) | ((refine cq.mk (o.length + 1) (by rw [List.length_map]; exact hopl) ?_; intro _)) | (refine bO.mk (pI ns.length) (by omega) hlast ?_) | refine' zedca | fail) <;> (conv => whnf)))) | ((refine cq.mk (o.length + 1) (by rw [List.length_map]; exact hopl) ?_; intro _)) | (refine bO.mk (pI ns.length) (by omega) hlast ?_) | refine' ze42c | (fail "DrawA.lin")) <;> (conv => whnf))
 apply ax.lin Ep (by kernel_rfl) (by decide +kernel)
 (conv => whnf); repeat' ((first | (apply PdC.same; · with_reducible rfl) | apply PdC.chk | apply PdA.mk | (apply EqA.mk; rfl) | (apply LzA.mk; · ((conv => whnf); repeat' ((first | (apply EqA.mk; rfl) | refine' zedca | fail) <;> (conv => whnf)))) | refine' ze42c | (fail "DrawA.lin")) <;> (conv => whnf))
 have hp : (bs.take ((((at_ + 4 + 4 : Nat) : Int) + (v.size : Int)).toNat)).drop (((at_ + 4 + 4 : Nat) : Int).toNat) = bl v := AZ hX3 rfl (by rw [aQ]) (by omega)
 rw [hp]
 with_reducible refine lC v ?_
 (conv => whnf); repeat' ((first | (apply PdC.same; · with_reducible rfl) | apply PdC.chk | apply PdA.mk | (apply EqA.mk; rfl) | (apply LzA.mk; · ((conv => whnf); repeat' ((first | (apply EqA.mk; rfl) | refine' zedca | fail) <;> (conv => whnf)))) | refine' ze42c | (fail "DrawA.lin")) <;> (conv => whnf))
 rw [show (((at_ + 4 + 4 : Nat) : Int) + (((v.size + 3) / 4 : Nat) : Int) * 4) = ((at_ + 4 + 4 + (v.size + (4 - v.size % 4) % 4) : Nat) : Int) by omega]
 (refine' ay.mk _ _ _ [5] (.p (pB true)) (rP nb bs nz ss (at_ + 4 + 4 + (v.size + (4 - v.size % 4) % 4)) ns par nm n2 op n3 ch false (ps ++ [(n, v)])) rfl rfl _ rfl rfl _ <;> refine' aj)
def nd9 : Ln := (.lazy 0 (.lazy 1 (.lazy 2 (.lazy 3 (.lazy 4 (.lazy 5 (.lazy 6 (.lazy 7 (.lazy 8 (.lazy 9 (.lazy 10 (.lazy 11 (.lazy 12 .done)))))))))))))
def Eu : Ln := (.lazy 0 (.lazy 1 (.lazy 2 (.lazy 3 (.lazy 4 (.lazy 5 (.lazy 6 (.lazy 7 (.lazy 8 (.lazy 9 (.lazy 10 (.one 11 .done))))))))))))
def Du : Ln := (.lazy 0 (.lazy 1 (.lazy 2 (.lazy 3 (.lazy 4 (.lazy 5 (.lazy 6 (.lazy 7 (.lazy 8 (.lazy 9 (.lazy 10 (.lazy 11 (.lazy 12 (.lazy 14 (.lazy 15 (.lazy 16 (.lazy 17 (.lazy 18 (.one 13 (.one 19 (.lazy 20 (.lazy 21 (.one 22 (.lazy 23 (.lazy 24 (.one 25 .done))))))))))))))))))))))))))
def rN (nb : Bool) (bs : List Int) (nz : Bool) (ss : List Int) (at_ : Nat) (n1 : Bool) (ns : List Nd) (n2 : Bool) (op : List Int) (n3 : Bool) (ch : List Bool) : AH := some (.cells [.p (.list nb (bs.map pU8)), .p (.list nz (ss.map pU8)), .p (pI at_), .buf 6, .buf 4, .buf 5, .p (pI 0), .p (pI 0)]) :: [none, none, none, some (AO.buf 3 n2 (op.map pI)), some (AO.buf 4 n3 (ch.map pB)), some (AO.buf 64 n1 (ns.map Nd.pv))]
theorem uI (nb : Bool) (bs : List Int) (nz : Bool) (ss : List Int) (at_ : Nat) (n1 : Bool) (ns : List Nd) (n2 : Bool) (n3 : Bool) (s : ByteArray) (hs : (0 : Int) ∉ bl s) (hsz : s.size <= 100) (X : List Int) (hX : bs.drop at_ = (bl s ++ aY (4 - s.size % 4)) ++ X) (hl : bs.length <= 100000) (h4 : 4 <= at_) (hat : at_ <= 100000) (hns : ns.length < 100) : ao Tryz.prog 83 [.ptr 0 0] (rB nb bs nz ss at_ n1 ns n2 [] n3 []) fun r H => r = .p (pB true) /\ H = rN nb bs nz ss (at_ + (s.size + (4 - s.size % 4))) false (ns ++ [⟨-1, s, true, []⟩]) false [(ns.length : Int)] false [false] := by
 refine aa Tryz.func83 rfl rfl au rfl ?_
 refine' ye42c
 refine ab.all ((pY nb bs nz ss at_ n1 ns n2 [] n3 [] s hs hsz X hX hl).mono ?_)
 rintro _ _ ⟨rfl, rfl⟩
 refine' ye42c
 apply ax.lin Du (by kernel_rfl) (by decide +kernel)
 (conv => whnf); repeat' ((first | (apply PdC.same; · with_reducible rfl) | apply PdC.chk | apply PdA.mk | (apply EqA.mk; rfl) | (apply LzA.mk; · ((conv => whnf); repeat' ((first | (apply EqA.mk; rfl) | (refine IsL.lit (f := Nd.pv) [⟨-1, s, true, []⟩] rfl ?_) | refine' zedca | fail) <;> (conv => whnf)))) | (refine IsL.lit (f := Nd.pv) [⟨-1, s, true, []⟩] rfl ?_) | refine' ze42c | (fail "DrawA.lin")) <;> (conv => whnf))
 (refine' ay.mk _ _ _ [4, 5, 7] (.p (pB true)) (rN nb bs nz ss (at_ + (s.size + (4 - s.size % 4))) false (ns ++ [⟨-1, s, true, []⟩]) false [(ns.length : Int)] false [false]) rfl rfl _ rfl rfl _ <;> refine' aj)
theorem uH (nb : Bool) (bs : List Int) (nz : Bool) (ss : List Int) (at_ : Nat) (n1 : Bool) (ns : List Nd) (n2 : Bool) (n3 : Bool) (o : List Int) (p : Int) (c : List Bool) (x : Bool) (s : ByteArray) (hs : (0 : Int) ∉ bl s) (hsz : s.size <= 100) (X : List Int) (hX : bs.drop at_ = (bl s ++ aY (4 - s.size % 4)) ++ X) (hl : bs.length <= 100000) (h4 : 4 <= at_) (hat : at_ <= 100000) (hns : ns.length < 100) (ho : o.length < 7) (hc : c.length = o.length) : ao Tryz.prog 83 [.ptr 0 0] (rB nb bs nz ss at_ n1 ns n2 (o ++ [p]) n3 (c ++ [x])) fun r H => r = .p (pB true) /\ H = rN nb bs nz ss (at_ + (s.size + (4 - s.size % 4))) false (ns ++ [⟨p, s, true, []⟩]) false (o ++ [p] ++ [(ns.length : Int)]) false (c ++ [true] ++ [false]) := by
 refine aa Tryz.func83 rfl rfl au rfl ?_
 have hlo : ((o ++ [p]).map pI).length = o.length + 1 := by simp
 have hlc : ((c ++ [x]).map pB).length = o.length + 1 := by simp [hc]
 have hlast : ((o ++ [p]).map pI)[(((o.length + 1 : Nat) : Int) - 1).toNat]? = some (pI p) := by
  rw [show ((o.length + 1 : Nat) : Int) - 1 = (o.length : Int) by omega, Int.toNat_natCast, List.map_append, List.getElem?_append_right (by simp)]
  simp
 (conv => whnf); repeat' ((first | ((refine cq.mk (o.length + 1) hlo ?_; intro _)) | refine' ze42c | fail) <;> (conv => whnf))
 refine ab.all ((pY nb bs nz ss at_ n1 ns n2 (o ++ [p]) n3 (c ++ [x]) s hs hsz X hX hl).mono ?_)
 rintro _ _ ⟨rfl, rfl⟩
 (conv => whnf); repeat' ((first | ((refine cq.mk (o.length + 1) hlo ?_; intro _)) | refine' ze42c | fail) <;> (conv => whnf))
 apply ax.lin nd9 (by kernel_rfl) (by decide +kernel)
 (conv => whnf); repeat' ((first | (apply PdC.same; · with_reducible rfl) | apply PdC.chk | apply PdA.mk | (apply EqA.mk; rfl) | (apply LzA.mk; · ((conv => whnf); repeat' ((first | (apply EqA.mk; rfl) | ((refine cq.mk (o.length + 1) hlo ?_; intro _)) | (refine bO.mk (pI p) (by omega) hlast ?_) | refine' zedca | fail) <;> (conv => whnf)))) | ((refine cq.mk (o.length + 1) hlo ?_; intro _)) | (refine bO.mk (pI p) (by omega) hlast ?_) | refine' ze42c | (fail "DrawA.lin")) <;> (conv => whnf))
 apply ax.lin Eu (by kernel_rfl) (by decide +kernel)
 (conv => whnf); repeat' ((first | (apply PdC.same; · with_reducible rfl) | apply PdC.chk | apply PdA.mk | (apply EqA.mk; rfl) | (apply LzA.mk; · ((conv => whnf); repeat' ((first | (apply EqA.mk; rfl) | ((refine cq.mk (o.length + 1) hlc ?_; intro _)) | refine' zedca | fail) <;> (conv => whnf)))) | ((refine cq.mk (o.length + 1) hlc ?_; intro _)) | refine' ze42c | (fail "DrawA.lin")) <;> (conv => whnf))
 have hset : (c ++ [x]).set ((((o.length + 1 : Nat) : Int) - 1).toNat) true = c ++ [true] := by
  rw [show ((o.length + 1 : Nat) : Int) - 1 = (o.length : Int) by omega, Int.toNat_natCast, <- hc, List.set_append_right _ _ (by simp)]
  simp
 rw [hset]
 apply ax.lin Du (by kernel_rfl) (by decide +kernel)
 (conv => whnf); repeat' ((first | (apply PdC.same; · with_reducible rfl) | apply PdC.chk | apply PdA.mk | (apply EqA.mk; rfl) | (apply LzA.mk; · ((conv => whnf); repeat' ((first | (apply EqA.mk; rfl) | (refine IsL.lit (f := Nd.pv) [⟨p, s, true, []⟩] rfl ?_) | refine' zedca | fail) <;> (conv => whnf)))) | (refine IsL.lit (f := Nd.pv) [⟨p, s, true, []⟩] rfl ?_) | refine' ze42c | (fail "DrawA.lin")) <;> (conv => whnf))
 (refine' ay.mk _ _ _ [4, 5, 7] (.p (pB true)) (rN nb bs nz ss (at_ + (s.size + (4 - s.size % 4))) false (ns ++ [⟨p, s, true, []⟩]) false (o ++ [p] ++ [(ns.length : Int)]) false (c ++ [true] ++ [false])) rfl rfl _ rfl rfl _ <;> refine' aj)
def rLv (nb : Bool) (bs : List Int) (nz : Bool) (ss : List Int) (at_ : Nat) (n1 : Bool) (ns : List Nd) (n2 : Bool) (op : List Int) (n3 : Bool) (ch : List Bool) : AH := some (.cells [.p (.list nb (bs.map pU8)), .p (.list nz (ss.map pU8)), .p (pI at_), .buf 1, .buf 4, .buf 5, .p (pI 0), .p (pI 0)]) :: [some (AO.buf 64 n1 (ns.map Nd.pv)), none, none, some (AO.buf 3 n2 (op.map pI)), some (AO.buf 4 n3 (ch.map pB))]
def st8 : Ln := (.lazy 0 (.lazy 1 (.lazy 2 (.lazy 3 (.lazy 4 (.lazy 5 (.lazy 6 (.lazy 7 (.lazy 8 (.lazy 9 (.lazy 10 (.lazy 11 (.lazy 12 (.lazy 13 (.lazy 14 (.lazy 15 (.lazy 16 (.lazy 17 (.lazy 18 (.lazy 19 (.lazy 20 .done)))))))))))))))))))))
def Ej : Ln := (.lazy 0 (.lazy 1 (.lazy 2 (.lazy 3 (.lazy 4 (.lazy 5 (.lazy 6 (.lazy 7 (.lazy 8 (.lazy 9 (.lazy 13 (.lazy 14 (.lazy 15 (.lazy 16 (.lazy 17 (.lazy 18 (.lazy 19 (.lazy 20 (.two 10 21 (.lazy 11 (.two 12 21 (.lazy 24 (.lazy 25 (.two 21 26 (.lazy 22 (.two 23 26 (.one 26 (.lazy 27 (.lazy 28 (.one 29 .done)))) (.one 23 (.lazy 27 (.lazy 28 (.one 29 .done)))))) (.one 21 (.lazy 22 (.one 23 (.lazy 27 (.lazy 28 (.one 29 .done))))))))) (.lazy 22 (.two 12 23 (.lazy 24 (.lazy 25 (.two 23 26 (.one 26 (.lazy 27 (.lazy 28 (.one 29 .done)))) (.one 23 (.lazy 27 (.lazy 28 (.one 29 .done))))))) (.one 12 (.lazy 24 (.lazy 25 (.one 26 (.lazy 27 (.lazy 28 (.one 29 .done))))))))))) (.lazy 22 (.two 10 23 (.lazy 11 (.two 12 23 (.lazy 24 (.lazy 25 (.two 23 26 (.one 26 (.lazy 27 (.lazy 28 (.one 29 .done)))) (.one 23 (.lazy 27 (.lazy 28 (.one 29 .done))))))) (.one 12 (.lazy 24 (.lazy 25 (.one 26 (.lazy 27 (.lazy 28 (.one 29 .done))))))))) (.one 10 (.lazy 11 (.one 12 (.lazy 24 (.lazy 25 (.one 26 (.lazy 27 (.lazy 28 (.one 29 .done))))))))))))))))))))))))))))))
theorem wV (nb : Bool) (bs : List Int) (nz : Bool) (ss : List Int) (at_ : Nat) (n1 : Bool) (n2 : Bool) (n3 : Bool) (s : ByteArray) (hs : (0 : Int) ∉ bl s) (hsz : s.size <= 100) (X : List Int) (hX : bs.drop at_ = aU 1 ++ ((bl s ++ aY (4 - s.size % 4)) ++ X)) (hb : ∀ b ∈ bs, 0 <= b /\ b < 256) (hl : bs.length <= 100000) : ao Tryz.prog 31 [.ptr 0 0] (rB nb bs nz ss at_ n1 [] n2 [] n3 []) fun r H => r = .tup [.p (pB false), .p (pB true)] /\ H = rN nb bs nz ss (at_ + 4 + (s.size + (4 - s.size % 4))) false ([] ++ [⟨-1, s, true, []⟩]) false [((List.length ([] : List Nd) : Nat) : Int)] false [false] := by
 refine aa Tryz.func31 rfl rfl au rfl ?_
 have hX1 := dm hX
 rw [az] at hX1
 have h4 := lh hX (by rw [az]; omega)
 rw [az] at h4
 refine' ye42c
 refine ab.all ((d_ nb bs nz ss at_ n1 [] n2 [] n3 [] 1 (by omega) _ hX hb hl).mono ?_)
 rintro _ _ ⟨rfl, rfl⟩
 refine' ye42c
 refine ab.all ((uI nb bs nz ss (at_ + 4) n1 [] n2 n3 s hs hsz X hX1 hl (by omega) (by omega) (by simp)).mono ?_)
 rintro _ _ ⟨rfl, rfl⟩
 refine' ye42c
 (refine' ay.mk _ _ _ [4, 5, 6] (.tup [.p (pB false), .p (pB true)]) (rN nb bs nz ss (at_ + 4 + (s.size + (4 - s.size % 4))) false ([] ++ [⟨-1, s, true, []⟩]) false [((List.length ([] : List Nd) : Nat) : Int)] false [false]) rfl rfl _ rfl rfl _ <;> refine' aj)
theorem wU (nb : Bool) (bs : List Int) (nz : Bool) (ss : List Int) (at_ : Nat) (n1 : Bool) (ns : List Nd) (n2 : Bool) (n3 : Bool) (o : List Int) (p : Int) (c : List Bool) (x : Bool) (s : ByteArray) (hs : (0 : Int) ∉ bl s) (hsz : s.size <= 100) (X : List Int) (hX : bs.drop at_ = aU 1 ++ ((bl s ++ aY (4 - s.size % 4)) ++ X)) (hb : ∀ b ∈ bs, 0 <= b /\ b < 256) (hl : bs.length <= 100000) (hns : ns.length < 100) (ho : o.length < 7) (hc : c.length = o.length) : ao Tryz.prog 31 [.ptr 0 0] (rB nb bs nz ss at_ n1 ns n2 (o ++ [p]) n3 (c ++ [x])) fun r H => r = .tup [.p (pB false), .p (pB true)] /\ H = rN nb bs nz ss (at_ + 4 + (s.size + (4 - s.size % 4))) false (ns ++ [⟨p, s, true, []⟩]) false (o ++ [p] ++ [(ns.length : Int)]) false (c ++ [true] ++ [false]) := by
 refine aa Tryz.func31 rfl rfl au rfl ?_
 have hX1 := dm hX
 rw [az] at hX1
 have h4 := lh hX (by rw [az]; omega)
 rw [az] at h4
 have hlo : ((o ++ [p]).map pI).length = o.length + 1 := by simp
 refine' ye42c
 refine ab.all ((d_ nb bs nz ss at_ n1 ns n2 (o ++ [p]) n3 (c ++ [x]) 1 (by omega) _ hX hb hl).mono ?_)
 rintro _ _ ⟨rfl, rfl⟩
 (conv => whnf); repeat' ((first | ((refine cq.mk (o.length + 1) hlo ?_; intro _)) | refine' ze42c | fail) <;> (conv => whnf))
 refine ab.all ((uH nb bs nz ss (at_ + 4) n1 ns n2 n3 o p c x s hs hsz X hX1 hl (by omega) (by omega) hns ho hc).mono ?_)
 rintro _ _ ⟨rfl, rfl⟩
 refine' ye42c
 (refine' ay.mk _ _ _ [4, 5, 6] (.tup [.p (pB false), .p (pB true)]) (rN nb bs nz ss (at_ + 4 + (s.size + (4 - s.size % 4))) false (ns ++ [⟨p, s, true, []⟩]) false (o ++ [p] ++ [(ns.length : Int)]) false (c ++ [true] ++ [false])) rfl rfl _ rfl rfl _ <;> refine' aj)
theorem wT (nb : Bool) (bs : List Int) (nz : Bool) (ss : List Int) (at_ : Nat) (ns : List Nd) (par : Int) (nm : ByteArray) (n2 : Bool) (n3 : Bool) (n4 : Bool) (ps : List bf) (o : List Int) (c : List Bool) (n v : ByteArray) (A B X : List Int) (hss : ss = A ++ (bl n ++ 0 :: B)) (hA : A = [] \/ ∃ A0, A = A0 ++ [0]) (hn : (0 : Int) ∉ bl n) (hsz : n.size <= 1000) (hv : v.size <= 256) (hr : ∀ x ∈ ss, 0 <= x /\ x < 256) (hsl : ss.length <= 100000) (hb : ∀ b ∈ bs, 0 <= b /\ b < 256) (hl : bs.length <= 100000)
  (hX : bs.drop at_ = aU 3 ++ (aU v.size ++ (aU A.length ++ ((bl v ++ aY ((4 - v.size % 4) % 4)) ++ X)))) (hps : ps.length <= 1000) (hns : ns.length <= 100000) (ho : o.length < 8) (hc : c.length = o.length) :
  ao Tryz.prog 31 [.ptr 0 0] (rL nb bs nz ss at_ ns par nm n2 (o ++ [(ns.length : Int)]) n3 (c ++ [false]) n4 ps) fun r H => r = .tup [.p (pB false), .p (pB true)] /\ H = rP nb bs nz ss (at_ + 4 + 4 + 4 + (v.size + (4 - v.size % 4) % 4)) ns par nm n2 (o ++ [(ns.length : Int)]) n3 (c ++ [false]) false (ps ++ [(n, v)]) := by
 refine aa Tryz.func31 rfl rfl au rfl ?_
 have hX1 := dm hX
 rw [az] at hX1
 have h4 := lh hX (by rw [az]; omega)
 rw [az] at h4
 have hlo : ((o ++ [(ns.length : Int)]).map pI).length = o.length + 1 := by simp
 have hlc : ((c ++ [false]).map pB).length = o.length + 1 := by simp [hc]
 have hlast : ((c ++ [false]).map pB)[(((o.length + 1 : Nat) : Int) - 1).toNat]? = some (pB false) := by
  rw [show ((o.length + 1 : Nat) : Int) - 1 = (o.length : Int) by omega, Int.toNat_natCast, <- hc, List.map_append, List.getElem?_append_right (by simp)]
  simp
 refine' ye42c
 refine ab.all ((fY nb bs nz ss at_ ns par nm n2 (o ++ [(ns.length : Int)]) n3 (c ++ [false]) n4 ps 3 (by omega) _ hX hb hl).mono ?_)
 rintro _ _ ⟨rfl, rfl⟩
 (conv => whnf); repeat' ((first | ((refine cq.mk (o.length + 1) hlo ?_; intro _)) | refine' ze42c | fail) <;> (conv => whnf))
 apply ax.lin st8 (by kernel_rfl) (by decide +kernel)
 (conv => whnf); repeat' ((first | (apply PdC.same; · with_reducible rfl) | apply PdC.chk | apply PdA.mk | (apply EqA.mk; rfl) | (apply LzA.mk; · ((conv => whnf); repeat' ((first | (apply EqA.mk; rfl) | ((refine cq.mk (o.length + 1) hlc ?_; intro _)) | (refine bO.mk (pB false) (by omega) hlast ?_) | refine' zedca | fail) <;> (conv => whnf)))) | ((refine cq.mk (o.length + 1) hlc ?_; intro _)) | (refine bO.mk (pB false) (by omega) hlast ?_) | refine' ze42c | (fail "DrawA.lin")) <;> (conv => whnf))
 refine ab.all ((pt nb bs nz ss (at_ + 4) ns par nm n2 (o ++ [(ns.length : Int)]) n3 (c ++ [false]) n4 ps n v A B X hss hA hn hsz hv hr hsl hb hl hX1 o rfl hps hns (by omega)).mono ?_)
 rintro _ _ ⟨rfl, rfl⟩
 refine' ye42c
 (refine' ay.mk _ _ _ [5] (.tup [.p (pB false), .p (pB true)]) (rP nb bs nz ss (at_ + 4 + 4 + 4 + (v.size + (4 - v.size % 4) % 4)) ns par nm n2 (o ++ [(ns.length : Int)]) n3 (c ++ [false]) false (ps ++ [(n, v)])) rfl rfl _ rfl rfl _ <;> refine' aj)
theorem ur (nb : Bool) (bs : List Int) (nz : Bool) (ss : List Int) (at_ : Nat) (n1 : Bool) (ns : List Nd) (n2 : Bool) (n3 : Bool) (o : List Int) (p : Int) (c : List Bool) (x : Bool) (X : List Int) (hX : bs.drop at_ = aU 2 ++ X) (hb : ∀ b ∈ bs, 0 <= b /\ b < 256) (hl : bs.length <= 100000) (ho : o.length < 8) (hc : c.length = o.length) : ao Tryz.prog 31 [.ptr 0 0] (rB nb bs nz ss at_ n1 ns n2 (o ++ [p]) n3 (c ++ [x])) fun r H => r = .tup [.p (pB false), .p (pB true)] /\ H = rLv nb bs nz ss (at_ + 4) n1 ns n2 o n3 c := by
 refine aa Tryz.func31 rfl rfl au rfl ?_
 have h4 := lh hX (by rw [az]; omega)
 rw [az] at h4
 have hlo : ((o ++ [p]).map pI).length = o.length + 1 := by simp
 have hlc : ((c ++ [x]).map pB).length = o.length + 1 := by simp [hc]
 have hk : ((((o.length + 1 : Nat) : Int) - 1).toNat) = o.length := by omega
 have hco : (((o ++ [p]).map pI).take ((((o.length + 1 : Nat) : Int) - 1).toNat)) = o.map pI := by
  rw [hk, <- List.map_take]
  simp
 have hcc : (((c ++ [x]).map pB).take ((((o.length + 1 : Nat) : Int) - 1).toNat)) = c.map pB := by
  rw [hk, <- hc, <- List.map_take]
  simp
 refine' ye42c
 refine ab.all ((d_ nb bs nz ss at_ n1 ns n2 (o ++ [p]) n3 (c ++ [x]) 2 (by omega) _ hX hb hl).mono ?_)
 rintro _ _ ⟨rfl, rfl⟩
 (conv => whnf); repeat' ((first | ((refine cq.mk (o.length + 1) hlo ?_; intro _)) | refine' ze42c | fail) <;> (conv => whnf))
 apply ax.lin st8 (by kernel_rfl) (by decide +kernel)
 (conv => whnf); repeat' ((first | (apply PdC.same; · with_reducible rfl) | apply PdC.chk | apply PdA.mk | (apply EqA.mk; rfl) | (apply LzA.mk; · ((conv => whnf); repeat' ((first | (apply EqA.mk; rfl) | refine' zedca | fail) <;> (conv => whnf)))) | refine' ze42c | (fail "DrawA.lin")) <;> (conv => whnf))
 apply ax.lin Ej (by kernel_rfl) (by decide +kernel)
 (conv => whnf); repeat' ((first | (apply PdC.same; · with_reducible rfl) | apply PdC.chk | apply PdA.mk | (apply EqA.mk; rfl) | (apply LzA.mk; · ((conv => whnf); repeat' ((first | (apply EqA.mk; rfl) | ((refine cq.mk (o.length + 1) hlo ?_; intro _)) | ((refine cq.mk (o.length + 1) hlc ?_; intro _)) | (refine sj.own ?_) | (refine IsL.mk (o.map pI) hco ?_) | (refine IsL.mk (c.map pB) hcc ?_) | refine' zedca | fail) <;> (conv => whnf)))) | ((refine cq.mk (o.length + 1) hlo ?_; intro _)) | ((refine cq.mk (o.length + 1) hlc ?_; intro _)) | (refine sj.own ?_) | (refine IsL.mk (o.map pI) hco ?_) | (refine IsL.mk (c.map pB) hcc ?_) | refine' ze42c | (fail "DrawA.lin")) <;> (conv => whnf))
 all_goals first | ((refine' ay.mk _ _ _ [4, 5] (.tup [.p (pB false), .p (pB true)]) (rLv nb bs nz ss (at_ + 4) n1 ns n2 o n3 c) rfl rfl _ rfl rfl _ <;> refine' aj); done) | ((refine' ay.mk _ _ _ [5, 4] (.tup [.p (pB false), .p (pB true)]) (rLv nb bs nz ss (at_ + 4) n1 ns n2 o n3 c) rfl rfl _ rfl rfl _ <;> refine' aj); done)
def Ei : Ln := (.lazy 0 (.lazy 1 (.lazy 2 (.lazy 3 (.lazy 4 (.lazy 5 (.lazy 6 (.lazy 7 (.lazy 8 (.lazy 9 (.lazy 10 (.lazy 11 (.lazy 12 (.lazy 13 (.lazy 14 (.lazy 15 (.one 16 (.lazy 17 (.lazy 18 (.lazy 19 .done))))))))))))))))))))
theorem zi (nb : Bool) (bs : List Int) (nz : Bool) (ss : List Int) (at_ : Nat) (n1 : Bool) (ns : List Nd) (n2 : Bool) (n3 : Bool) (hX : bs.drop at_ = aU 9 ++ []) (hb : ∀ b ∈ bs, 0 <= b /\ b < 256) (hl : bs.length <= 100000) (hns : 1 <= ns.length) (hns2 : ns.length <= 100) : ao Tryz.prog 31 [.ptr 0 0] (rB nb bs nz ss at_ n1 ns n2 [] n3 []) fun r H => r = .tup [.p (pB true), .p (pB true)] /\ H = rB nb bs nz ss (at_ + 4) n1 ns n2 [] n3 [] := by
 refine aa Tryz.func31 rfl rfl au rfl ?_
 have h4 := lh hX (by rw [az]; omega)
 rw [az] at h4
 have h5 : at_ + 4 = bs.length := by
  have := congrArg List.length hX
  rw [List.length_drop, List.append_nil, az] at this
  omega
 refine' ye42c
 refine ab.all ((d_ nb bs nz ss at_ n1 ns n2 [] n3 [] 9 (by omega) _ hX hb hl).mono ?_)
 rintro _ _ ⟨rfl, rfl⟩
 refine' ye42c
 apply ax.lin st8 (by kernel_rfl) (by decide +kernel)
 (conv => whnf); repeat' ((first | (apply PdC.same; · with_reducible rfl) | apply PdC.chk | apply PdA.mk | (apply EqA.mk; rfl) | (apply LzA.mk; · ((conv => whnf); repeat' ((first | (apply EqA.mk; rfl) | refine' zedca | fail) <;> (conv => whnf)))) | refine' ze42c | (fail "DrawA.lin")) <;> (conv => whnf))
 apply ax.lin Ei (by kernel_rfl) (by decide +kernel)
 (conv => whnf); repeat' ((first | (apply PdC.same; · with_reducible rfl) | apply PdC.chk | apply PdA.mk | (apply EqA.mk; rfl) | (apply LzA.mk; · ((conv => whnf); repeat' ((first | (apply EqA.mk; rfl) | refine' zedca | fail) <;> (conv => whnf)))) | refine' ze42c | (fail "DrawA.lin")) <;> (conv => whnf))
 (refine' ay.auto (.tup [.p (pB true), .p (pB true)]) (rB nb bs nz ss (at_ + 4) n1 ns n2 [] n3 []) rfl rfl rfl rfl _ _ _ <;> refine' aj)
def hd6 : Ln := (.lazy 0 (.lazy 2 (.lazy 3 (.one 1 (.one 4 (.lazy 5 (.lazy 6 .done)))))))
def Ex : Ln := (.lazy 0 (.lazy 2 (.lazy 3 (.lazy 4 (.lazy 5 (.one 1 (.one 6 (.lazy 7 (.lazy 8 .done)))))))))
def Ew : Ln := (.lazy 0 (.lazy 2 (.lazy 3 (.lazy 4 (.lazy 5 (.one 1 (.one 6 (.lazy 7 (.lazy 8 .done)))))))))
theorem wx (st ss : List Int) : (dk st ss).drop 0 = aU 3490578157 ++ (aU (28 + (st.length : Int) + ss.length) ++ (aU st.length ++ (aU ss.length ++ (aU (iN st) ++ (aU (iN ss) ++ (aU (iN (iO st ss)) ++ (st ++ ss))))))) := by
 simp [dk, iO]
theorem ir (st ss : List Int) : (dk st ss).length = 28 + st.length + ss.length := by
 simp [dk, iO, az]
 omega
theorem yp (nl : Bool) (st ss : List Int) (hst : ∀ b ∈ st, 0 <= b /\ b < 256) (hss : ∀ b ∈ ss, 0 <= b /\ b < 256) (h1 : st.length <= 3000) (h2 : ss.length <= 1000) (h4 : st.length % 4 = 0) : ao Tryz.prog 30 [.p (.list nl ((dk st ss).map pU8))] [] fun r H => r = .tup [.p (pI st.length), .p (pI 0), .p (pI 0)] /\ H = [] := by
 refine aa Tryz.func30 rfl rfl au rfl ?_
 have hlen := ir st ss
 have hm4 : (st.length : Int).tmod 4 = 0 := by
  rw [Int.tmod_eq_emod_of_nonneg (by omega)]
  omega
 have g0 := wx st ss
 have g4 : (dk st ss).drop 4 = _ := aV g0
 have g8 : (dk st ss).drop 8 = _ := aV g4
 have g12 : (dk st ss).drop 12 = _ := aV g8
 have g16 : (dk st ss).drop 16 = _ := aV g12
 have g20 : (dk st ss).drop 20 = _ := aV g16
 have g24 : (dk st ss).drop 24 = _ := aV g20
 have g28 : (dk st ss).drop 28 = _ := aV g24
 have gss : (dk st ss).drop (28 + st.length) = _ := aV g28
 have t24 : (dk st ss).take 24 = iO st ss := by
  unfold dk
  rw [List.append_assoc, List.append_assoc]
  exact List.take_left' rfl
 have hhd : ∀ b ∈ iO st ss, 0 <= b /\ b < 256 := dI _
 have hbs : ∀ b ∈ dk st ss, 0 <= b /\ b < 256 := fun b hb => by
  unfold dk at hb
  rcases List.mem_append.1 hb with hb | hb
  ·rcases List.mem_append.1 hb with hb | hb
   ·rcases List.mem_append.1 hb with hb | hb
    ·exact hhd b hb
    ·exact dI _ b hb
   ·exact hst b hb
  ·exact hss b hb
 have hs0 := cB st
 have hs1 := cB ss
 have hs2 := cB (iO st ss)
 have c24 := fO nl (iO st ss) hhd (Nat.le_trans (Nat.le_of_eq (rfl : _ = 24)) (by omega))
 have c28 := fO nl st hst (by omega)
 have css := fO nl ss hss (by omega)
 clear hhd
 generalize hE : dk st ss = E at *
 clear hE
 generalize iO st ss = Hd at *
 generalize iN Hd = q2 at *
 generalize iN st = q0 at *
 generalize iN ss = q1 at *
 have hl : E.length <= 100000 := by omega
 (conv => whnf); repeat' ((first | refine' z6c3f | (refine ab.scalar (cY nl E hbs 4 _ (by omega) hl _ g4) ?_) | (refine ab.scalar (cY nl E hbs 8 _ (by omega) hl _ g8) ?_) | (refine ab.scalar (cY nl E hbs 12 _ (by omega) hl _ g12) ?_) | (refine ab.scalar (cY nl E hbs 0 _ (by omega) hl _ g0) ?_)) <;> (conv => whnf))
 apply ax.lin hd6 (by kernel_rfl) (by decide +kernel)
 (conv => whnf); repeat' ((first | (apply PdC.same; · with_reducible rfl) | apply PdC.chk | apply PdA.mk | (apply EqA.mk; rfl) | (apply LzA.mk; · ((conv => whnf); repeat' ((first | (apply EqA.mk; rfl) | ((apply SzA.map; (intro _; rfl))) | ((apply aX.hi; omega)) | ((apply aX.lo; omega)) | refine' z2386 | fail) <;> (conv => whnf)))) | ((apply SzA.map; (intro _; rfl))) | ((apply aX.hi; omega)) | ((apply aX.lo; omega)) | refine' z6c3f | (fail "DrawA.lin") | (refine ab.scalar (cY nl E hbs 24 _ (by omega) hl _ g24) ?_)) <;> (conv => whnf))
 have e24 : List.drop (Int.toNat 0) (List.take (Int.toNat 24) E) = Hd := t24
 rw [e24]
 refine ab.scalar c24 ?_
 (conv => whnf); repeat' ((first | (apply PdC.same; · with_reducible rfl) | apply PdC.chk | apply PdA.mk | (apply EqA.mk; rfl) | (apply LzA.mk; · ((conv => whnf); repeat' ((first | (apply EqA.mk; rfl) | ((apply SzA.map; (intro _; rfl))) | ((apply aX.hi; omega)) | ((apply aX.lo; omega)) | with_reducible apply BN | with_reducible apply BO | with_reducible apply Ao | with_reducible apply Ap | apply vE.mk | ((first | apply CN | apply Ea | apply BP | apply BQ); assumption) | ((first | apply vj | apply vk | apply Aq | apply Ar | apply oQ | apply As | apply vm | apply wE | apply wD | apply vi | apply D_ | apply fK) <;> intro h0 <;> first | (exfalso; first | omega | exact tf h0 (by assumption) | exact tf (by assumption) h0 | exact h0 (by assumption) | exact h0 rfl | exact of_decide_eq_false h0 rfl | (exact absurd hm4 h0)) | skip) | refine' z2386 | fail) <;> (conv => whnf)))) | ((apply SzA.map; (intro _; rfl))) | ((apply aX.hi; omega)) | ((apply aX.lo; omega)) | with_reducible apply BN | with_reducible apply BO | with_reducible apply Ao | with_reducible apply Ap | apply vE.mk | ((first | apply CN | apply Ea | apply BP | apply BQ); assumption) | ((first | apply vj | apply vk | apply Aq | apply Ar | apply oQ | apply As | apply vm | apply wE | apply wD | apply vi | apply D_ | apply fK) <;> intro h0 <;> first | (exfalso; first | omega | exact tf h0 (by assumption) | exact tf (by assumption) h0 | exact h0 (by assumption) | exact h0 rfl | exact of_decide_eq_false h0 rfl | (exact absurd hm4 h0)) | skip) | refine' z6c3f | (fail "DrawA.lin")) <;> (conv => whnf))
 apply ax.lin Ex (by kernel_rfl) (by decide +kernel)
 (conv => whnf); repeat' ((first | (apply PdC.same; · with_reducible rfl) | apply PdC.chk | apply PdA.mk | (apply EqA.mk; rfl) | (apply LzA.mk; · ((conv => whnf); repeat' ((first | (apply EqA.mk; rfl) | ((apply SzA.map; (intro _; rfl))) | ((apply aX.hi; omega)) | ((apply aX.lo; omega)) | refine' z2386 | fail) <;> (conv => whnf)))) | ((apply SzA.map; (intro _; rfl))) | ((apply aX.hi; omega)) | ((apply aX.lo; omega)) | refine' z6c3f | (fail "DrawA.lin") | (refine ab.scalar (cY nl E hbs 16 _ (by omega) hl _ g16) ?_)) <;> (conv => whnf))
 have e28 : List.drop (Int.toNat 28) (List.take (28 + (st.length : Int)).toNat E) = st := by
  rw [List.drop_take, show (28 + (st.length : Int)).toNat - Int.toNat 28 = st.length by omega]
  show List.take _ (List.drop 28 E) = _
  rw [g28]
  exact List.take_left' rfl
 rw [e28]
 refine ab.scalar c28 ?_
 (conv => whnf); repeat' ((first | (apply PdC.same; · with_reducible rfl) | apply PdC.chk | apply PdA.mk | (apply EqA.mk; rfl) | (apply LzA.mk; · ((conv => whnf); repeat' ((first | (apply EqA.mk; rfl) | ((apply SzA.map; (intro _; rfl))) | ((apply aX.hi; omega)) | ((apply aX.lo; omega)) | refine' z2386 | fail) <;> (conv => whnf)))) | ((apply SzA.map; (intro _; rfl))) | ((apply aX.hi; omega)) | ((apply aX.lo; omega)) | refine' z6c3f | (fail "DrawA.lin")) <;> (conv => whnf))
 apply ax.lin Ew (by kernel_rfl) (by decide +kernel)
 (conv => whnf); repeat' ((first | (apply PdC.same; · with_reducible rfl) | apply PdC.chk | apply PdA.mk | (apply EqA.mk; rfl) | (apply LzA.mk; · ((conv => whnf); repeat' ((first | (apply EqA.mk; rfl) | ((apply SzA.map; (intro _; rfl))) | ((apply aX.hi; omega)) | ((apply aX.lo; omega)) | refine' z2386 | fail) <;> (conv => whnf)))) | ((apply SzA.map; (intro _; rfl))) | ((apply aX.hi; omega)) | ((apply aX.lo; omega)) | refine' z6c3f | (fail "DrawA.lin") | (refine ab.scalar (cY nl E hbs 20 _ (by omega) hl _ g20) ?_)) <;> (conv => whnf))
 have ess : List.drop (28 + (st.length : Int)).toNat E = ss := by
  rw [show (28 + (st.length : Int)).toNat = 28 + st.length by omega]
  exact gss
 rw [ess]
 refine ab.scalar css ?_
 (conv => whnf); repeat' ((first | (apply PdC.same; · with_reducible rfl) | apply PdC.chk | apply PdA.mk | (apply EqA.mk; rfl) | (apply LzA.mk; · ((conv => whnf); repeat' ((first | (apply EqA.mk; rfl) | ((apply SzA.map; (intro _; rfl))) | ((apply aX.hi; omega)) | ((apply aX.lo; omega)) | refine' z2386 | fail) <;> (conv => whnf)))) | ((apply SzA.map; (intro _; rfl))) | ((apply aX.hi; omega)) | ((apply aX.lo; omega)) | refine' z6c3f | (fail "DrawA.lin")) <;> (conv => whnf))
 (refine' ay.auto (.tup [.p (pI st.length), .p (pI 0), .p (pI 0)]) ([]) rfl rfl rfl rfl _ _ _ <;> refine' aj)
end Go.Proofs.YtaocnijlcgohnaaGreatDoor
