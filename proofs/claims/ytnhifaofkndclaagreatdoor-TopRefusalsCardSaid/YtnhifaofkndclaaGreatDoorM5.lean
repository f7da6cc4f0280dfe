/- For TopRefusals: part 5 of 15. -/
import Derived.Test.YtnhifaofkndclaaGreatDoorM4
set_option linter.unusedSimpArgs false
set_option linter.unusedVariables false
set_option linter.unnecessarySimpa false
set_option maxHeartbeats 8000000
namespace Go.Proofs.YtnhifaofkndclaaGreatDoor
open Go.Abs
def pS (s : ByteArray) : PV := .v (.string s)
def bless (a b : ByteArray) : Bool := Op.bytesLess a.toList b.toList
theorem bytesLess_lt : ∀ (x y : List UInt8), Op.bytesLess x y = decide (x < y)
 | [], [] => by simp [Op.bytesLess]
 | _ :: _, [] => by simp [Op.bytesLess]
 | [], _ :: _ => by simp [Op.bytesLess]
 | a :: x, b :: y => by
  rw [Op.bytesLess, bytesLess_lt x y]
  simp only [List.cons_lt_cons_iff]
  by_cases h1 : a < b <;> by_cases h2 : a = b <;> by_cases h3 : x < y <;> simp [h1, h2, h3]
theorem bless_iff (a b : ByteArray) : bless a b = true ↔ a.toList < b.toList := by
 unfold bless; rw [bytesLess_lt]; exact decide_eq_true_iff
theorem bless_irrefl (a : ByteArray) : bless a a = false := by
 cases h : bless a a with
 | false => rfl
 | true => exact absurd ((bless_iff _ _).1 h) (List.lt_irrefl _)
theorem bless_trans {a b c : ByteArray} (h : bless a b = true) (k : bless b c = true) : bless a c = true :=
 (bless_iff _ _).2 (List.lt_trans ((bless_iff _ _).1 h) ((bless_iff _ _).1 k))
theorem tl_inj {a b : ByteArray} (h : a.toList = b.toList) : a = b := by
 rw [ByteArray.toList_eq, ByteArray.toList_eq] at h
 exact ByteArray.ext (Array.ext' h)
theorem bless_total {a b : ByteArray} (h : bless a b = false) (k : bless b a = false) : a = b := by
 refine tl_inj ?_
 have h1 : ¬ a.toList < b.toList := fun x => by rw [(bless_iff _ _).2 x] at h; cases h
 have h2 : ¬ b.toList < a.toList := fun x => by rw [(bless_iff _ _).2 x] at k; cases k
 exact List.le_antisymm (List.not_lt.1 h2) (List.not_lt.1 h1)
theorem bless_asymm {a b : ByteArray} (h : bless a b = true) : bless b a = false := by
 cases k : bless b a with
 | false => rfl
 | true => have := bless_trans h k; rw [bless_irrefl] at this; cases this
theorem seqS (a b : ByteArray) : (a.toList == b.toList) = decide (a = b) := by
 rw [Bool.eq_iff_iff, decide_eq_true_iff, beq_iff_eq]
 exact ⟨tl_inj, fun h => by rw [h]⟩
abbrev Pr := ByteArray × ByteArray
def Pr.pv (p : Pr) : PV := .agg [pS p.1, pS p.2]
structure Nd where
 par : Int
 nm : ByteArray
 nl : Bool
 ps : List Pr
def Nd.pv (n : Nd) : PV := .agg [pI n.par, pS n.nm, .list n.nl (n.ps.map Pr.pv)]
instance : Inhabited Nd := ⟨⟨0, ByteArray.empty, true, []⟩⟩
def pf (ns : List Nd) (j : Nat) : Nat := ((ns[j]?).getD default).par.toNat
def nmf (ns : List Nd) (j : Nat) : ByteArray := ((ns[j]?).getD default).nm
def Par (ns : List Nd) : Prop := ∀ j, 0 < j -> j < ns.length -> 0 <= ((ns[j]?).getD default).par /\ pf ns j < j
inductive Anc (p : Nat -> Nat) (u : Nat) : Nat -> Prop
 | self : Anc p u u
 | up {j : Nat} (h : 0 < j) (hp : Anc p u (p j)) : Anc p u j
section
variable {p : Nat -> Nat} {n u v j : Nat}
def Dn (p : Nat -> Nat) (n : Nat) : Prop := ∀ j, 0 < j -> j < n -> p j < j
theorem Anc.le (hd : Dn p n) (h : Anc p u j) (hj : j < n) : u <= j := by
 induction h with
 | self => exact Nat.le_refl _
 | up h0 _ ih =>
  have := hd _ h0 hj
  have := ih (by omega)
  omega
theorem Anc.zero (hd : Dn p n) : ∀ (j : Nat), j < n -> Anc p 0 j := by
 intro j
 induction j using Nat.strongRecOn with
 | ind j ih =>
  intro hj
  rcases Nat.eq_zero_or_pos j with rfl | h0
  ·exact .self
  ·have := hd j h0 hj
   exact .up h0 (ih _ this (by omega))
theorem Anc.trans (h : Anc p u v) (k : Anc p v j) : Anc p u j := by
 induction k with
 | self => exact h
 | up h0 _ ih => exact .up h0 ih
theorem Anc.lin (h : Anc p u j) (k : Anc p v j) : Anc p u v \/ Anc p v u := by
 induction h with
 | self => exact .inr k
 | up h0 hp ih =>
  cases k with
  | self => exact .inl (.up h0 hp)
  | up _ hq => exact ih hq
theorem Anc.apart (hd : Dn p n) {a b : Nat} (ha0 : 0 < a) (hb0 : 0 < b) (ha : a < n) (hb : b < n) (h : p a = p b) (h1 : Anc p a j) (h2 : Anc p b j) (hj : j < n) : a = b := by
 have key : ∀ {a b : Nat}, 0 < a -> a < n -> 0 < b -> b < n -> p a = p b -> Anc p a b -> a = b := by
  intro a b ha0 ha hb0 hb h hab
  cases hab with
  | self => rfl
  | up _ hp =>
   rw [<- h] at hp
   have h3 := hd a ha0 ha
   have h4 := hp.le hd (by omega)
   omega
 rcases h1.lin h2 with h3 | h3
 ·exact key ha0 ha hb0 hb h h3
 ·exact (key hb0 hb ha0 ha h.symm h3).symm
theorem Anc.child (h : Anc p u j) (hne : u ≠ j) : ∃ c, 0 < c /\ p c = u /\ Anc p c j := by
 induction h with
 | self => exact absurd rfl hne
 | @up j h0 hp ih =>
  by_cases he : u = p j
  ·exact ⟨j, h0, he.symm, .self⟩
  ·obtain ⟨c, h1, h2, h3⟩ := ih he
   exact ⟨c, h1, h2, .up h0 h3⟩
end
def insN (ns : List Nd) (i : Nat) : List Nat -> List Nat
 | [] => [i]
 | c :: r => match bless (nmf ns i) (nmf ns c) with
  | true => i :: c :: r
  | false => c :: insN ns i r
def isKid (ns : List Nd) (u j : Nat) : Bool := decide (((ns[j]?).getD default).par = (u : Int) /\ 0 < j)
def kidsT (ns : List Nd) (u : Nat) : Nat -> List Nat
 | 0 => []
 | m + 1 => match isKid ns u m with
  | true => insN ns m (kidsT ns u m)
  | false => kidsT ns u m
def kids (ns : List Nd) (u : Nat) : List Nat := kidsT ns u ns.length
def vis (ns : List Nd) : Nat -> Nat -> List Nat
 | 0, _ => []
 | k + 1, u => u :: (kids ns u).flatMap (vis ns k)
theorem insN_perm (ns : List Nd) (i : Nat) : ∀ l : List Nat, (insN ns i l).Perm (i :: l)
 | [] => .refl _
 | c :: r => by
  unfold insN
  split
  ·exact .refl _
  ·exact ((insN_perm ns i r).cons c).trans (List.Perm.swap ..)
theorem kidsT_perm (ns : List Nd) (u : Nat) : ∀ m, (kidsT ns u m).Perm ((List.range m).filter (isKid ns u))
 | 0 => .refl _
 | m + 1 => by
  unfold kidsT
  rw [List.range_succ, List.filter_append]
  have ih := kidsT_perm ns u m
  split
  ·rename_i h
   rw [List.filter_cons_of_pos h, List.filter_nil]
   exact (insN_perm ns m _).trans ((ih.cons m).trans (List.perm_append_singleton _ _).symm)
  ·rename_i h
   rw [List.filter_cons_of_neg (by rw [h]; exact Bool.false_ne_true), List.filter_nil, List.append_nil]
   exact ih
theorem kids_mem {ns : List Nd} {u c : Nat} : c ∈ kids ns u ↔ c < ns.length /\ ((ns[c]?).getD default).par = (u : Int) /\ 0 < c := by
 unfold kids
 rw [(kidsT_perm ns u _).mem_iff, List.mem_filter, List.mem_range, isKid, decide_eq_true_iff]
theorem kids_nodup (ns : List Nd) (u : Nat) : (kids ns u).Nodup := (kidsT_perm ns u _).nodup_iff.2 (List.Pairwise.filter _ List.nodup_range)
theorem Par.dn {ns : List Nd} (h : Par ns) : Dn (pf ns) ns.length := fun j h0 hj => (h j h0 hj).2
theorem kids_par {ns : List Nd} (h : Par ns) {u c : Nat} : c ∈ kids ns u ↔ c < ns.length /\ pf ns c = u /\ 0 < c := by
 rw [kids_mem]
 constructor
 ·rintro ⟨h1, h2, h3⟩
  exact ⟨h1, by unfold pf; rw [h2]; exact Int.toNat_natCast u, h3⟩
 ·rintro ⟨h1, h2, h3⟩
  refine ⟨h1, ?_, h3⟩
  have h4 := (h c h3 h1).1
  unfold pf at h2
  omega
theorem kids_gt {ns : List Nd} (h : Par ns) {u c : Nat} (hc : c ∈ kids ns u) : u < c := by
 obtain ⟨h1, h2, h3⟩ := (kids_par h).1 hc
 have := (h c h3 h1).2
 omega
theorem vis_mem {ns : List Nd} (hp : Par ns) : ∀ (k u : Nat), u < ns.length -> ns.length <= u + k -> ∀ j, j ∈ vis ns k u ↔ j < ns.length /\ Anc (pf ns) u j
 | 0, u, hu, hk, j => by omega
 | k + 1, u, hu, hk, j => by
  unfold vis
  rw [List.mem_cons, List.mem_flatMap]
  constructor
  ·rintro (rfl | ⟨c, hc, hj⟩)
   ·exact ⟨hu, .self⟩
   ·obtain ⟨h1, h2, h3⟩ := (kids_par hp).1 hc
    have h4 := kids_gt hp hc
    obtain ⟨h5, h6⟩ := (vis_mem hp k c h1 (by omega) j).1 hj
    refine ⟨h5, Anc.trans (.up h3 ?_) h6⟩
    rw [h2]; exact .self
  ·rintro ⟨hj, ha⟩
   by_cases hne : u = j
   ·exact .inl hne.symm
   ·obtain ⟨c, h1, h2, h3⟩ := ha.child hne
    have h4 : c < ns.length := by
     have := h3.le hp.dn hj
     omega
    have hc : c ∈ kids ns u := (kids_par hp).2 ⟨h4, h2, h1⟩
    have h5 := kids_gt hp hc
    exact .inr ⟨c, hc, (vis_mem hp k c h4 (by omega) j).2 ⟨hj, h3⟩⟩
theorem vis_nodup {ns : List Nd} (hp : Par ns) : ∀ (k u : Nat), u < ns.length -> ns.length <= u + k -> (vis ns k u).Nodup
 | 0, u, hu, hk => by omega
 | k + 1, u, hu, hk => by
  unfold vis
  rw [List.nodup_cons]
  constructor
  ·intro h
   rw [List.mem_flatMap] at h
   obtain ⟨c, hc, hj⟩ := h
   have h4 := kids_gt hp hc
   obtain ⟨h1, _, _⟩ := (kids_par hp).1 hc
   have := ((vis_mem hp k c h1 (by omega) u).1 hj).2.le hp.dn hu
   omega
  ·unfold List.Nodup
   rw [List.pairwise_flatMap]
   constructor
   ·intro c hc
    have h4 := kids_gt hp hc
    obtain ⟨h1, _, _⟩ := (kids_par hp).1 hc
    exact vis_nodup hp k c h1 (by omega)
   ·refine List.Pairwise.imp_of_mem (R := fun a b => a ≠ b) ?_ (kids_nodup ns u)
    intro a b ha hb hab j h1 j2 h2 he
    subst he
    obtain ⟨ha1, ha2, ha3⟩ := (kids_par hp).1 ha
    obtain ⟨hb1, hb2, hb3⟩ := (kids_par hp).1 hb
    have ga := kids_gt hp ha
    have gb := kids_gt hp hb
    obtain ⟨hj, k1⟩ := (vis_mem hp k a ha1 (by omega) j).1 h1
    obtain ⟨_, k2⟩ := (vis_mem hp k b hb1 (by omega) j).1 h2
    exact hab (Anc.apart hp.dn ha3 hb3 ha1 hb1 (ha2.trans hb2.symm) k1 k2 hj)
def ord (ns : List Nd) : List Nat := vis ns ns.length 0
theorem ord_perm {ns : List Nd} (hp : Par ns) (h0 : 0 < ns.length) : (ord ns).Perm (List.range ns.length) := by
 refine (List.perm_ext_iff_of_nodup (vis_nodup hp _ 0 h0 (by omega)) List.nodup_range).2 fun j => ?_
 rw [vis_mem hp _ 0 h0 (by omega), List.mem_range]
 exact ⟨fun h => h.1, fun h => ⟨h, Anc.zero hp.dn j h⟩⟩
def Pre (ns : List Nd) : Prop := ∀ j, 0 < j -> j < ns.length -> Anc (pf ns) (pf ns j) (j - 1)
def Asc (ns : List Nd) : Prop := ∀ i j, 0 < i -> i < j -> j < ns.length -> pf ns i = pf ns j -> bless (nmf ns i) (nmf ns j) = true
theorem Pre.down {ns : List Nd} (hq : Pre ns) {u j : Nat} (h : Anc (pf ns) u j) (hj : j < ns.length) (hu : u < j) : Anc (pf ns) u (j - 1) := by
 cases h with
 | self => omega
 | up h0 hp => exact hp.trans (hq j h0 hj)
theorem Pre.between {ns : List Nd} (hq : Pre ns) {u i : Nat} : ∀ (d : Nat) {j : Nat}, j = i + d -> Anc (pf ns) u j -> j < ns.length -> u <= i -> Anc (pf ns) u i
 | 0, j, he, h, _, _ => by rw [show i = j by omega]; exact h
 | d + 1, j, he, h, hj, hu => Pre.between hq d (j := j - 1) (by omega) (hq.down h hj (by omega)) (by omega) hu
theorem insN_last {ns : List Nd} {i : Nat} : ∀ {l : List Nat}, (∀ c ∈ l, bless (nmf ns i) (nmf ns c) = false) -> insN ns i l = l ++ [i]
 | [], _ => rfl
 | c :: r, h => by
  unfold insN
  rw [h c (List.mem_cons_self ..), insN_last fun c hc => h c (List.mem_cons_of_mem _ hc)]
  rfl
theorem kidsT_asc {ns : List Nd} (hp : Par ns) (ha : Asc ns) (u : Nat) : ∀ m, m <= ns.length -> kidsT ns u m = (List.range m).filter (isKid ns u)
 | 0, _ => rfl
 | m + 1, hm => by
  unfold kidsT
  rw [List.range_succ, List.filter_append]
  have ih := kidsT_asc hp ha u m (by omega)
  split
  ·rename_i h
   rw [List.filter_cons_of_pos h, List.filter_nil, ih]
   refine insN_last fun c hc => ?_
   rw [List.mem_filter, List.mem_range, isKid, decide_eq_true_iff] at hc
   rw [isKid, decide_eq_true_iff] at h
   refine bless_asymm (ha c m hc.2.2 hc.1 (by omega) ?_)
   unfold pf
   rw [hc.2.1, h.1]
  ·rename_i h
   rw [List.filter_cons_of_neg (by rw [h]; exact Bool.false_ne_true), List.filter_nil, List.append_nil]
   exact ih
theorem kids_asc {ns : List Nd} (hp : Par ns) (ha : Asc ns) (u : Nat) : (kids ns u).Pairwise (· < ·) := by
 unfold kids
 rw [kidsT_asc hp ha u _ (Nat.le_refl _)]
 exact List.Pairwise.filter _ List.pairwise_lt_range
theorem vis_asc {ns : List Nd} (hp : Par ns) (hq : Pre ns) (ha : Asc ns) : ∀ (k u : Nat), u < ns.length -> ns.length <= u + k -> (vis ns k u).Pairwise (· < ·)
 | 0, u, hu, hk => by omega
 | k + 1, u, hu, hk => by
  unfold vis
  rw [List.pairwise_cons]
  constructor
  ·intro j h
   rw [List.mem_flatMap] at h
   obtain ⟨c, hc, hj⟩ := h
   have h4 := kids_gt hp hc
   obtain ⟨h1, _, _⟩ := (kids_par hp).1 hc
   obtain ⟨h5, h6⟩ := (vis_mem hp k c h1 (by omega) j).1 hj
   have := h6.le hp.dn h5
   omega
  ·rw [List.pairwise_flatMap]
   constructor
   ·intro c hc
    have h4 := kids_gt hp hc
    obtain ⟨h1, _, _⟩ := (kids_par hp).1 hc
    exact vis_asc hp hq ha k c h1 (by omega)
   ·refine List.Pairwise.imp_of_mem ?_ (kids_asc hp ha u)
    intro a b hma hmb hab x hx y hy
    obtain ⟨ha1, ha2, ha3⟩ := (kids_par hp).1 hma
    obtain ⟨hb1, hb2, hb3⟩ := (kids_par hp).1 hmb
    have ga := kids_gt hp hma
    have gb := kids_gt hp hmb
    obtain ⟨hx1, hx2⟩ := (vis_mem hp k a ha1 (by omega) x).1 hx
    obtain ⟨hy1, hy2⟩ := (vis_mem hp k b hb1 (by omega) y).1 hy
    rcases Nat.lt_or_ge x y with h | h
    ·exact h
    ·have h7 := hy2.le hp.dn hy1
     have h8 := hq.between (x - y) (by omega) hx2 hx1 (by omega : a <= y)
     have := Anc.apart hp.dn ha3 hb3 ha1 hb1 (ha2.trans hb2.symm) h8 hy2 hy1
     omega
theorem ord_self {ns : List Nd} (hp : Par ns) (hq : Pre ns) (ha : Asc ns) (h0 : 0 < ns.length) : ord ns = List.range ns.length :=
 (ord_perm hp h0).eq_of_pairwise (le := (· < ·)) (fun a b _ _ h1 h2 => by omega) (vis_asc hp hq ha _ 0 h0 (by omega)) List.pairwise_lt_range
open Go.Abs
def slS : ByteArray := ⟨#[47]⟩
theorem slS_list : slS.data.toList = [47] := rfl
theorem app_list (a b : ByteArray) : (a ++ b).data.toList = a.data.toList ++ b.data.toList := by simp
theorem ba_ext {a b : ByteArray} (h : a.data.toList = b.data.toList) : a = b := ByteArray.ext (Array.ext' h)
def pthF (ns : List Nd) : Nat -> Nat -> ByteArray
 | 0, _ => ByteArray.empty
 | k + 1, j => match j with
  | 0 => ByteArray.empty
  | i + 1 => pthF ns k (pf ns (i + 1)) ++ (slS ++ nmf ns (i + 1))
def pth (ns : List Nd) (j : Nat) : ByteArray := pthF ns (j + 1) j
def pathOf (ns : List Nd) (j : Nat) : ByteArray := match j with
 | 0 => slS
 | i + 1 => pth ns (i + 1)
theorem pthF_fuel {ns : List Nd} (hp : Par ns) : ∀ (k k' j : Nat), j < ns.length -> j < k -> j < k' -> pthF ns k j = pthF ns k' j
 | 0, _, j, _, h, _ => by omega
 | _ + 1, 0, j, _, _, h => by omega
 | k + 1, k' + 1, j, hj, h1, h2 => by
  cases j with
  | zero => rfl
  | succ i =>
   have := (hp (i + 1) (by omega) hj).2
   simp only [pthF]
   rw [pthF_fuel hp k k' _ (by omega) (by omega) (by omega)]
theorem pth_zero (ns : List Nd) : pth ns 0 = ByteArray.empty := rfl
theorem pth_succ {ns : List Nd} (hp : Par ns) {j : Nat} (h0 : 0 < j) (hj : j < ns.length) : pth ns j = pth ns (pf ns j) ++ (slS ++ nmf ns j) := by
 cases j with
 | zero => omega
 | succ i =>
  have := (hp (i + 1) (by omega) hj).2
  show pthF ns (i + 1) (pf ns (i + 1)) ++ _ = pthF ns (pf ns (i + 1) + 1) (pf ns (i + 1)) ++ _
  rw [pthF_fuel hp (i + 1) (pf ns (i + 1) + 1) _ (by omega) (by omega) (by omega)]
theorem pathOf_pos {ns : List Nd} {j : Nat} (h : 0 < j) : pathOf ns j = pth ns j := by
 cases j with
 | zero => omega
 | succ i => rfl
def NoSl (s : ByteArray) : Prop := (47 : UInt8) ∉ s.data.toList
theorem last_sl : ∀ {a b x y : List UInt8}, (47 : UInt8) ∉ x -> (47 : UInt8) ∉ y -> a ++ 47 :: x = b ++ 47 :: y -> a = b /\ x = y
 | [], [], x, y, hx, hy, h => by
  simp only [List.nil_append, List.cons.injEq, true_and] at h
  exact ⟨rfl, h⟩
 | [], c :: b, x, y, hx, hy, h => by
  simp only [List.nil_append, List.cons_append, List.cons.injEq] at h
  exact absurd (by rw [h.2]; simp) hx
 | c :: a, [], x, y, hx, hy, h => by
  simp only [List.nil_append, List.cons_append, List.cons.injEq] at h
  exact absurd (by rw [<- h.2]; simp) hy
 | c :: a, d :: b, x, y, hx, hy, h => by
  simp only [List.cons_append, List.cons.injEq] at h
  obtain ⟨h1, h2⟩ := last_sl hx hy h.2
  exact ⟨by rw [h.1, h1], h2⟩
theorem pth_join {a b x y : ByteArray} (hx : NoSl x) (hy : NoSl y) (h : a ++ (slS ++ x) = b ++ (slS ++ y)) : a = b /\ x = y := by
 have h1 := congrArg (fun s => s.data.toList) h
 simp only [app_list, slS_list, List.singleton_append] at h1
 obtain ⟨h2, h3⟩ := last_sl hx hy h1
 exact ⟨ba_ext h2, ba_ext h3⟩
theorem pth_ne {a x : ByteArray} : a ++ (slS ++ x) ≠ ByteArray.empty := fun h => by
 have h1 := congrArg (fun s => s.data.toList.length) h
 simp only [app_list, slS_list, List.length_append, List.length_cons, List.length_nil] at h1
 have h2 : ByteArray.empty.data.toList.length = 0 := rfl
 omega
def Sib (ns : List Nd) : Prop := ∀ i j, 0 < i -> 0 < j -> i < ns.length -> j < ns.length -> pf ns i = pf ns j -> nmf ns i = nmf ns j -> i = j
def NSl (ns : List Nd) : Prop := ∀ j, 0 < j -> j < ns.length -> NoSl (nmf ns j) /\ nmf ns j ≠ ByteArray.empty
theorem Asc.sib {ns : List Nd} (h : Asc ns) : Sib ns := by
 intro i j hi hj hin hjn hp hn
 rcases Nat.lt_trichotomy i j with h1 | h1 | h1
 ·have := h i j hi h1 hjn hp
  rw [hn, bless_irrefl] at this; cases this
 ·exact h1
 ·have := h j i hj h1 hin hp.symm
  rw [hn, bless_irrefl] at this; cases this
theorem pth_inj {ns : List Nd} (hp : Par ns) (hs : Sib ns) (hn : NSl ns) : ∀ (i j : Nat), i < ns.length -> j < ns.length -> pth ns i = pth ns j -> i = j := by
 intro i
 induction i using Nat.strongRecOn with
 | ind i ih =>
  intro j hi hj h
  rcases Nat.eq_zero_or_pos i with rfl | h0
  ·rcases Nat.eq_zero_or_pos j with rfl | h1
   ·rfl
   ·rw [pth_zero, pth_succ hp h1 hj] at h
    exact absurd h.symm pth_ne
  ·rcases Nat.eq_zero_or_pos j with rfl | h1
   ·rw [pth_zero, pth_succ hp h0 hi] at h
    exact absurd h pth_ne
   ·rw [pth_succ hp h0 hi, pth_succ hp h1 hj] at h
    obtain ⟨h2, h3⟩ := pth_join (hn i h0 hi).1 (hn j h1 hj).1 h
    have h4 := (hp i h0 hi).2
    have h5 := (hp j h1 hj).2
    exact hs i j h0 h1 hi hj (ih _ h4 _ (by omega) (by omega) h2) h3
theorem pathOf_inj {ns : List Nd} (hp : Par ns) (hs : Sib ns) (hn : NSl ns) {i j : Nat} (hi : i < ns.length) (hj : j < ns.length) (h : pathOf ns i = pathOf ns j) : i = j := by
 have key : ∀ {j : Nat}, 0 < j -> j < ns.length -> pth ns j ≠ slS := by
  intro j h0 hj he
  rw [pth_succ hp h0 hj] at he
  have h1 := congrArg (fun s => s.data.toList.length) he
  simp only [app_list, slS_list, List.length_append, List.length_cons, List.length_nil] at h1
  have h2 : (nmf ns j).data.toList = [] := List.eq_nil_of_length_eq_zero (by omega)
  exact (hn j h0 hj).2 (ba_ext h2)
 rcases Nat.eq_zero_or_pos i with rfl | h0 <;> rcases Nat.eq_zero_or_pos j with rfl | h1
 ·rfl
 ·rw [pathOf_pos h1] at h
  exact absurd h.symm (key h1 hj)
 ·rw [pathOf_pos h0] at h
  exact absurd h (key h0 hi)
 ·rw [pathOf_pos h0, pathOf_pos h1] at h
  exact pth_inj hp hs hn i j hi hj h
theorem getD_app {ns : List Nd} {x : Nd} {j : Nat} (h : j < ns.length) : ((ns ++ [x])[j]?).getD default = (ns[j]?).getD default := by rw [List.getElem?_append_left h]
theorem pf_app {ns : List Nd} {x : Nd} {j : Nat} (h : j < ns.length) : pf (ns ++ [x]) j = pf ns j := by unfold pf; rw [getD_app h]
theorem nmf_app {ns : List Nd} {x : Nd} {j : Nat} (h : j < ns.length) : nmf (ns ++ [x]) j = nmf ns j := by unfold nmf; rw [getD_app h]
theorem pf_new (ns : List Nd) (x : Nd) : pf (ns ++ [x]) ns.length = x.par.toNat := by unfold pf; simp
theorem nmf_new (ns : List Nd) (x : Nd) : nmf (ns ++ [x]) ns.length = x.nm := by unfold nmf; simp
theorem Par.app {ns : List Nd} (hp : Par ns) {x : Nd} (h0 : 0 <= x.par) (h1 : x.par < ns.length) : Par (ns ++ [x]) := by
 intro j hj hjl
 rw [List.length_append, List.length_singleton] at hjl
 by_cases h : j < ns.length
 ·rw [getD_app h, pf_app h]; exact hp j hj h
 ·obtain rfl : j = ns.length := by omega
  rw [pf_new]
  simp
  omega
theorem pth_app {ns : List Nd} (hp : Par ns) (x : Nd) : ∀ (j : Nat), j < ns.length -> pth (ns ++ [x]) j = pth ns j := by
 have key : ∀ (k j : Nat), j < ns.length -> pthF (ns ++ [x]) k j = pthF ns k j := by
  intro k
  induction k with
  | zero => intro j _; rfl
  | succ k ih =>
   intro j hj
   cases j with
   | zero => rfl
   | succ i =>
    have := (hp (i + 1) (by omega) hj).2
    simp only [pthF]
    rw [pf_app hj, nmf_app hj, ih _ (by omega)]
 intro j hj
 exact key _ j hj
theorem pathOf_app {ns : List Nd} (hp : Par ns) (x : Nd) {j : Nat} (hj : j < ns.length) : pathOf (ns ++ [x]) j = pathOf ns j := by
 cases j with
 | zero => rfl
 | succ i => exact pth_app hp x _ hj
def SameT (ns ms : List Nd) : Prop := ms.length = ns.length /\ ∀ j : Nat, ((ms[j]?).getD default).par = ((ns[j]?).getD default).par /\ ((ms[j]?).getD default).nm = ((ns[j]?).getD default).nm
theorem SameT.refl (ns : List Nd) : SameT ns ns := ⟨rfl, fun _ => ⟨rfl, rfl⟩⟩
theorem SameT.trans {a b c : List Nd} (h : SameT a b) (k : SameT b c) : SameT a c := ⟨k.1.trans h.1, fun j => ⟨(k.2 j).1.trans (h.2 j).1, (k.2 j).2.trans (h.2 j).2⟩⟩
theorem SameT.pf {ns ms : List Nd} (h : SameT ns ms) (j : Nat) : pf ms j = pf ns j := by unfold Proofs.YtnhifaofkndclaaGreatDoor.pf; rw [(h.2 j).1]
theorem SameT.nmf {ns ms : List Nd} (h : SameT ns ms) (j : Nat) : nmf ms j = nmf ns j := (h.2 j).2
theorem SameT.par {ns ms : List Nd} (h : SameT ns ms) (hp : Par ns) : Par ms := fun j h0 hj => by rw [(h.2 j).1, h.pf]; exact hp j h0 (by rw [<- h.1]; exact hj)
theorem SameT.pth {ns ms : List Nd} (h : SameT ns ms) (j : Nat) : pth ms j = pth ns j := by
 have key : ∀ (k j : Nat), pthF ms k j = pthF ns k j := by
  intro k
  induction k with
  | zero => intro j; rfl
  | succ k ih =>
   intro j
   cases j with
   | zero => rfl
   | succ i => simp only [pthF]; rw [h.pf, h.nmf, ih]
 exact key _ j
theorem SameT.pathOf {ns ms : List Nd} (h : SameT ns ms) (j : Nat) : pathOf ms j = pathOf ns j := by
 cases j with
 | zero => rfl
 | succ i => exact h.pth _
theorem SameT.sib {ns ms : List Nd} (h : SameT ns ms) (hs : Sib ns) : Sib ms := fun i j h0 h1 hi hj hp hn => by
 rw [h.pf, h.pf] at hp
 rw [h.nmf, h.nmf] at hn
 exact hs i j h0 h1 (by rw [<- h.1]; exact hi) (by rw [<- h.1]; exact hj) hp hn
theorem SameT.set {ns : List Nd} {k : Nat} {x : Nd} (h1 : x.par = ((ns[k]?).getD default).par) (h2 : x.nm = ((ns[k]?).getD default).nm) : SameT ns (ns.set k x) := by
 refine ⟨List.length_set .., fun j => ?_⟩
 rw [List.getElem?_set]
 split
 ·rename_i hk
  subst hk
  split
  ·exact ⟨h1, h2⟩
  ·rename_i h; rw [List.getElem?_eq_none (by omega)]; exact ⟨rfl, rfl⟩
 ·exact ⟨rfl, rfl⟩
def posO (ns : List Nd) (i : Nat) : Nat := (ord ns).idxOf i
def srtN (ns : List Nd) (i : Nat) : Nd := { (ns[i]?).getD default with par := if i = 0 then -1 else ((posO ns (pf ns i) : Nat) : Int) }
def srt (ns : List Nd) : List Nd := (ord ns).map (srtN ns)
section
variable {ns : List Nd} (hp : Par ns) (h0 : 0 < ns.length)
include hp h0
theorem ord_length : (ord ns).length = ns.length := by rw [(ord_perm hp h0).length_eq, List.length_range]
theorem srt_length : (srt ns).length = ns.length := by unfold srt; rw [List.length_map, ord_length hp h0]
theorem ord_mem {i : Nat} : i ∈ ord ns ↔ i < ns.length := by rw [(ord_perm hp h0).mem_iff, List.mem_range]
theorem ord_nodup : (ord ns).Nodup := (ord_perm hp h0).nodup_iff.2 List.nodup_range
theorem posO_lt {i : Nat} (hi : i < ns.length) : posO ns i < ns.length := by
 rw [<- ord_length hp h0]
 exact List.idxOf_lt_length_iff.2 ((ord_mem hp h0).2 hi)
theorem posO_at {i : Nat} (hi : i < ns.length) : (ord ns)[posO ns i]? = some i := by
 have h1 := posO_lt hp h0 hi
 rw [List.getElem?_eq_getElem (by rw [ord_length hp h0]; exact h1)]
 exact congrArg some (List.getElem_idxOf _)
theorem posO_inj {i j : Nat} (hi : i < ns.length) (hj : j < ns.length) (h : posO ns i = posO ns j) : i = j := by
 have h1 := posO_at hp h0 hi
 rw [h, posO_at hp h0 hj] at h1
 injection h1 with h1
 exact h1.symm
theorem posO_zero : posO ns 0 = 0 := by
 have _ := hp
 unfold posO ord
 obtain ⟨k, hk⟩ : ∃ k, ns.length = k + 1 := ⟨ns.length - 1, by omega⟩
 rw [hk]
 unfold vis
 rw [List.idxOf_cons_self]
theorem srt_at {i : Nat} (hi : i < ns.length) : (srt ns)[posO ns i]? = some (srtN ns i) := by
 unfold srt
 rw [List.getElem?_map, posO_at hp h0 hi]; rfl
theorem srt_pf {i : Nat} (hi : i < ns.length) (hi0 : 0 < i) : pf (srt ns) (posO ns i) = posO ns (pf ns i) := by
 unfold pf
 rw [srt_at hp h0 hi]
 show (if i = 0 then (-1 : Int) else _).toNat = _
 rw [if_neg (by omega)]
 rfl
theorem srt_nm {i : Nat} (hi : i < ns.length) : nmf (srt ns) (posO ns i) = nmf ns i := by
 unfold nmf
 rw [srt_at hp h0 hi]; rfl
theorem srt_pth (hq : Par (srt ns)) : ∀ (i : Nat), i < ns.length -> pth (srt ns) (posO ns i) = pth ns i := by
 intro i
 induction i using Nat.strongRecOn with
 | ind i ih =>
  intro hi
  rcases Nat.eq_zero_or_pos i with rfl | hi0
  ·rw [posO_zero hp h0]; rfl
  ·have h1 : 0 < posO ns i := by
    rcases Nat.eq_zero_or_pos (posO ns i) with h | h
    ·have := posO_inj hp h0 hi h0 (h.trans (posO_zero hp h0).symm)
     omega
    ·exact h
   have h2 := (hp i hi0 hi).2
   rw [pth_succ hq h1 (by rw [srt_length hp h0]; exact posO_lt hp h0 hi), pth_succ hp hi0 hi, srt_pf hp h0 hi hi0, srt_nm hp h0 hi, ih _ h2 (by omega)]
theorem srt_pathOf (hq : Par (srt ns)) {i : Nat} (hi : i < ns.length) : pathOf (srt ns) (posO ns i) = pathOf ns i := by
 rcases Nat.eq_zero_or_pos i with rfl | hi0
 ·rw [posO_zero hp h0]; rfl
 ·have h1 : 0 < posO ns i := by
   rcases Nat.eq_zero_or_pos (posO ns i) with h | h
   ·have := posO_inj hp h0 hi h0 (h.trans (posO_zero hp h0).symm)
    omega
   ·exact h
  rw [pathOf_pos h1, pathOf_pos hi0]
  exact srt_pth hp h0 hq i hi
omit hp h0 in
theorem srt_self {ns : List Nd} (hp : Par ns) (hq : Pre ns) (ha : Asc ns) (h0 : 0 < ns.length) (hr : ((ns[0]?).getD default).par = -1) : srt ns = ns := by
 have ho := ord_self hp hq ha h0
 have hpos : ∀ {i : Nat}, i < ns.length -> posO ns i = i := by
  intro i hi
  have h1 := posO_at hp h0 hi
  rw [ho] at h1
  have h2 := (List.getElem?_eq_some_iff.1 h1).1
  rw [List.getElem?_eq_getElem h2, List.getElem_range] at h1
  injection h1
 unfold srt
 rw [ho]
 refine List.ext_getElem (by simp) fun i h1 h2 => ?_
 rw [List.getElem_map, List.getElem_range]
 unfold srtN
 rw [List.getElem?_eq_getElem h2]
 rw [List.getElem?_eq_getElem h0] at hr
 rcases Nat.eq_zero_or_pos i with rfl | hi0
 ·rw [if_pos rfl]
  show { ns[0] with par := -1 } = ns[0]
  rw [<- show ns[0].par = -1 from hr]
 ·rw [if_neg (by omega)]
  obtain ⟨h3, h4⟩ := hp i hi0 h2
  rw [hpos (by omega)]
  unfold pf at h4 ⊢
  rw [List.getElem?_eq_getElem h2] at h3 h4 ⊢
  show { ns[i] with par := ((ns[i].par.toNat : Nat) : Int) } = ns[i]
  have : ((ns[i].par.toNat : Nat) : Int) = ns[i].par := Int.toNat_of_nonneg h3
  rw [this]
end
open Go.Abs
set_option maxRecDepth 1000000
def pU8 (n : Nat) : PV := .v (.int .u8 n)
def bAt (s : ByteArray) (i : Nat) : Nat := (s.data.getD i 0).toNat
theorem get_bAt {s : ByteArray} {i : Nat} (h : i < s.size) : ∃ b : UInt8, s[i]? = some b /\ b.toNat = bAt s i := by
 refine ⟨s.data.getD i 0, ?_, rfl⟩
 have h1 : i < s.data.size := h
 rw [getElem?_pos s i h]
 have e : s.data.getD i 0 = s.data[i] := by unfold Array.getD; rw [dif_pos h1]; rfl
 rw [e]; rfl
theorem tab_nil : tabOk Tryz.prog [] := fun _ h => by cases h
def letCh (n : Nat) : Bool := decide (97 <= n /\ n <= 122 \/ 65 <= n /\ n <= 90)
def nameCh (n : Nat) : Bool := decide (97 <= n /\ n <= 122 \/ 65 <= n /\ n <= 90 \/ 48 <= n /\ n <= 57 \/ n = 95 \/ n = 44 \/ n = 46 \/ n = 43 \/ n = 45 \/ n = 63 \/ n = 35 \/ n = 64)
def isB (o : Option AV) (b : Bool) : Bool := match o with
 | some (.p (.v (.bool c))) => c == b
 | _ => false
theorem isB_eq {o : Option AV} {b : Bool} (h : isB o b = true) : o = some (.p (pB b)) := by
 unfold isB at h
 split at h
 ·rw [eq_of_beq h]; rfl
 ·cases h
theorem name_all : ∀ n : Nat, n < 256 -> isB ((evPair Tryz.prog ti xf 100 (fun _ => 2) [] 8).1 103 [.p (pU8 n)]) (nameCh n) = true := by decide +kernel
theorem letter_all : ∀ n : Nat, n < 256 -> isB ((evPair Tryz.prog ti xf 100 (fun _ => 2) [] 8).1 101 [.p (pU8 n)]) (letCh n) = true := by decide +kernel
theorem rname_all : ∀ n : Nat, n < 256 -> isB ((evPair Tryz.prog ti xf 100 (fun _ => 2) [] 8).1 162 [.p (pU8 n)]) (nameCh n) = true := by decide +kernel
theorem rletter_all : ∀ n : Nat, n < 256 -> isB ((evPair Tryz.prog ti xf 100 (fun _ => 2) [] 8).1 161 [.p (pU8 n)]) (letCh n) = true := by decide +kernel
theorem name_call (b : UInt8) : ACall Tryz.prog 103 [.p (pU8 b.toNat)] [] fun r H => r = .p (pB (nameCh b.toNat)) /\ H = [] := ev_acall tabOK mixed xf_ok tab_nil 8 (isB_eq (name_all _ (UInt8.toNat_lt b)))
theorem letter_call (b : UInt8) : ACall Tryz.prog 101 [.p (pU8 b.toNat)] [] fun r H => r = .p (pB (letCh b.toNat)) /\ H = [] := ev_acall tabOK mixed xf_ok tab_nil 8 (isB_eq (letter_all _ (UInt8.toNat_lt b)))
theorem rname_call (b : UInt8) : ACall Tryz.prog 162 [.p (pU8 b.toNat)] [] fun r H => r = .p (pB (nameCh b.toNat)) /\ H = [] := ev_acall tabOK mixed xf_ok tab_nil 8 (isB_eq (rname_all _ (UInt8.toNat_lt b)))
theorem rletter_call (b : UInt8) : ACall Tryz.prog 161 [.p (pU8 b.toNat)] [] fun r H => r = .p (pB (letCh b.toNat)) /\ H = [] := ev_acall tabOK mixed xf_ok tab_nil 8 (isB_eq (rletter_all _ (UInt8.toNat_lt b)))
open Go.Abs
set_option maxRecDepth 100000
def allN (s : ByteArray) : Prop := ∀ i, i < s.size -> nameCh (bAt s i) = true
instance (s : ByteArray) : Decidable (allN s) := inferInstanceAs (Decidable (∀ i, i < s.size -> nameCh (bAt s i) = true))
def nameOK (s : ByteArray) : Bool := decide (1 <= s.size /\ s.size <= 31 /\ (letCh (bAt s 0) = true \/ bAt s 0 = 95) /\ allN s)
theorem zea1d {P : Prop} (h : P := by
 ((first | apply CondA.plain | refine' gC | refine' gpI | refine' gpB | refine' gE | (apply DrawA.quiet (by kernel_rfl) (by kernel_rfl); (conv => whnf); fail_if_success (show False))) <;> (conv => whnf)) <;> (solve_by_elim (newGoals := .nonDependentOnly) (symm := false) (exfalso := false) (transparency := .reducible) only [rfl, park_])) : P := h
theorem all_call (s : ByteArray) (hs : s.size <= 31) : ACall Tryz.prog 102 [.p (pS s), .clo (.func 103) []] [] fun r H => r = .p (pB (decide (allN s))) /\ H = [] := by
 refine acall_enter Tryz.func102 rfl rfl tabOK rfl ?_
 refine' yea1d
 refine loop_rule (fun (c : Nat) => ⟨[(0, .p (pS s)), (1, .clo (.func 103) []), (7, .p (pI s.size)), (8, .p (pI c))], []⟩) (fun c => c <= s.size /\ ∀ i, i < c -> nameCh (bAt s i) = true) (fun c => s.size - c) 0 ?_ ?_ ?_; (refine SubA.auto rfl rfl rfl rfl ?_ ?_ <;> refine' fin_)
 ·exact ⟨Nat.zero_le _, fun i hi => by omega⟩
 rintro c ⟨hc, hall⟩
 rcases Nat.lt_or_ge c s.size with hlt | hge
 ·obtain ⟨b, hb, hv⟩ := get_bAt hlt
  have hb1 : s[((c : Nat) : Int).toNat]? = some b := hb
  have hc0 : (0 : Int) <= (c : Nat) := Int.natCast_nonneg c
  (conv => whnf); repeat' ((first | (refine ⟨b, hc0, hb1, ?_⟩) | refine' zea1d | (refine CallA.scalar (name_call b) ?_)) <;> (conv => whnf))
  ·rw [hv] at h0
   (refine RetK.p ?_ <;> refine' fin_; all_goals try first | refine pBEq ?_ | refine pIEq ?_)
   exact (decide_eq_false fun h => by have := h c hlt; rw [this] at h0; simp at h0).symm
  ·rw [hv] at h0
   (refine' ⟨c + 1, _, _, _⟩; rotate_right; (refine SubA.auto rfl rfl rfl rfl ?_ ?_ <;> refine' fin_); rotate_right; exact ar2_)
   exact ⟨by omega, fun i hi => by
    rcases Nat.lt_or_ge i c with h | h
    ·exact hall i h
    ·have : i = c := by omega
     subst this; simpa using h0⟩
 ·refine' yea1d
  (refine RetK.p ?_ <;> refine' fin_; all_goals try first | refine pBEq ?_ | refine pIEq ?_)
  exact (decide_eq_true fun i hi => hall i (by omega)).symm
theorem Name_call (s : ByteArray) : ACall Tryz.prog 57 [.p (pS s)] [] fun r H => r = .p (pB (nameOK s)) /\ H = [] := by
 refine acall_enter Tryz.func57 rfl rfl tabOK rfl ?_
 rcases Nat.eq_zero_or_pos s.size with hz | hz
 ·refine' yea1d
  (refine RetK.p ?_ <;> refine' fin_; all_goals try first | refine pBEq ?_ | refine pIEq ?_)
  exact (decide_eq_false fun h => by omega).symm
 rcases Nat.lt_or_ge 31 s.size with h31 | h31
 ·refine' yea1d
  (refine RetK.p ?_ <;> refine' fin_; all_goals try first | refine pBEq ?_ | refine pIEq ?_)
  exact (decide_eq_false fun h => by omega).symm
 obtain ⟨b, hb, hv⟩ := get_bAt hz
 (conv => whnf); repeat' ((first | (refine ⟨b, Int.le_refl 0, hb, ?_⟩) | refine' zea1d | (refine CallA.scalar (letter_call b) ?_) | (refine CallA.scalar (all_call s h31) ?_)) <;> (conv => whnf))
 all_goals (refine RetK.p ?_ <;> refine' fin_; all_goals try first | refine pBEq ?_ | refine pIEq ?_)
 ·exact decide_eq_decide.2 ⟨fun h => ⟨by omega, h31, .inl (by rw [<- hv]; exact decide_eq_true h0), h⟩, fun h => h.2.2.2⟩
 ·exact decide_eq_decide.2 ⟨fun h => ⟨by omega, h31, .inr (by omega), h⟩, fun h => h.2.2.2⟩
 ·refine (decide_eq_false fun h => ?_).symm
  rcases h.2.2.1 with h | h
  ·rw [<- hv] at h
   exact absurd (of_decide_eq_true h) (by assumption)
  ·omega
open Go.Abs
set_option maxRecDepth 100000
def one (c : UInt8) : ByteArray := ⟨#[c]⟩
theorem rName_call (s : ByteArray) : ACall Tryz.prog 122 [.p (pS s)] [] fun r H => r = .p (pB (nameOK s)) /\ H = [] := by
 refine acall_enter Tryz.func122 rfl rfl tabOK rfl ?_
 rcases Nat.eq_zero_or_pos s.size with hz | hz
 ·refine' yea1d
  (refine RetK.p ?_ <;> refine' fin_; all_goals try first | refine pBEq ?_ | refine pIEq ?_)
  exact (decide_eq_false fun h => by omega).symm
 rcases Nat.lt_or_ge 31 s.size with h31 | h31
 ·refine' yea1d
  (refine RetK.p ?_ <;> refine' fin_; all_goals try first | refine pBEq ?_ | refine pIEq ?_)
  exact (decide_eq_false fun h => by omega).symm
 obtain ⟨b, hb, hv⟩ := get_bAt hz
 (conv => whnf); repeat' ((first | (refine ⟨b, Int.le_refl 0, hb, ?_⟩) | refine' zea1d | (refine CallA.scalar (rletter_call b) ?_)) <;> (conv => whnf))
 ·(refine RetK.p ?_ <;> refine' fin_; all_goals try first | refine pBEq ?_ | refine pIEq ?_)
  refine (decide_eq_false fun h => ?_).symm
  rcases h.2.2.1 with h | h
  ·rw [<- hv] at h
   rw [h] at *
   simp_all
  ·omega
 all_goals
  refine loop_rule (fun (c : Nat) => ⟨[(0, .p (pS s)), (3, .p (pI c))], []⟩) (fun c => c <= s.size /\ ∀ i, i < c -> nameCh (bAt s i) = true) (fun c => s.size - c) 0 ?_ ?_ ?_; (refine SubA.auto rfl rfl rfl rfl ?_ ?_ <;> refine' fin_)
  ·exact ⟨Nat.zero_le _, fun i hi => by omega⟩
  have hF : letCh (bAt s 0) = true \/ bAt s 0 = 95 := by
   rw [<- hv]
   first | exact .inl h0 | exact .inr (by omega)
  rintro c ⟨hc, hall⟩
  rcases Nat.lt_or_ge c s.size with hlt | hge
  ·obtain ⟨b2, hb2, hv2⟩ := get_bAt hlt
   have hb1 : s[((c : Nat) : Int).toNat]? = some b2 := hb2
   have hc0 : (0 : Int) <= (c : Nat) := Int.natCast_nonneg c
   clear h0
   (conv => whnf); repeat' ((first | (refine ⟨b2, hc0, hb1, ?_⟩) | refine' zea1d | (refine CallA.scalar (rname_call b2) ?_)) <;> (conv => whnf))
   ·(refine RetK.p ?_ <;> refine' fin_; all_goals try first | refine pBEq ?_ | refine pIEq ?_)
    rw [hv2] at h0
    exact (decide_eq_false fun h => by have := h.2.2.2 c hlt; rw [this] at h0; simp at h0).symm
   ·rw [hv2] at h0
    (refine' ⟨c + 1, _, _, _⟩; rotate_right; (refine SubA.auto rfl rfl rfl rfl ?_ ?_ <;> refine' fin_); rotate_right; exact ar2_)
    exact ⟨by omega, fun i hi => by
     rcases Nat.lt_or_ge i c with h | h
     ·exact hall i h
     ·have : i = c := by omega
      subst this; simpa using h0⟩
  ·refine' yea1d
   (refine RetK.p ?_ <;> refine' fin_; all_goals try first | refine pBEq ?_ | refine pIEq ?_)
   exact (decide_eq_true ⟨hz, h31, hF, fun i hi => hall i (by omega)⟩).symm
theorem ixB_call (s : ByteArray) (c : UInt8) : ACall Tryz.prog 190 [.p (pS s), .p (pU8 c.toNat)] [] fun r H => r = .p (pI (Lib.indexByte s.data.toList c)) /\ H = [] := by
 refine acall_enter Tryz.func190 rfl rfl tabOK rfl ?_
 refine' yea1d
 refine CallA.ext _ (ExtA.indexByte Tryz.func224 (by kernel_rfl) (by kernel_rfl) (by kernel_rfl) (by kernel_rfl) s c.toNat) ?_
 refine' yea1d
 (refine RetK.p ?_ <;> refine' fin_; all_goals try first | refine pBEq ?_ | refine pIEq ?_)
 show Lib.indexByte s.data.toList (c.toNat : Int).toNat.toUInt8 = _
 rw [Int.toNat_natCast, show c.toNat.toUInt8 = c from UInt8.ofNat_toNat]
theorem ix_call (s : ByteArray) (c : UInt8) : ACall Tryz.prog 223 [.p (pS s), .p (pS (one c))] [] fun r H => r = .p (pI (Lib.indexByte s.data.toList c)) /\ H = [] := by
 refine acall_enter Tryz.func223 rfl rfl tabOK rfl ?_
 (conv => whnf); repeat' ((first | (refine ⟨c, Int.le_refl 0, rfl, ?_⟩) | refine' zea1d | (refine CallA.scalar (ixB_call s c) ?_)) <;> (conv => whnf))
 ·(refine RetK.p ?_ <;> refine' fin_; all_goals try first | refine pBEq ?_ | refine pIEq ?_)
  have : one c = s := tl_inj (by simpa using h0)
  subst this
  simp [one, Lib.indexByte]
 ·(refine RetK.p ?_ <;> refine' fin_; all_goals try first | refine pBEq ?_ | refine pIEq ?_)
theorem index_call (s : ByteArray) (c : UInt8) : ACall Tryz.prog 188 [.p (pS s), .p (pS (one c))] [] fun r H => r = .p (pI (Lib.indexByte s.data.toList c)) /\ H = [] := by
 refine acall_enter Tryz.func188 rfl rfl tabOK rfl ?_
 (conv => whnf); repeat' ((first | refine' zea1d | (refine CallA.scalar (ix_call s c) ?_)) <;> (conv => whnf))
 (refine RetK.p ?_ <;> refine' fin_; all_goals try first | refine pBEq ?_ | refine pIEq ?_)
theorem indexByte_spec (c : UInt8) : ∀ (l : List UInt8), (0 <= Lib.indexByte l c ↔ c ∈ l) /\ -1 <= Lib.indexByte l c
 | [] => by simp [Lib.indexByte]
 | b :: l => by
  have ih := indexByte_spec c l
  have hI : Lib.indexByte (b :: l) c = if b == c then 0 else if Lib.indexByte l c == -1 then -1 else Lib.indexByte l c + 1 := rfl
  rw [hI]
  by_cases hb : b = c
  ·subst hb; simp
  ·have h1 : (b == c) = false := by simpa using hb
   rw [h1]
   have h2 : c ∈ b :: l ↔ c ∈ l := ⟨fun h => (List.mem_cons.1 h).elim (fun h => absurd h.symm hb) id, List.mem_cons_of_mem _⟩
   rw [h2]
   by_cases h3 : Lib.indexByte l c = -1
   ·have : ¬ c ∈ l := fun h => by have := ih.1.2 h; omega
    simp [h3, this]
   ·have h4 : (Lib.indexByte l c == -1) = false := by simpa using h3
    rw [h4]
    simp only [Bool.false_eq_true, if_false]
    rw [<- ih.1]
    omega
theorem contains_call (s : ByteArray) (c : UInt8) : ACall Tryz.prog 139 [.p (pS s), .p (pS (one c))] [] fun r H => r = .p (pB (s.data.toList.contains c)) /\ H = [] := by
 refine acall_enter Tryz.func139 rfl rfl tabOK rfl ?_
 (conv => whnf); repeat' ((first | refine' zea1d | (refine CallA.scalar (index_call s c) ?_)) <;> (conv => whnf))
 (refine RetK.p ?_ <;> refine' fin_; all_goals try first | refine pBEq ?_ | refine pIEq ?_)
 rw [Bool.eq_iff_iff, decide_eq_true_iff, List.contains_iff_mem]
 exact (indexByte_spec _ _).1
def hdB (s : ByteArray) (c : UInt8) : Bool := decide (0 < s.size /\ bAt s 0 = c.toNat)
theorem bAt_zero {s : ByteArray} (h : 0 < s.size) : ∃ b r, s.data.toList = b :: r /\ bAt s 0 = b.toNat := by
 obtain ⟨⟨l⟩⟩ := s
 cases l with
 | nil => exact absurd h (by decide)
 | cons b r => exact ⟨b, r, rfl, rfl⟩
theorem prefix_one (s : ByteArray) (c : UInt8) (h : 0 < s.size) : ((s.extract 0 1).toList == (one c).toList) = decide (bAt s 0 = c.toNat) := by
 obtain ⟨b, r, h1, h2⟩ := bAt_zero h
 rw [seqS]
 refine decide_eq_decide.2 ?_
 have h3 : (s.extract 0 1).data.toList = [b] := by
  rw [ByteArray.data_extract, Array.toList_extract, h1]; simp
 constructor
 ·intro he
  rw [he] at h3
  have : c = b := by simpa [one] using h3
  rw [h2, this]
 ·intro he
  apply ba_ext
  rw [h3, show (one c).data.toList = [c] from rfl]
  have : b = c := UInt8.toNat_inj.1 (by omega)
  rw [this]
theorem hasPre_call (s : ByteArray) (c : UInt8) : ACall Tryz.prog 175 [.p (pS s), .p (pS (one c))] [] fun r H => r = .p (pB (hdB s c)) /\ H = [] := by
 refine acall_enter Tryz.func175 rfl rfl tabOK rfl ?_
 have h1s : (one c).size = 1 := rfl
 rcases Nat.eq_zero_or_pos s.size with hz | hz
 ·refine' yea1d
  (refine RetK.p ?_ <;> refine' fin_; all_goals try first | refine pBEq ?_ | refine pIEq ?_)
  exact (decide_eq_false fun h => by omega).symm
 ·refine' yea1d
  (refine RetK.p ?_ <;> refine' fin_; all_goals try first | refine pBEq ?_ | refine pIEq ?_)
  show ((s.extract 0 1).toList == (one c).toList) = _
  rw [prefix_one s c hz]
  exact decide_eq_decide.2 ⟨fun h => ⟨hz, h⟩, fun h => h.2⟩
theorem prefix_call (s : ByteArray) (c : UInt8) : ACall Tryz.prog 128 [.p (pS s), .p (pS (one c))] [] fun r H => r = .p (pB (hdB s c)) /\ H = [] := by
 refine acall_enter Tryz.func128 rfl rfl tabOK rfl ?_
 (conv => whnf); repeat' ((first | refine' zea1d | (refine CallA.scalar (hasPre_call s c) ?_)) <;> (conv => whnf))
 (refine RetK.p ?_ <;> refine' fin_; all_goals try first | refine pBEq ?_ | refine pIEq ?_)
def propOK (s : ByteArray) : Bool := decide (1 <= s.size /\ s.size <= 31 /\ (letCh (bAt s 0) = true \/ bAt s 0 = 95 \/ bAt s 0 = 35) /\ (∀ i, i < s.size -> nameCh (bAt s i) = true) /\ ∀ i, i < s.size -> bAt s i ≠ 64)
theorem mem_bAt {s : ByteArray} {c : UInt8} : c ∈ s.data.toList ↔ ∃ i, i < s.size /\ bAt s i = c.toNat := by
 constructor
 ·intro h
  obtain ⟨i, hi, rfl⟩ := List.mem_iff_getElem.1 h
  refine ⟨i, by simpa using hi, ?_⟩
  have h1 : i < s.data.size := by simpa using hi
  unfold bAt Array.getD
  rw [dif_pos h1]; rfl
 ·rintro ⟨i, hi, h⟩
  have h1 : i < s.data.size := hi
  have h2 : s.data[i] = c := by
   unfold bAt Array.getD at h
   rw [dif_pos h1] at h
   exact UInt8.toNat_inj.1 h
  rw [<- h2]
  exact Array.getElem_mem_toList h1
theorem swap_size {s : ByteArray} (h : 0 < s.size) (b : UInt8) : (one b ++ s.extract 1 s.size).size = s.size := by
 rw [ByteArray.size_append, ByteArray.size_extract]
 have : (one b).size = 1 := rfl
 omega
theorem swap_bAt {s : ByteArray} (h : 0 < s.size) (b : UInt8) (i : Nat) (hi : i < s.size) : bAt (one b ++ s.extract 1 s.size) i = if i = 0 then b.toNat else bAt s i := by
 obtain ⟨⟨l⟩⟩ := s
 cases l with
 | nil => exact absurd h (by decide)
 | cons c r =>
  have e : (one b ++ (⟨⟨c :: r⟩⟩ : ByteArray).extract 1 (⟨⟨c :: r⟩⟩ : ByteArray).size) = ⟨⟨b :: r⟩⟩ := by
   apply ba_ext
   rw [app_list, ByteArray.data_extract, Array.toList_extract]
   show [b] ++ _ = b :: r
   have h2 : (⟨⟨c :: r⟩⟩ : ByteArray).size = r.length + 1 := rfl
   simp [h2]
  rw [e]
  cases i with
  | zero => rfl
  | succ i => rfl
theorem Property_call (s : ByteArray) (h63 : s.size <= 4611686018427387904) : ACall Tryz.prog 100 [.p (pS s)] [] fun r H => r = .p (pB (propOK s)) /\ H = [] := by
 refine acall_enter Tryz.func100 rfl rfl tabOK rfl ?_
 obtain ⟨P, hP⟩ : ∃ P, hdB s 35 = P := ⟨_, rfl⟩
 have hpre := prefix_call s 35
 rw [hP] at hpre
 have h1s : (one 95).size = 1 := rfl
 cases P with
 | true =>
  have hd := of_decide_eq_true hP
  have hs := swap_size hd.1 95
  have hat := fun i hi => swap_bAt hd.1 95 i hi
  have h2s : (s.extract 1 s.size).size <= s.size := by rw [ByteArray.size_extract]; omega
  have hN := Name_call (one 95 ++ s.extract 1 s.size)
  have hC := contains_call (one 95 ++ s.extract 1 s.size) 64
  have hbd : (one 95).size + (s.extract 1 s.size).size <= 9223372036854775807 := by omega
  generalize hS : one 95 ++ s.extract 1 s.size = S at hs hat hN hC
  (conv => whnf); repeat' ((first | (refine StrA.mk hbd ?_) | (rw [show (⟨#[95]⟩ : ByteArray) ++ s.extract (Int.toNat 1) ((none : Option Int).getD (s.size : Int)).toNat = S from hS]) | refine' zea1d | (refine CallA.scalar (hpre) ?_) | (refine CallA.scalar (hN) ?_) | (refine CallA.scalar (hC) ?_)) <;> (conv => whnf))
  all_goals (refine RetK.p ?_ <;> refine' fin_; all_goals try first | refine pBEq ?_ | refine pIEq ?_)
  ·have hn := h0
   rw [Bool.cond_true, Bool.eq_iff_iff, Bool.not_eq_true', propOK, decide_eq_true_iff]
   have h00 : bAt S 0 = 95 := by rw [hat 0 hd.1]; rfl
   constructor
   ·intro h
    refine ⟨by omega, by omega, .inr (.inr hd.2), fun i hi => ?_, fun i hi he => ?_⟩
    ·rcases Nat.eq_zero_or_pos i with rfl | hi0
     ·rw [hd.2]; rfl
     ·have := h0.2.2.2 i (by omega)
      rwa [hat i hi, if_neg (by omega)] at this
    ·have h3 : S.data.toList.contains 64 = true := by
      rw [List.contains_iff_mem, mem_bAt]
      refine ⟨i, by omega, ?_⟩
      rcases Nat.eq_zero_or_pos i with rfl | hi0
      ·rw [hd.2] at he; cases he
      ·rw [hat i hi, if_neg (by omega)]; exact he
     rw [h3] at h; cases h
   ·rintro ⟨_, _, _, _, h⟩
    cases hc : S.data.toList.contains 64 with
    | false => rfl
    | true =>
     rw [List.contains_iff_mem, mem_bAt] at hc
     obtain ⟨i, hi, he⟩ := hc
     rcases Nat.eq_zero_or_pos i with rfl | hi0
     ·rw [h00] at he; cases he
     ·rw [hat i (by omega), if_neg (by omega)] at he
      exact absurd he (h i (by omega))
  ·refine (decide_eq_false fun h => h0 ⟨by omega, by omega, .inr (by rw [hat 0 hd.1]; rfl), fun i hi => ?_⟩).symm
   rw [hat i (by omega)]
   rcases Nat.eq_zero_or_pos i with rfl | hi0
   ·rfl
   ·rw [if_neg (by omega)]
    exact h.2.2.2.1 i (by omega)
 | false =>
  (conv => whnf); repeat' ((first | refine' zea1d | (refine CallA.scalar (hpre) ?_) | (refine CallA.scalar (Name_call s) ?_) | (refine CallA.scalar (contains_call s 64) ?_)) <;> (conv => whnf))
  all_goals (refine RetK.p ?_ <;> refine' fin_; all_goals try first | refine pBEq ?_ | refine pIEq ?_)
  ·rw [Bool.cond_true, Bool.eq_iff_iff, Bool.not_eq_true', propOK, decide_eq_true_iff]
   constructor
   ·intro h
    refine ⟨h0.1, h0.2.1, h0.2.2.1.imp id .inl, h0.2.2.2, fun i hi he => ?_⟩
    have h3 : s.data.toList.contains 64 = true := by
     rw [List.contains_iff_mem, mem_bAt]
     exact ⟨i, hi, he⟩
    rw [h3] at h; cases h
   ·rintro ⟨_, _, _, _, h⟩
    cases hc : s.data.toList.contains 64 with
    | false => rfl
    | true =>
     rw [List.contains_iff_mem, mem_bAt] at hc
     obtain ⟨i, hi, he⟩ := hc
     exact absurd he (h i hi)
  ·refine (decide_eq_false fun h => h0 ⟨h.1, h.2.1, ?_, h.2.2.2.1⟩).symm
   rcases h.2.2.1 with h1 | h1 | h1
   ·exact .inl h1
   ·exact .inr h1
   ·rw [hdB] at hP
    exact absurd ⟨by omega, h1⟩ (of_decide_eq_false hP)
open Go.Abs
theorem gPrpv {P : Prop} (h : P := by
 (first | ((first | apply AppA.snoc (f := Pr.pv) (a := _) rfl | apply AppA.one (f := Pr.pv) (a := _) rfl | (apply AppA.snoc (f := Pr.pv) (a := ⟨_, _⟩); dsimp only [Pr.pv]; exact rfl) | (apply AppA.one (f := Pr.pv) (a := ⟨_, _⟩); dsimp only [Pr.pv]; exact rfl)); exact ar_) | apply IsL.set (f := Pr.pv) (a := _) rfl | apply IsL.rep (f := Pr.pv) (a := _) rfl | (apply IsL.set (f := Pr.pv) (a := ⟨_, _⟩); dsimp only [Pr.pv]; exact rfl) | (apply IsL.rep (f := Pr.pv) (a := ⟨_, _⟩); dsimp only [Pr.pv]; exact rfl) | apply IsL.lit (f := Pr.pv) [] rfl | apply IsL.lit (f := Pr.pv) [_] rfl | apply IsL.lit (f := Pr.pv) [_, _] rfl | apply IsL.lit (f := Pr.pv) [_, _, _] rfl | apply IsL.lit (f := Pr.pv) [] rfl | apply IsL.lit (f := Pr.pv) [⟨_, _⟩] rfl | apply IsL.lit (f := Pr.pv) [⟨_, _⟩, ⟨_, _⟩] rfl | apply IsL.lit (f := Pr.pv) [⟨_, _⟩, ⟨_, _⟩, ⟨_, _⟩] rfl) <;> (solve_by_elim (newGoals := .nonDependentOnly) (symm := false) (exfalso := false) (transparency := .reducible) only [rfl, park_])) : P := h
theorem gpS {P : Prop} (h : P := by
 (first | ((first | apply AppA.snoc (f := pS) (a := _) rfl | apply AppA.one (f := pS) (a := _) rfl); exact ar_) | apply IsL.set (f := pS) (a := _) rfl | apply IsL.rep (f := pS) (a := _) rfl | apply IsL.lit (f := pS) [] rfl | apply IsL.lit (f := pS) [_] rfl | apply IsL.lit (f := pS) [_, _] rfl | apply IsL.lit (f := pS) [_, _, _] rfl) <;> (solve_by_elim (newGoals := .nonDependentOnly) (symm := false) (exfalso := false) (transparency := .reducible) only [rfl, park_])) : P := h
set_option maxRecDepth 100000
theorem y8201 {P : Prop} (h : P := by
 ((conv => whnf); repeat' ((first | apply CondA.plain | refine' gC | refine' gpS | refine' gpI | refine' gpB | refine' gPrpv | refine' gE | (apply DrawA.quiet (by kernel_rfl) (by kernel_rfl); (conv => whnf); fail_if_success (show False))) <;> (conv => whnf))) <;> (solve_by_elim (newGoals := .nonDependentOnly) (symm := false) (exfalso := false) (transparency := .reducible) only [rfl, park_])) : P := h
theorem z8201 {P : Prop} (h : P := by
 ((first | apply CondA.plain | refine' gC | refine' gpS | refine' gpI | refine' gpB | refine' gPrpv | refine' gE | (apply DrawA.quiet (by kernel_rfl) (by kernel_rfl); (conv => whnf); fail_if_success (show False))) <;> (conv => whnf)) <;> (solve_by_elim (newGoals := .nonDependentOnly) (symm := false) (exfalso := false) (transparency := .reducible) only [rfl, park_])) : P := h
theorem rProp_call (s : ByteArray) : ACall Tryz.prog 86 [.p (pS s)] [] fun r H => r = .p (pB (propOK s)) /\ H = [] := by
 refine acall_enter Tryz.func86 rfl rfl tabOK rfl ?_
 rcases Nat.eq_zero_or_pos s.size with hz | hz
 ·refine' y8201
  (refine RetK.p ?_ <;> refine' fin_; all_goals try first | refine pBEq ?_ | refine pIEq ?_)
  exact (decide_eq_false fun h => by omega).symm
 rcases Nat.lt_or_ge 31 s.size with h31 | h31
 ·refine' y8201
  (refine RetK.p ?_ <;> refine' fin_; all_goals try first | refine pBEq ?_ | refine pIEq ?_)
  exact (decide_eq_false fun h => by omega).symm
 refine' y8201
 refine loop_rule (fun (c : Nat) => ⟨[(0, .p (pS s)), (3, .p (pI c))], []⟩) (fun c => c <= s.size /\ ∀ i, i < c -> bAt s i ≠ 64) (fun c => s.size - c) 0 ?_ ?_ ?_; (refine SubA.auto rfl rfl rfl rfl ?_ ?_ <;> refine' fin_)
 ·exact ⟨Nat.zero_le _, fun i hi => by omega⟩
 rintro c ⟨hc, hall⟩
 rcases Nat.lt_or_ge c s.size with hlt | hge
 ·obtain ⟨b, hb, hv⟩ := get_bAt hlt
  have hb1 : s[((c : Nat) : Int).toNat]? = some b := hb
  have hc0 : (0 : Int) <= (c : Nat) := Int.natCast_nonneg c
  (conv => whnf); repeat' ((first | (refine ⟨b, hc0, hb1, ?_⟩) | refine' z8201 | fail) <;> (conv => whnf))
  ·(refine RetK.p ?_ <;> refine' fin_; all_goals try first | refine pBEq ?_ | refine pIEq ?_)
   exact (decide_eq_false fun h => h.2.2.2.2 c hlt (by omega)).symm
  ·(refine' ⟨c + 1, _, _, _⟩; rotate_right; (refine SubA.auto rfl rfl rfl rfl ?_ ?_ <;> refine' fin_); rotate_right; exact ar2_)
   exact ⟨by omega, fun i hi => by
    rcases Nat.lt_or_ge i c with h | h
    ·exact hall i h
    ·have : i = c := by omega
     subst this; omega⟩
 obtain rfl : c = s.size := by omega
 obtain ⟨b, hb, hv⟩ := get_bAt hz
 rcases Nat.decEq (bAt s 0) 35 with h35 | h35
 ·(conv => whnf); repeat' ((first | (refine ⟨b, Int.le_refl 0, hb, ?_⟩) | refine' z8201 | (refine CallA.scalar (rName_call s) ?_)) <;> (conv => whnf))
  (refine RetK.p ?_ <;> refine' fin_; all_goals try first | refine pBEq ?_ | refine pIEq ?_)
  exact decide_eq_decide.2 ⟨fun h => ⟨h.1, h.2.1, h.2.2.1.imp id .inl, h.2.2.2, hall⟩, fun h => ⟨h.1, h.2.1, h.2.2.1.imp id fun h => h.resolve_right h35, h.2.2.2.1⟩⟩
 ·have h2s : (s.extract 1 s.size).size <= s.size := by rw [ByteArray.size_extract]; omega
  have h1s : (one 97).size = 1 := rfl
  have hN := rName_call (one 97 ++ s.extract 1 s.size)
  have hs := swap_size hz 97
  have hat := fun i hi => swap_bAt hz 97 i hi
  have hbd : (one 97).size + (s.extract 1 s.size).size <= 9223372036854775807 := by omega
  generalize hS : one 97 ++ s.extract 1 s.size = S at hs hat hN
  (conv => whnf); repeat' ((first | (refine ⟨b, Int.le_refl 0, hb, ?_⟩) | (refine StrA.mk hbd ?_) | (rw [show (⟨#[97]⟩ : ByteArray) ++ s.extract (Int.toNat 1) ((none : Option Int).getD (s.size : Int)).toNat = S from hS]) | refine' z8201 | (refine CallA.scalar (hN) ?_)) <;> (conv => whnf))
  ·(refine RetK.p ?_ <;> refine' fin_; all_goals try first | refine pBEq ?_ | refine pIEq ?_)
   refine (decide_eq_true ⟨hz, h31, .inr (.inr h35), fun i hi => ?_, hall⟩).symm
   obtain rfl : i = 0 := by omega
   rw [h35]; rfl
  ·(refine RetK.p ?_ <;> refine' fin_; all_goals try first | refine pBEq ?_ | refine pIEq ?_)
   refine decide_eq_decide.2 ⟨fun h => ⟨hz, h31, .inr (.inr h35), fun i hi => ?_, hall⟩, fun h => ⟨by omega, by omega, .inl ?_, fun i hi => ?_⟩⟩
   ·rcases Nat.eq_zero_or_pos i with rfl | hi0
    ·rw [h35]; rfl
    ·have := h.2.2.2 i (by omega)
     rwa [hat i hi, if_neg (by omega)] at this
   ·rw [hat 0 hz]; rfl
   ·rw [hat i (by omega)]
    rcases Nat.eq_zero_or_pos i with rfl | hi0
    ·rfl
    ·rw [if_neg (by omega)]
     exact h.2.2.2.1 i (by omega)
theorem isNaN_call (s : ByteArray) : ACall Tryz.prog 97 [.p (pS s)] [] fun r H => r = .p (pB false) /\ H = [] := by
 refine acall_enter Tryz.func97 rfl rfl tabOK rfl ?_
 refine' y8201
 (refine RetK.p ?_ <;> refine' fin_; all_goals try first | refine pBEq ?_ | refine pIEq ?_)
 rw [beq_self_eq_true]; rfl
def cmpI (a b : ByteArray) : Int := if bless a b = true then -1 else if bless b a = true then 1 else 0
theorem gtr_eq (a b : ByteArray) : (!(bless a b || a.toList == b.toList)) = bless b a := by
 rw [seqS]
 cases h : bless a b with
 | true => rw [bless_asymm h]; rfl
 | false =>
  cases k : bless b a with
  | true =>
   have : a ≠ b := fun e => by subst e; rw [bless_irrefl] at k; cases k
   rw [decide_eq_false this]; rfl
  | false => rw [bless_total h k, decide_eq_true rfl]; rfl
theorem cmp_call (a b : ByteArray) : ACall Tryz.prog 45 [.p (pS a), .p (pS b)] [] fun r H => r = .p (pI (cmpI a b)) /\ H = [] := by
 refine acall_enter Tryz.func45 rfl rfl tabOK rfl ?_
 have hg := gtr_eq a b
 cases h : bless a b with
 | true =>
  have hl : Op.bytesLess a.toList b.toList = true := h
  (conv => whnf); repeat' ((first | refine' z8201 | (refine CallA.scalar (isNaN_call a) ?_) | (refine CallA.scalar (isNaN_call b) ?_)) <;> (conv => whnf))
  all_goals first | (exfalso; rw [hl] at h0; cases h0; done) | skip
  (refine RetK.p ?_ <;> refine' fin_; all_goals try first | refine pBEq ?_ | refine pIEq ?_)
  rw [cmpI, if_pos h]
 | false =>
  have hl : Op.bytesLess a.toList b.toList = false := h
  rw [h, Bool.false_or] at hg
  (conv => whnf); repeat' ((first | refine' z8201 | (refine CallA.scalar (isNaN_call a) ?_) | (refine CallA.scalar (isNaN_call b) ?_)) <;> (conv => whnf))
  ·rw [hl, Bool.false_or] at h0
   rw [h0] at hg
   (refine RetK.p ?_ <;> refine' fin_; all_goals try first | refine pBEq ?_ | refine pIEq ?_)
   rw [cmpI, if_neg (by rw [h]; exact Bool.false_ne_true), if_pos (by rw [<- hg]; rfl)]
  ·rw [hl, Bool.false_or] at h0
   rw [h0] at hg
   (refine RetK.p ?_ <;> refine' fin_; all_goals try first | refine pBEq ?_ | refine pIEq ?_)
   rw [cmpI, if_neg (by rw [h]; exact Bool.false_ne_true), if_neg (by rw [<- hg]; exact Bool.false_ne_true)]
theorem big_call (p : Pr) : ACall Tryz.prog 50 [.p (Pr.pv p)] [] fun r H => r = .p (pB (decide (256 < p.2.size))) /\ H = [] := by
 refine acall_enter Tryz.func50 rfl rfl tabOK rfl ?_
 refine' y8201
 (refine RetK.p ?_ <;> refine' fin_; all_goals try first | refine pBEq ?_ | refine pIEq ?_)
 exact decide_eq_decide.2 (by omega)
theorem big_index  (nl : Bool) (xs : List _) : ACall Tryz.prog 99 [.p (.list nl (xs.map Pr.pv)), .clo (.func 50) []] [] fun r H => (∃ v : Int, r = .p (pI v) /\ (decide (0 <= v) = xs.any fun x => decide (256 < x.2.size))) /\ H = [] := by
 refine acall_enter Tryz.func99 rfl rfl tabOK rfl ?_
 refine' y8201
 refine loop_rule (fun (c : Nat) => ⟨[(0, .p (.list nl (xs.map Pr.pv))), (1, .clo (.func 50) []), (7, .p (pI xs.length)), (8, .p (pI c))], []⟩) (fun c => c <= xs.length /\ ∀ (k : Nat) (h : k < xs.length), k < c -> (fun x => decide (256 < x.2.size)) xs[k] = false) (fun c => xs.length - c) 0 ?_ ?_ ?_; (refine SubA.auto rfl rfl rfl rfl ?_ ?_ <;> refine' fin_)
 ·exact ⟨by omega, by omega⟩
 rintro c ⟨hc, hok⟩
 rcases Nat.lt_or_ge c xs.length with hlt | hge
 ·refine' y8201
  refine CallA.loc [] [] rfl rfl ((big_call xs[c]).mono ?_)
  rintro r H ⟨rfl, rfl⟩
  refine' y8201
  ·(refine' RetK.auto (.p (pI c)) ([]) rfl rfl rfl rfl _ _ _ <;> refine' fin_)
   refine ⟨c, rfl, ?_⟩
   rw [List.any_eq_true.2 ⟨xs[c], List.getElem_mem _, by first | exact h0 | exact decide_eq_true h0 | exact congrArg (! ·) h0 | exact decide_eq_true (by omega)⟩]
   exact decide_eq_true (by omega)
  ·(refine' ⟨c + 1, _, _, _⟩; rotate_right; (refine SubA.auto rfl rfl rfl rfl ?_ ?_ <;> refine' fin_); rotate_right; exact ar2_)
   exact ⟨by omega, all_succ hok fun _ => by first | exact h0 | exact decide_eq_false h0 | exact congrArg (! ·) h0 | exact decide_eq_false (by omega)⟩
 ·refine' y8201
  (refine' RetK.auto (.p (pI (-1))) ([]) rfl rfl rfl rfl _ _ _ <;> refine' fin_)
  refine ⟨-1, rfl, ?_⟩
  rw [List.any_eq_false.2]
  ·rfl
  ·intro x hx
   obtain ⟨k, hk, rfl⟩ := List.getElem_of_mem hx
   exact Bool.eq_false_iff.1 (hok k hk (by omega))
theorem big_contains  (nl : Bool) (xs : List _) : ACall Tryz.prog 49 [.p (.list nl (xs.map Pr.pv)), .clo (.func 50) []] [] fun r H => r = .p (pB (xs.any fun x => decide (256 < x.2.size))) /\ H = [] := by
 refine acall_enter Tryz.func49 rfl rfl tabOK rfl ?_
 refine' y8201
 refine CallA.all ((big_index  nl xs).mono ?_)
 rintro r H ⟨⟨v, rfl, hv⟩, rfl⟩
 refine' y8201
 (refine' RetK.auto (.p (pB (xs.any fun x => decide (256 < x.2.size)))) ([]) rfl rfl rfl rfl _ _ _ <;> refine' fin_)
 rw [<- hv]; rfl
open Go.Abs
theorem gNdpv {P : Prop} (h : P := by
 (first | ((first | apply AppA.snoc (f := Nd.pv) (a := _) rfl | apply AppA.one (f := Nd.pv) (a := _) rfl | (apply AppA.snoc (f := Nd.pv) (a := ⟨_, _, _, _⟩); dsimp only [Nd.pv]; exact rfl) | (apply AppA.one (f := Nd.pv) (a := ⟨_, _, _, _⟩); dsimp only [Nd.pv]; exact rfl)); exact ar_) | apply IsL.set (f := Nd.pv) (a := _) rfl | apply IsL.rep (f := Nd.pv) (a := _) rfl | (apply IsL.set (f := Nd.pv) (a := ⟨_, _, _, _⟩); dsimp only [Nd.pv]; exact rfl) | (apply IsL.rep (f := Nd.pv) (a := ⟨_, _, _, _⟩); dsimp only [Nd.pv]; exact rfl) | apply IsL.lit (f := Nd.pv) [] rfl | apply IsL.lit (f := Nd.pv) [_] rfl | apply IsL.lit (f := Nd.pv) [_, _] rfl | apply IsL.lit (f := Nd.pv) [_, _, _] rfl | apply IsL.lit (f := Nd.pv) [] rfl | apply IsL.lit (f := Nd.pv) [⟨_, _, _, _⟩] rfl | apply IsL.lit (f := Nd.pv) [⟨_, _, _, _⟩, ⟨_, _, _, _⟩] rfl | apply IsL.lit (f := Nd.pv) [⟨_, _, _, _⟩, ⟨_, _, _, _⟩, ⟨_, _, _, _⟩] rfl) <;> (solve_by_elim (newGoals := .nonDependentOnly) (symm := false) (exfalso := false) (transparency := .reducible) only [rfl, park_])) : P := h
set_option maxRecDepth 100000
def NamAt (i : Nat) (n : Nd) : Prop := (i = 0 -> n.par = -1 /\ n.nm = ByteArray.empty) /\ (0 < i -> 0 <= n.par /\ n.par < i /\ nameOK n.nm = true) /\ ∀ p ∈ n.ps, propOK p.1 = true
def Nam (ns : List Nd) : Prop := ∀ i (h : i < ns.length), NamAt i ns[i]
def Sm (ns : List Nd) : Prop := ∀ n ∈ ns, ∀ p ∈ n.ps, p.1.size <= 1000000
def Few (ns : List Nd) : Prop := ns.length <= 1000 /\ ∀ n ∈ ns, n.ps.length <= 1000
theorem eq_emp (s : ByteArray) : (s.toList == (⟨#[]⟩ : ByteArray).toList) = decide (s = ByteArray.empty) := seqS s _
theorem y2556 {P : Prop} (h : P := by
 ((conv => whnf); repeat' ((first | apply CondA.plain | refine' gC | refine' gpS | refine' gpI | refine' gpB | refine' gPrpv | refine' gNdpv | refine' gE | (apply DrawA.quiet (by kernel_rfl) (by kernel_rfl); (conv => whnf); fail_if_success (show False))) <;> (conv => whnf))) <;> (solve_by_elim (newGoals := .nonDependentOnly) (symm := false) (exfalso := false) (transparency := .reducible) only [rfl, park_])) : P := h
theorem z2556 {P : Prop} (h : P := by
 ((first | apply CondA.plain | refine' gC | refine' gpS | refine' gpI | refine' gpB | refine' gPrpv | refine' gNdpv | refine' gE | (apply DrawA.quiet (by kernel_rfl) (by kernel_rfl); (conv => whnf); fail_if_success (show False))) <;> (conv => whnf)) <;> (solve_by_elim (newGoals := .nonDependentOnly) (symm := false) (exfalso := false) (transparency := .reducible) only [rfl, park_])) : P := h
theorem named_call (nl : Bool) (ns : List Nd) (hs : Sm ns) (hf : Few ns) : ACall Tryz.prog 51 [.p (.agg [.list nl (ns.map Nd.pv)])] [] fun r H => (∃ b, r = .p (pB b) /\ (b = true ↔ Nam ns)) /\ H = [] := by
 refine acall_enter Tryz.func51 rfl rfl tabOK rfl ?_
 have hl := hf.1
 refine' y2556
 refine loop_rule (fun (c : Nat) => ⟨[(8, .p (.list nl (ns.map Nd.pv))), (9, .p (pI ns.length)), (10, .p (pI c))], []⟩) (fun c => c <= ns.length /\ ∀ i (h : i < ns.length), i < c -> NamAt i ns[i]) (fun c => ns.length - c) 0 ?_ ?_ ?_; (refine SubA.auto rfl rfl rfl rfl ?_ ?_ <;> refine' fin_)
 ·exact ⟨Nat.zero_le _, fun i _ hi => by omega⟩
 rintro c ⟨hc, hall⟩
 rcases Nat.lt_or_ge c ns.length with hlt | hge
 rotate_left
 ·refine' y2556
  (refine' RetK.auto (.p (pB true)) ([]) rfl rfl rfl rfl _ _ _ <;> refine' fin_)
  exact ⟨true, rfl, fun _ i h => hall i h (by omega), fun _ => rfl⟩
 have hsx := hs ns[c] (List.getElem_mem hlt)
 have hfx := hf.2 ns[c] (List.getElem_mem hlt)
 have he := eq_emp ns[c].nm
 have no : ¬ NamAt c ns[c] -> (false = true ↔ Nam ns) := fun h => ⟨fun h => (by cases h), fun k => absurd (k c hlt) h⟩
 rcases Nat.eq_zero_or_pos c with h0c | h0c
 ·by_cases hp : ns[c].par = -1
  rotate_left
  ·refine' y2556
   (refine' RetK.auto (.p (pB false)) ([]) rfl rfl rfl rfl _ _ _ <;> refine' fin_)
   exact ⟨false, rfl, no fun h => hp (h.1 h0c).1⟩
  by_cases hm : ns[c].nm = ByteArray.empty
  rotate_left
  ·rw [decide_eq_false hm] at he
   refine' y2556
   (refine' RetK.auto (.p (pB false)) ([]) rfl rfl rfl rfl _ _ _ <;> refine' fin_)
   exact ⟨false, rfl, no fun h => hm (h.1 h0c).2⟩
  rw [decide_eq_true hm] at he
  have hA : (c = 0 -> ns[c].par = -1 /\ ns[c].nm = ByteArray.empty) /\ (0 < c -> 0 <= ns[c].par /\ ns[c].par < c /\ nameOK ns[c].nm = true) := ⟨fun _ => ⟨hp, hm⟩, fun h => by omega⟩
  refine' y2556
  refine loop_rule (fun (d : Nat) => ⟨[(8, .p (.list nl (ns.map Nd.pv))), (9, .p (pI ns.length)), (10, .p (pI c)), (49, .p (.list ns[c].nl (ns[c].ps.map Pr.pv))), (50, .p (pI ns[c].ps.length)), (51, .p (pI d))], []⟩) (fun d => d <= ns[c].ps.length /\ ∀ k (h : k < ns[c].ps.length), k < d -> propOK ns[c].ps[k].1 = true) (fun d => ns[c].ps.length - d) 0 ?_ ?_ ?_; (refine SubA.auto rfl rfl rfl rfl ?_ ?_ <;> refine' fin_)
  ·exact ⟨Nat.zero_le _, fun i _ hi => by omega⟩
  rintro d ⟨hd, hpr⟩
  rcases Nat.lt_or_ge d ns[c].ps.length with hdl | hdg
  ·have hP := Property_call ns[c].ps[d].1 (by have := hsx ns[c].ps[d] (List.getElem_mem hdl); omega)
   generalize hpd : propOK ns[c].ps[d].1 = B at hP
   cases B with
   | false =>
    (conv => whnf); repeat' ((first | refine' z2556 | (refine CallA.scalar (hP) ?_)) <;> (conv => whnf))
    (refine' RetK.auto (.p (pB false)) ([]) rfl rfl rfl rfl _ _ _ <;> refine' fin_)
    exact ⟨false, rfl, no fun h => by have := h.2.2 _ (List.getElem_mem hdl); rw [hpd] at this; cases this⟩
   | true =>
    (conv => whnf); repeat' ((first | refine' z2556 | (refine CallA.scalar (hP) ?_)) <;> (conv => whnf))
    (refine' ⟨d + 1, _, _, _⟩; rotate_right; (refine SubA.auto rfl rfl rfl rfl ?_ ?_ <;> refine' fin_); rotate_right; exact ar2_)
    exact ⟨by omega, fun k hk hkd => by
     rcases Nat.lt_or_ge k d with h | h
     ·exact hpr k hk h
     ·have : k = d := by omega
      subst this; exact hpd⟩
  ·refine' y2556
   (refine' ⟨c + 1, _, _, _⟩; rotate_right; (refine SubA.auto rfl rfl rfl rfl ?_ ?_ <;> refine' fin_); rotate_right; exact ar2_)
   exact ⟨by omega, fun i hi hic => by
    rcases Nat.lt_or_ge i c with h | h
    ·exact hall i hi h
    ·have : i = c := by omega
     subst this
     exact ⟨hA.1, hA.2, fun p hp => by
      obtain ⟨k, hk, rfl⟩ := List.getElem_of_mem hp
      exact hpr k hk (by omega)⟩⟩
 ·rcases Int.lt_or_le ns[c].par 0 with hp | hp
  ·refine' y2556
   (refine' RetK.auto (.p (pB false)) ([]) rfl rfl rfl rfl _ _ _ <;> refine' fin_)
   exact ⟨false, rfl, no fun h => by have := (h.2.1 h0c).1; omega⟩
  rcases Int.lt_or_le ns[c].par c with hq | hq
  rotate_left
  ·refine' y2556
   (refine' RetK.auto (.p (pB false)) ([]) rfl rfl rfl rfl _ _ _ <;> refine' fin_)
   exact ⟨false, rfl, no fun h => by have := (h.2.1 h0c).2.1; omega⟩
  have hN := Name_call ns[c].nm
  generalize hm : nameOK ns[c].nm = B at hN
  cases B with
  | false =>
   (conv => whnf); repeat' ((first | refine' z2556 | (refine CallA.scalar (hN) ?_)) <;> (conv => whnf))
   (refine' RetK.auto (.p (pB false)) ([]) rfl rfl rfl rfl _ _ _ <;> refine' fin_)
   exact ⟨false, rfl, no fun h => by have := (h.2.1 h0c).2.2; rw [hm] at this; cases this⟩
  | true =>
   have hA : (c = 0 -> ns[c].par = -1 /\ ns[c].nm = ByteArray.empty) /\ (0 < c -> 0 <= ns[c].par /\ ns[c].par < c /\ nameOK ns[c].nm = true) := ⟨fun h => by omega, fun h => ⟨hp, hq, hm⟩⟩
   (conv => whnf); repeat' ((first | refine' z2556 | (refine CallA.scalar (hN) ?_)) <;> (conv => whnf))
   refine loop_rule (fun (d : Nat) => ⟨[(8, .p (.list nl (ns.map Nd.pv))), (9, .p (pI ns.length)), (10, .p (pI c)), (49, .p (.list ns[c].nl (ns[c].ps.map Pr.pv))), (50, .p (pI ns[c].ps.length)), (51, .p (pI d))], []⟩) (fun d => d <= ns[c].ps.length /\ ∀ k (h : k < ns[c].ps.length), k < d -> propOK ns[c].ps[k].1 = true) (fun d => ns[c].ps.length - d) 0 ?_ ?_ ?_; (refine SubA.auto rfl rfl rfl rfl ?_ ?_ <;> refine' fin_)
   ·exact ⟨Nat.zero_le _, fun i _ hi => by omega⟩
   rintro d ⟨hd, hpr⟩
   rcases Nat.lt_or_ge d ns[c].ps.length with hdl | hdg
   ·have hP := Property_call ns[c].ps[d].1 (by have := hsx ns[c].ps[d] (List.getElem_mem hdl); omega)
    generalize hpd : propOK ns[c].ps[d].1 = B at hP
    cases B with
    | false =>
     (conv => whnf); repeat' ((first | refine' z2556 | (refine CallA.scalar (hP) ?_)) <;> (conv => whnf))
     (refine' RetK.auto (.p (pB false)) ([]) rfl rfl rfl rfl _ _ _ <;> refine' fin_)
     exact ⟨false, rfl, no fun h => by have := h.2.2 _ (List.getElem_mem hdl); rw [hpd] at this; cases this⟩
    | true =>
     (conv => whnf); repeat' ((first | refine' z2556 | (refine CallA.scalar (hP) ?_)) <;> (conv => whnf))
     (refine' ⟨d + 1, _, _, _⟩; rotate_right; (refine SubA.auto rfl rfl rfl rfl ?_ ?_ <;> refine' fin_); rotate_right; exact ar2_)
     exact ⟨by omega, fun k hk hkd => by
      rcases Nat.lt_or_ge k d with h | h
      ·exact hpr k hk h
      ·have : k = d := by omega
       subst this; exact hpd⟩
   ·refine' y2556
    (refine' ⟨c + 1, _, _, _⟩; rotate_right; (refine SubA.auto rfl rfl rfl rfl ?_ ?_ <;> refine' fin_); rotate_right; exact ar2_)
    exact ⟨by omega, fun i hi hic => by
     rcases Nat.lt_or_ge i c with h | h
     ·exact hall i hi h
     ·have : i = c := by omega
      subst this
      exact ⟨hA.1, hA.2, fun p hp => by
       obtain ⟨k, hk, rfl⟩ := List.getElem_of_mem hp
       exact hpr k hk (by omega)⟩⟩
open Go.Abs
set_option maxRecDepth 100000
theorem Nam.par {ns : List Nd} (h : Nam ns) : Par ns := by
 intro j h0 hj
 have h1 := (h j hj).2.1 h0
 unfold pf
 rw [List.getElem?_eq_getElem hj]
 show 0 <= ns[j].par /\ ns[j].par.toNat < j
 omega
theorem pf_at {ns : List Nd} {j : Nat} (h : j < ns.length) : pf ns j = ns[j].par.toNat := by unfold pf; rw [List.getElem?_eq_getElem h]; rfl
theorem nmf_at {ns : List Nd} {j : Nat} (h : j < ns.length) : nmf ns j = ns[j].nm := by unfold nmf; rw [List.getElem?_eq_getElem h]; rfl
def lastF (ns : List Nd) : Nat -> Nat -> ByteArray
 | 0, _ => ByteArray.empty
 | i + 1, u => match decide (0 < i /\ pf ns i = u) with
  | true => nmf ns i
  | false => lastF ns i u
def PrA (ps : List Pr) : Prop := ∀ k (h : k < ps.length), 0 < k -> bless (ps[k - 1]'(by omega)).1 ps[k].1 = true
def WkAt (ns : List Nd) (i : Nat) (n : Nd) : Prop := PrA n.ps /\ (0 < i -> Anc (pf ns) (pf ns i) (i - 1) /\ bless (nmf ns i) (lastF ns i (pf ns i)) = false)
def Wk (ns : List Nd) : Prop := ∀ i (h : i < ns.length), WkAt ns i ns[i]
def lasts (ns : List Nd) (c : Nat) : List ByteArray := (List.range ns.length).map (lastF ns c)
theorem lasts_zero (ns : List Nd) : List.replicate (ns.length : Int).toNat (⟨#[]⟩ : ByteArray) = lasts ns 0 := by
 refine List.ext_getElem (by simp [lasts]) fun i h1 h2 => ?_
 simp [lasts, lastF]; rfl
theorem lasts_get {ns : List Nd} {c u : Nat} (h : u < (lasts ns c).length) : (lasts ns c)[u] = lastF ns c u := by simp [lasts]
theorem lasts_succ {ns : List Nd} {c : Nat} (h0 : 0 < c) (hc : c < ns.length) (hu : pf ns c < ns.length) : (lasts ns c).set (pf ns c) (nmf ns c) = lasts ns (c + 1) := by
 refine List.ext_getElem (by simp [lasts]) fun i h1 h2 => ?_
 rw [List.getElem_set]
 simp only [lasts, List.getElem_map, List.getElem_range, lastF]
 split
 ·rename_i he
  rw [decide_eq_true ⟨h0, he⟩]
 ·rename_i he
  rw [decide_eq_false fun h => he h.2]
theorem lasts_one {ns : List Nd} : lasts ns 1 = lasts ns 0 := by
 unfold lasts
 refine List.map_congr_left fun u _ => ?_
 simp [lastF]
theorem walked_call (nl : Bool) (ns : List Nd) (hn : Nam ns) (hf : Few ns) : ACall Tryz.prog 52 [.p (.agg [.list nl (ns.map Nd.pv)])] [] fun r H => (∃ b, r = .p (pB b) /\ (b = true ↔ Wk ns)) /\ H = [] := by
 refine acall_enter Tryz.func52 rfl rfl tabOK rfl ?_
 have hl := hf.1
 have hp := hn.par
 refine' y2556
 refine loop_rule (fun (c : Nat) => ⟨[(1, .rptr [.list nl (ns.map Nd.pv)]), (3, .buf 1), (13, .p (.list nl (ns.map Nd.pv))), (14, .p (pI ns.length)), (15, .p (pI c))], [none, some (AO.buf 9 false ((lasts ns c).map pS))]⟩) (fun c => c <= ns.length /\ ∀ i (h : i < ns.length), i < c -> WkAt ns i ns[i]) (fun c => ns.length - c) 0 ?_ ?_ ?_; (refine SubA.ret _ 1 0 [.list nl (ns.map Nd.pv)] rfl rfl ?_; refine SubA.auto rfl rfl rfl rfl ?_ ?_ <;> refine' fin_)
 ·exact lasts_zero ns
 ·exact ⟨Nat.zero_le _, fun i _ hi => by omega⟩
 rintro c ⟨hc, hall⟩
 rcases Nat.lt_or_ge c ns.length with hlt | hge
 rotate_left
 ·refine' y2556
  (refine' RetK.auto (.p (pB true)) ([]) rfl rfl rfl rfl _ _ _ <;> refine' fin_)
  exact ⟨true, rfl, fun _ i h => hall i h (by omega), fun _ => rfl⟩
 have hfx := hf.2 ns[c] (List.getElem_mem hlt)
 have no : ¬ WkAt ns c ns[c] -> (false = true ↔ Wk ns) := fun h => ⟨fun h => (by cases h), fun k => absurd (k c hlt) h⟩
 refine' y2556
 refine loop_rule (fun (d : Nat) => ⟨[(1, .rptr [.list nl (ns.map Nd.pv)]), (3, .buf 1), (4, .p (pI c)), (5, .rptr [pI ns[c].par, pS ns[c].nm, .list ns[c].nl (ns[c].ps.map Pr.pv)]), (6, .p (pI d)), (13, .p (.list nl (ns.map Nd.pv))), (14, .p (pI ns.length)), (15, .p (pI c))], [none, some (AO.buf 9 false ((lasts ns c).map pS))]⟩) (fun d => 1 <= d /\ ∀ k (h : k < ns[c].ps.length), 0 < k -> k < d -> bless (ns[c].ps[k - 1]'(by omega)).1 ns[c].ps[k].1 = true) (fun d => ns[c].ps.length - d) 1 ?_ ?_ ?_; (refine SubA.ret _ 5 2 [pI ns[c].par, pS ns[c].nm, .list ns[c].nl (ns[c].ps.map Pr.pv)] rfl rfl ?_; refine SubA.auto rfl rfl rfl rfl ?_ ?_ <;> refine' fin_)
 ·exact ⟨by omega, fun k _ h0 hk => by omega⟩
 rintro d ⟨hd, hpr⟩
 rcases Nat.lt_or_ge d ns[c].ps.length with hdl | hdg
 ·have hz : ((d : Int) - 1).toNat = d - 1 := by omega
  refine' y2556
  ·(refine' RetK.auto (.p (pB false)) ([]) rfl rfl rfl rfl _ _ _ <;> refine' fin_)
   refine ⟨false, rfl, no fun h => ?_⟩
   have := h.1 d hdl (by omega)
   simp only [hz] at h0
   unfold bless at this
   rw [h0] at this; cases this
  ·(refine' ⟨d + 1, _, _, _⟩; rotate_right; (refine SubA.auto rfl rfl rfl rfl ?_ ?_ <;> refine' fin_); rotate_right; exact ar2_)
   refine ⟨by omega, fun k hk h0' hkd => ?_⟩
   rcases Nat.lt_or_ge k d with h | h
   ·exact hpr k hk h0' h
   ·have : k = d := by omega
    subst this
    simp only [hz] at h0
    exact h0
 rcases Nat.eq_zero_or_pos c with h0c | h0c
 ·refine' y2556
  (refine' ⟨c + 1, _, _, _⟩; rotate_right; (refine SubA.auto rfl rfl rfl rfl ?_ ?_ <;> refine' fin_); rotate_right; exact ar2_)
  ·subst h0c; exact lasts_one.symm
  ·refine ⟨by omega, fun i hi hic => ?_⟩
   have : i = c := by omega
   subst this
   exact ⟨fun k hk h0 => hpr k hk h0 (by omega), fun h => by omega⟩
 have hA : PrA ns[c].ps := fun k hk h0 => hpr k hk h0 (by omega)
 have hpc := pf_at hlt
 have hnc := (hn c hlt).2.1 h0c
 refine' y2556
 refine loop_rule (fun (u : Int) => ⟨[(1, .rptr [.list nl (ns.map Nd.pv)]), (3, .buf 1), (5, .rptr [pI ns[c].par, pS ns[c].nm, .list ns[c].nl (ns[c].ps.map Pr.pv)]), (7, .p (pI u)), (13, .p (.list nl (ns.map Nd.pv))), (14, .p (pI ns.length)), (15, .p (pI c))], [none, some (AO.buf 9 false ((lasts ns c).map pS))]⟩) (fun u => -1 <= u /\ u < c /\ (u = -1 -> ¬ Anc (pf ns) (pf ns c) (c - 1)) /\ (0 <= u -> (Anc (pf ns) (pf ns c) (c - 1) ↔ Anc (pf ns) (pf ns c) u.toNat))) (fun u => (u + 1).toNat) ((c : Int) - 1) ?_ ?_ ?_; (refine SubA.auto rfl rfl rfl rfl ?_ ?_ <;> refine' fin_)
 ·exact ⟨by omega, by omega, fun h => by omega, fun h => by rw [show ((c : Int) - 1).toNat = c - 1 by omega]⟩
 rintro u ⟨hu1, hu2, hu3, hu4⟩
 rcases Int.lt_or_le u 0 with hu | hu
 ·have : u = -1 := by omega
  refine' y2556
  (refine' RetK.auto (.p (pB false)) ([]) rfl rfl rfl rfl _ _ _ <;> refine' fin_)
  exact ⟨false, rfl, no fun h => hu3 this (h.2 h0c).1⟩
 obtain ⟨w, rfl⟩ : ∃ w : Nat, u = w := ⟨u.toNat, by omega⟩
 have hw : w < ns.length := by omega
 have hpw := pf_at hw
 have hnw := hn w hw
 have hw4 := hu4 (by omega)
 simp only [Int.toNat_natCast] at hw4
 by_cases hy : (w : Int) = ns[c].par
 ·have hpcw : pf ns c = w := by omega
  have hgl : (lasts ns c).length = ns.length := by simp [lasts]
  have hla := lasts_get (ns := ns) (c := c) (u := w) (by omega)
  have hnm := nmf_at hlt
  have hanc : Anc (pf ns) (pf ns c) (c - 1) := hw4.2 (hpcw ▸ Anc.self)
  refine' y2556
  ·(refine' RetK.auto (.p (pB false)) ([]) rfl rfl rfl rfl _ _ _ <;> refine' fin_)
   refine ⟨false, rfl, no fun h => ?_⟩
   have := (h.2 h0c).2
   rw [hpcw, hnm] at this
   rw [hla] at h0
   unfold bless at this
   rw [h0] at this; cases this
  ·(refine' ⟨c + 1, _, _, _⟩; rotate_right; (refine SubA.auto rfl rfl rfl rfl ?_ ?_ <;> refine' fin_); rotate_right; exact ar2_)
   ·rw [<- lasts_succ h0c hlt (by omega), hpcw, hnm]
   ·refine ⟨by omega, fun i hi hic => ?_⟩
    rcases Nat.lt_or_ge i c with h | h
    ·exact hall i hi h
    ·have : i = c := by omega
     subst this
     refine ⟨hA, fun _ => ⟨hanc, ?_⟩⟩
     rw [hpcw, hnm]
     rw [hla] at h0
     exact h0
 ·have hne : pf ns c ≠ w := by omega
  rcases Nat.eq_zero_or_pos w with hw0 | hw0
  ·have hm1 := (hnw.1 hw0).1
   refine' y2556
   (refine' ⟨(-1 : Int), _, _, _⟩; rotate_right; (refine SubA.auto rfl rfl rfl rfl ?_ ?_ <;> refine' fin_); rotate_right; exact ar2_)
   refine ⟨by omega, by omega, fun _ h => ?_, fun h => by omega⟩
   have h1 := hw4.1 h
   have := Anc.le hp.dn h1 hw
   omega
  ·have hm1 := (hnw.2.1 hw0)
   refine' y2556
   (refine' ⟨ns[w].par, _, _, _⟩; rotate_right; (refine SubA.auto rfl rfl rfl rfl ?_ ?_ <;> refine' fin_); rotate_right; exact ar2_)
   refine ⟨by omega, by omega, fun _ h => by omega, fun h => hw4.trans ⟨fun h => ?_, fun h => .up hw0 (hpw ▸ h)⟩⟩
   rcases h with _ | ⟨_, h⟩
   ·omega
   ·exact hpw ▸ h
open Go.Abs
set_option maxRecDepth 100000
def dpF (ns : List Nd) : Nat -> Nat -> Nat
 | 0, _ => 0
 | k + 1, j => match j with
  | 0 => 0
  | i + 1 => dpF ns k (pf ns (i + 1)) + 1
def dep (ns : List Nd) (j : Nat) : Nat := dpF ns (j + 1) j
theorem dpF_fuel {ns : List Nd} (hp : Par ns) : ∀ (k k' j : Nat), j < ns.length -> j < k -> j < k' -> dpF ns k j = dpF ns k' j
 | 0, _, j, _, h, _ => by omega
 | _ + 1, 0, j, _, _, h => by omega
 | k + 1, k' + 1, j, hj, h1, h2 => by
  cases j with
  | zero => rfl
  | succ i =>
   have := (hp (i + 1) (by omega) hj).2
   simp only [dpF]
   rw [dpF_fuel hp k k' _ (by omega) (by omega) (by omega)]
theorem dep_zero (ns : List Nd) : dep ns 0 = 0 := rfl
theorem dep_succ {ns : List Nd} (hp : Par ns) {j : Nat} (h0 : 0 < j) (hj : j < ns.length) : dep ns j = dep ns (pf ns j) + 1 := by
 cases j with
 | zero => omega
 | succ i =>
  have := (hp (i + 1) (by omega) hj).2
  show dpF ns (i + 1) (pf ns (i + 1)) + 1 = dpF ns (pf ns (i + 1) + 1) (pf ns (i + 1)) + 1
  rw [dpF_fuel hp (i + 1) (pf ns (i + 1) + 1) _ (by omega) (by omega) (by omega)]
theorem dpF_le (ns : List Nd) : ∀ (k j : Nat), dpF ns k j <= k
 | 0, _ => by simp [dpF]
 | k + 1, j => by
  cases j with
  | zero => simp [dpF]
  | succ i => simp only [dpF]; have := dpF_le ns k (pf ns (i + 1)); omega
theorem depth_call (nl : Bool) (ns : List Nd) (hn : Nam ns) (hf : Few ns) (j : Nat) (hj : j < ns.length) : ACall Tryz.prog 53 [.p (.agg [.list nl (ns.map Nd.pv)]), .p (pI j)] [] fun r H => r = .p (pI (dep ns j)) /\ H = [] := by
 refine acall_enter Tryz.func53 rfl rfl tabOK rfl ?_
 have hl := hf.1
 have hp := hn.par
 have hdl : dep ns j <= j + 1 := dpF_le ns _ _
 refine' y2556
 refine loop_rule (fun (⟨w, n⟩ : Nat × Nat) => ⟨[(1, .p (pI w)), (2, .rptr [.list nl (ns.map Nd.pv)]), (5, .p (pI n))], []⟩) (fun ⟨w, n⟩ => w < ns.length /\ n + dep ns w = dep ns j) (fun ⟨w, n⟩ => w) (j, 0) ?_ ?_ ?_; (refine SubA.ret _ 2 0 [.list nl (ns.map Nd.pv)] rfl rfl ?_; refine SubA.auto rfl rfl rfl rfl ?_ ?_ <;> refine' fin_)
 ·exact ⟨hj, by simp⟩
 rintro ⟨w, n⟩ ⟨hw, hd⟩
 try simp only at hw hd
 rcases Nat.eq_zero_or_pos w with h0 | h0
 ·have : n = dep ns j := by have := dep_zero ns; rw [h0] at hd; omega
  refine' y2556
  (refine' RetK.auto (.p (pI n)) ([]) rfl rfl rfl rfl _ _ _ <;> refine' fin_)
 ·have h1 := dep_succ hp h0 hw
  have h2 := (hn w hw).2.1 h0
  have h3 := pf_at hw
  refine' y2556
  (refine' ⟨(ns[w].par.toNat, n + 1), _, _, _⟩; rotate_right; (refine SubA.auto rfl rfl rfl rfl ?_ ?_ <;> refine' fin_); rotate_right; exact ar2_)
  show _ /\ _
  rw [h3] at h1
  exact ⟨by omega, by omega⟩
def Dis (ns : List Nd) : Prop := ∀ i j (hi : i < j) (hj : j < ns.length), ¬ (ns[i].nm = ns[j].nm /\ ns[i].par = ns[j].par)
def Lim (ns : List Nd) : Prop := 0 < ns.length /\ ns.length <= 120 /\ ∀ n ∈ ns, n.ps.length <= 24 /\ ∀ p ∈ n.ps, p.2.size <= 256
structure Val (ns : List Nd) : Prop where
 lim : Lim ns
 nam : Nam ns
 wk : Wk ns
 dis : Dis ns
 dep : ∀ j, j < ns.length -> dep ns j <= 8
def chE (ns : List Nd) : List (Value × Value) := ns.map fun n => (aggV [pS n.nm, pI n.par], .bool true)
theorem aggV_inj {a b : ByteArray} {x y : Int} (h : aggV [pS a, pI x] = aggV [pS b, pI y]) : a = b /\ x = y := by
 simp only [aggV, valsV, pS, pI] at h
 injection h with h
 have h := congrArg Array.toList h
 simp at h
 exact h
theorem ch_key {ns : List Nd} (cs : List PV) (n : Nd) (hcs : cs = [pS n.nm, pI n.par]) : ∀ e ∈ chE ns, SKey ti [(9, 0), (3, 1)] cs e.1 := by
 subst hcs
 intro e he
 obtain ⟨m, hm, rfl⟩ := List.mem_map.1 he
 refine ⟨[pS m.nm, pI m.par], (n.nm.toList == m.nm.toList) && (n.par == m.par && true), rfl, rfl, rfl, ?_⟩
 rw [seqS]
 simp only [Bool.and_true, Bool.and_eq_true, decide_eq_true_eq, beq_iff_eq]
 constructor
 ·rintro ⟨h1, h2⟩
  rw [h1, h2]
 ·intro h
  have := aggV_inj h
  exact ⟨this.1.symm, this.2.symm⟩
theorem ch_look (ns : List Nd) {c : Nat} (hc : c < ns.length) : ((∃ i, ∃ h : i < c, ns[i].nm = ns[c].nm /\ ns[i].par = ns[c].par) /\ HasK (aggV [pS ns[c].nm, pI ns[c].par]) (chE (ns.take c)) (some (.bool true))) \/ ((∀ i (h : i < c), ¬ (ns[i].nm = ns[c].nm /\ ns[i].par = ns[c].par)) /\ HasK (aggV [pS ns[c].nm, pI ns[c].par]) (chE (ns.take c)) none) := by
 by_cases hx : ∃ i, ∃ h : i < c, ns[i].nm = ns[c].nm /\ ns[i].par = ns[c].par
 ·refine .inl ⟨hx, ?_⟩
  obtain ⟨i, hi, h1, h2⟩ := hx
  refine ⟨⟨_, List.mem_map_of_mem (f := fun n : Nd => (aggV [pS n.nm, pI n.par], Value.bool true)) (List.getElem_mem (l := ns.take c) (n := i) (by simp; omega)), ?_⟩, fun e he _ => ?_⟩
  ·simp only [List.getElem_take]
   rw [h1, h2]
  ·obtain ⟨m, hm, rfl⟩ := List.mem_map.1 he
   rfl
 ·refine .inr ⟨fun i hi h => hx ⟨i, hi, h⟩, fun e he hk => ?_⟩
  obtain ⟨m, hm, rfl⟩ := List.mem_map.1 he
  obtain ⟨j, hj, rfl⟩ := List.getElem_of_mem hm
  simp at hj
  rw [List.getElem_take] at hk
  exact hx ⟨j, by omega, aggV_inj hk⟩
theorem Check_call (nl : Bool) (ns : List Nd) (hs : Sm ns) (hf : Few ns) : ACall Tryz.prog 19 [.p (.agg [.list nl (ns.map Nd.pv)])] [] fun r H => (∃ e : Int, r = .p (pI e) /\ (e = 0 ↔ Val ns) /\ e ≠ 4 /\ e ≠ 8) /\ H = [] := by
 refine acall_enter Tryz.func19 rfl rfl tabOK rfl ?_
 have hl := hf.1
 have no : ∀ e : Int, e = 1 \/ e = 2 \/ e = 3 \/ e = 5 \/ e = 12 -> ¬ Val ns -> ∃ e', AV.p (pI e) = .p (pI e') /\ (e' = 0 ↔ Val ns) /\ e' ≠ 4 /\ e' ≠ 8 := fun e he h => ⟨e, rfl, ⟨fun h0 => by omega, fun k => absurd k h⟩, by omega, by omega⟩
 by_cases hz0 : 0 < ns.length
 rotate_left
 ·refine' y2556
  (refine' RetK.auto (.p (pI 3)) ([]) rfl rfl rfl rfl _ _ _ <;> refine' fin_)
  exact no 3 (by omega) fun h => hz0 h.lim.1
 by_cases h120 : ns.length <= 120
 rotate_left
 ·refine' y2556
  (refine' RetK.auto (.p (pI 3)) ([]) rfl rfl rfl rfl _ _ _ <;> refine' fin_)
  exact no 3 (by omega) fun h => h120 h.lim.2.1
 refine' y2556
 refine loop_rule (fun (c : Nat) => ⟨[(1, .rptr [.list nl (ns.map Nd.pv)]), (21, .p (.list nl (ns.map Nd.pv))), (22, .p (pI ns.length)), (23, .p (pI c))], []⟩) (fun c => c <= ns.length /\ ∀ i (h : i < ns.length), i < c -> ns[i].ps.length <= 24 /\ ∀ p ∈ ns[i].ps, p.2.size <= 256) (fun c => ns.length - c) 0 ?_ ?_ ?_; (refine SubA.ret _ 1 0 [.list nl (ns.map Nd.pv)] rfl rfl ?_; refine SubA.auto rfl rfl rfl rfl ?_ ?_ <;> refine' fin_)
 ·exact ⟨by omega, fun i _ h => by omega⟩
 rintro c ⟨hc, hall⟩
 rcases Nat.lt_or_ge c ns.length with hlt | hge
 ·have hfx := hf.2 ns[c] (List.getElem_mem hlt)
  by_cases h24 : ns[c].ps.length <= 24
  rotate_left
  ·refine' y2556
   (refine' RetK.auto (.p (pI 3)) ([]) rfl rfl rfl rfl _ _ _ <;> refine' fin_)
   exact no 3 (by omega) fun h => h24 (h.lim.2.2 _ (List.getElem_mem hlt)).1
  have hB := big_contains ns[c].nl ns[c].ps
  generalize hb : (ns[c].ps.any fun x => decide (256 < x.2.size)) = B at hB
  cases B with
  | true =>
   (conv => whnf); repeat' ((first | refine' z2556 | (refine CallA.scalar (hB) ?_)) <;> (conv => whnf))
   (refine' RetK.auto (.p (pI 3)) ([]) rfl rfl rfl rfl _ _ _ <;> refine' fin_)
   refine no 3 (by omega) fun h => ?_
   obtain ⟨p, hp, hx⟩ := List.any_eq_true.1 hb
   have := (h.lim.2.2 _ (List.getElem_mem hlt)).2 p hp
   have := of_decide_eq_true hx
   omega
  | false =>
   (conv => whnf); repeat' ((first | refine' z2556 | (refine CallA.scalar (hB) ?_)) <;> (conv => whnf))
   (refine' ⟨c + 1, _, _, _⟩; rotate_right; (refine SubA.auto rfl rfl rfl rfl ?_ ?_ <;> refine' fin_); rotate_right; exact ar2_)
   refine ⟨by omega, fun i hi hic => ?_⟩
   rcases Nat.lt_or_ge i c with h | h
   ·exact hall i hi h
   ·have : i = c := by omega
    subst this
    refine ⟨h24, fun p hp => ?_⟩
    have := of_decide_eq_false (Bool.eq_false_iff.2 (List.any_eq_false.1 hb p hp))
    omega
 have hlim : Lim ns := ⟨hz0, h120, fun n hn => by
  obtain ⟨i, hi, rfl⟩ := List.getElem_of_mem hn
  exact hall i hi (by omega)⟩
 refine' y2556
 refine CallA.loc [] [] rfl rfl ((named_call nl ns hs hf).mono ?_)
 rintro _ _ ⟨⟨b, rfl, hb⟩, rfl⟩
 cases b with
 | false =>
  refine' y2556
  (refine' RetK.auto (.p (pI 1)) ([]) rfl rfl rfl rfl _ _ _ <;> refine' fin_)
  exact no 1 (by omega) fun h => by have := hb.2 h.nam; cases this
 | true =>
 have hn : Nam ns := hb.1 rfl
 refine' y2556
 refine CallA.loc [] [] rfl rfl ((walked_call nl ns hn hf).mono ?_)
 rintro _ _ ⟨⟨b2, rfl, hb2⟩, rfl⟩
 cases b2 with
 | false =>
  refine' y2556
  (refine' RetK.auto (.p (pI 12)) ([]) rfl rfl rfl rfl _ _ _ <;> refine' fin_)
  exact no 12 (by omega) fun h => by have := hb2.2 h.wk; cases this
 | true =>
 have hw : Wk ns := hb2.1 rfl
 refine' y2556
 refine loop_rule (fun (c : Nat) => ⟨[(1, .rptr [.list nl (ns.map Nd.pv)]), (5, .mp 0), (45, .p (.list nl (ns.map Nd.pv))), (46, .p (pI ns.length)), (47, .p (pI c))], [some (AO.map (chE (ns.take c)))]⟩) (fun c => c <= ns.length /\ ∀ i j (hi : i < j) (hj : j < ns.length), j < c -> ¬ (ns[i].nm = ns[j].nm /\ ns[i].par = ns[j].par)) (fun c => ns.length - c) 0 ?_ ?_ ?_; (refine SubA.auto rfl rfl rfl rfl ?_ ?_ <;> refine' fin_)
 ·exact ⟨by omega, fun i j _ _ h => by omega⟩
 rintro c ⟨hc, hdis⟩
 rcases Nat.lt_or_ge c ns.length with hlt | hge2
 ·have hk := ch_key (ns := ns.take c) _ ns[c] rfl
  have e2 : chE (ns.take (c + 1)) = chE (ns.take c) ++ [(aggV [pS ns[c].nm, pI ns[c].par], .bool true)] := by
   rw [chE, List.take_succ_eq_append_getElem hlt, List.map_append]
   rfl
  rcases ch_look ns hlt with ⟨⟨i, hi, hd⟩, hn⟩ | ⟨hd, hn⟩
  ·have hc0 : 0 < c := by omega
   (conv => whnf); repeat' ((first | (refine LookS.mk _ _ rfl rfl hk hn ?_) | refine' z2556 | fail) <;> (conv => whnf))
   (refine' RetK.auto (.p (pI 5)) ([]) rfl rfl rfl rfl _ _ _ <;> refine' fin_)
   exact no 5 (by omega) fun h => h.dis i c hi hlt hd
  ·rcases Nat.eq_zero_or_pos c with hc0 | hc0
   ·(conv => whnf); repeat' ((first | (refine LookS.mk none _ rfl rfl hk hn ?_) | refine' z2556 | fail) <;> (conv => whnf))
    rw [<- e2]
    (refine' ⟨c + 1, _, _, _⟩; rotate_right; (refine SubA.auto rfl rfl rfl rfl ?_ ?_ <;> refine' fin_); rotate_right; exact ar2_)
    exact ⟨by omega, fun i j hi hj h => by omega⟩
   ·(conv => whnf); repeat' ((first | (refine LookS.mk none _ rfl rfl hk hn ?_) | refine' z2556 | fail) <;> (conv => whnf))
    rw [<- e2]
    (refine' ⟨c + 1, _, _, _⟩; rotate_right; (refine SubA.auto rfl rfl rfl rfl ?_ ?_ <;> refine' fin_); rotate_right; exact ar2_)
    refine ⟨by omega, fun i j hi hj h => ?_⟩
    rcases Nat.lt_or_ge j c with h1 | h1
    ·exact hdis i j hi hj h1
    ·have : j = c := by omega
     subst this
     exact hd i hi
 have hDis : Dis ns := fun i j hi hj => hdis i j hi hj (by omega)
 refine' y2556
 refine loop_rule (fun (c : Nat) => ⟨[(1, .rptr [.list nl (ns.map Nd.pv)]), (69, .p (pI ns.length)), (70, .p (pI c))], []⟩) (fun c => c <= ns.length /\ ∀ j, j < c -> dep ns j <= 8) (fun c => ns.length - c) 0 ?_ ?_ ?_; (refine SubA.auto rfl rfl rfl rfl ?_ ?_ <;> refine' fin_)
 ·exact ⟨by omega, fun j h => by omega⟩
 rintro c ⟨hc, hdp⟩
 rcases Nat.lt_or_ge c ns.length with hlt | hge3
 ·have hD := depth_call nl ns hn hf c hlt
  by_cases h8 : dep ns c <= 8
  rotate_left
  ·(conv => whnf); repeat' ((first | refine' z2556 | (refine CallA.scalar (hD) ?_)) <;> (conv => whnf))
   (refine' RetK.auto (.p (pI 2)) ([]) rfl rfl rfl rfl _ _ _ <;> refine' fin_)
   exact no 2 (by omega) fun h => h8 (h.dep c hlt)
  ·(conv => whnf); repeat' ((first | refine' z2556 | (refine CallA.scalar (hD) ?_)) <;> (conv => whnf))
   (refine' ⟨c + 1, _, _, _⟩; rotate_right; (refine SubA.auto rfl rfl rfl rfl ?_ ?_ <;> refine' fin_); rotate_right; exact ar2_)
   refine ⟨by omega, fun j hj => ?_⟩
   rcases Nat.lt_or_ge j c with h1 | h1
   ·exact hdp j h1
   ·have : j = c := by omega
    subst this; exact h8
 ·refine' y2556
  (refine' RetK.auto (.p (pI 0)) ([]) rfl rfl rfl rfl _ _ _ <;> refine' fin_)
  exact ⟨0, rfl, ⟨fun _ => ⟨hlim, hn, hw, hDis, fun j hj => hdp j (by omega)⟩, fun _ => rfl⟩, by omega, by omega⟩
open Go.Abs
set_option maxRecDepth 100000
theorem ble_trans {a b c : ByteArray} (h : bless b a = false) (k : bless c b = false) : bless c a = false := by
 cases e : bless c a with
 | false => rfl
 | true =>
  cases f : bless a b with
  | true => rw [bless_trans e f] at k; cases k
  | false => have := bless_total f h; subst this; rw [e] at k; cases k
theorem lastF_ge {ns : List Nd} (hw : Wk ns) {u i : Nat} (hi : 0 < i) (hu : pf ns i = u) : ∀ (j : Nat), i < j -> j <= ns.length -> bless (lastF ns j u) (nmf ns i) = false
 | 0, h, _ => by omega
 | j + 1, h, hj => by
  unfold lastF
  by_cases hc : 0 < j /\ pf ns j = u
  ·rw [decide_eq_true hc]
   show bless (nmf ns j) (nmf ns i) = false
   rcases Nat.lt_or_ge i j with h1 | h1
   ·have h2 := lastF_ge hw hi hu j h1 (by omega)
    have h3 := ((hw j (by omega)).2 hc.1).2
    rw [hc.2] at h3
    exact ble_trans h2 h3
   ·rw [show i = j by omega]; exact bless_irrefl _
  ·rw [decide_eq_false hc]
   show bless (lastF ns j u) (nmf ns i) = false
   rcases Nat.lt_or_ge i j with h1 | h1
   ·exact lastF_ge hw hi hu j h1 (by omega)
   ·exact absurd ⟨by omega, by rw [show j = i by omega]; exact hu⟩ hc
theorem Val.par {ns : List Nd} (h : Val ns) : Par ns := h.nam.par
theorem Val.pre {ns : List Nd} (h : Val ns) : Pre ns := fun j h0 hj => ((h.wk j hj).2 h0).1
theorem Nam.par_eq {ns : List Nd} (h : Nam ns) {i j : Nat} (hi0 : 0 < i) (hj0 : 0 < j) (hi : i < ns.length) (hj : j < ns.length) (he : pf ns i = pf ns j) : ns[i].par = ns[j].par := by
 have h1 := (h i hi).2.1 hi0
 have h2 := (h j hj).2.1 hj0
 rw [pf_at hi, pf_at hj] at he
 omega
theorem Val.asc {ns : List Nd} (h : Val ns) : Asc ns := by
 intro i j hi hij hj hp
 have h1 := lastF_ge h.wk hi hp j hij (by omega)
 have h2 := ((h.wk j hj).2 (by omega)).2
 have h3 := ble_trans h1 h2
 cases e : bless (nmf ns i) (nmf ns j) with
 | true => rfl
 | false =>
  have h4 := bless_total e h3
  rw [nmf_at (by omega : i < ns.length), nmf_at hj] at h4
  exact absurd ⟨h4, h.nam.par_eq hi (by omega) (by omega) hj hp⟩ (h.dis i j hij hj)
theorem Val.sib {ns : List Nd} (h : Val ns) : Sib ns := h.asc.sib
theorem nameOK_nosl {s : ByteArray} (h : nameOK s = true) : NoSl s /\ s ≠ ByteArray.empty := by
 have h := of_decide_eq_true h
 refine ⟨fun hm => ?_, fun he => ?_⟩
 ·obtain ⟨i, hi, hb⟩ := mem_bAt.1 hm
  have := h.2.2.2 i hi
  rw [hb] at this
  revert this; decide
 ·have := h.1; rw [he] at this; revert this; decide
theorem Nam.nsl {ns : List Nd} (h : Nam ns) : NSl ns := fun j h0 hj => by
 rw [nmf_at hj]
 exact nameOK_nosl ((h j hj).2.1 h0).2.2
theorem Val.inj {ns : List Nd} (h : Val ns) {i j : Nat} (hi : i < ns.length) (hj : j < ns.length) (he : pathOf ns i = pathOf ns j) : i = j := pathOf_inj h.par h.sib h.nam.nsl hi hj he
theorem Val.len {ns : List Nd} (h : Val ns) : 0 < ns.length /\ ns.length <= 120 := ⟨h.lim.1, h.lim.2.1⟩
theorem propOK_size {s : ByteArray} (h : propOK s = true) : s.size <= 31 := (of_decide_eq_true h).2.1
theorem Val.sm {ns : List Nd} (h : Val ns) : Sm ns := fun n hn p hp => by
 obtain ⟨i, hi, rfl⟩ := List.getElem_of_mem hn
 have := propOK_size ((h.nam i hi).2.2 p hp)
 omega
theorem Val.few {ns : List Nd} (h : Val ns) : Few ns := ⟨by have := h.len; omega, fun n hn => by have := (h.lim.2.2 n hn).1; omega⟩
theorem nameOK_size {s : ByteArray} (h : nameOK s = true) : s.size <= 31 := (of_decide_eq_true h).2.1
theorem app_size (a b : ByteArray) : (a ++ b).size = a.size + b.size := by simp
theorem pthF_size {ns : List Nd} (hn : Nam ns) : ∀ (k j : Nat), j < ns.length -> (pthF ns k j).size <= 32 * k
 | 0, _, _ => by simp [pthF]
 | k + 1, j, hj => by
  cases j with
  | zero => simp [pthF]
  | succ i =>
   simp only [pthF]
   have h1 := (hn.par (i + 1) (by omega) hj).2
   have h2 := pthF_size hn k (pf ns (i + 1)) (by omega)
   have h3 := nameOK_size ((hn (i + 1) hj).2.1 (by omega)).2.2
   rw [app_size, app_size, nmf_at hj]
   have : slS.size = 1 := rfl
   omega
theorem path_call (nl : Bool) (ns : List Nd) (hn : Nam ns) (hf : Few ns) (j : Nat) (hj : j < ns.length) : ACall Tryz.prog 107 [.p (.agg [.list nl (ns.map Nd.pv)]), .p (pI j)] [] fun r H => r = .p (pS (pathOf ns j)) /\ H = [] := by
 refine acall_enter Tryz.func107 rfl rfl tabOK rfl ?_
 have hl := hf.1
 have hp := hn.par
 rcases Nat.eq_zero_or_pos j with hz | hz
 ·subst hz
  refine' y2556
  (refine' RetK.auto (.p (pS slS)) ([]) rfl rfl rfl rfl _ _ _ <;> refine' fin_)
 refine' y2556
 refine loop_rule (fun (⟨w, s⟩ : Nat × ByteArray) => ⟨[(1, .p (pI w)), (2, .rptr [.list nl (ns.map Nd.pv)]), (5, .p (pS s))], []⟩) (fun ⟨w, s⟩ => w < ns.length /\ pth ns w ++ s = pth ns j) (fun ⟨w, s⟩ => w) (j, ByteArray.empty) ?_ ?_ ?_; (refine SubA.ret _ 2 0 [.list nl (ns.map Nd.pv)] rfl rfl ?_; refine SubA.auto rfl rfl rfl rfl ?_ ?_ <;> refine' fin_)
 ·exact ⟨hj, ba_ext (by simp [app_list])⟩
 rintro ⟨w, s⟩ ⟨hw, hd⟩
 try simp only at hw hd
 rcases Nat.eq_zero_or_pos w with h0 | h0
 ·have : s = pathOf ns j := by
   rw [pathOf_pos hz, <- hd, h0, pth_zero]
   exact ba_ext (by simp [app_list])
  refine' y2556
  (refine' RetK.auto (.p (pS s)) ([]) rfl rfl rfl rfl _ _ _ <;> refine' fin_)
  rw [this]
 ·have h1 := pth_succ hp h0 hw
  have h2 := (hn w hw).2.1 h0
  have h3 := pf_at hw
  have h4 := nmf_at hw
  have h5 := nameOK_size h2.2.2
  have h6 := pthF_size hn (j + 1) j hj
  have h7 := app_size (pth ns w) s
  rw [hd] at h7
  have h8 : (pth ns j).size <= 32 * (j + 1) := h6
  have h9 : (⟨#[47]⟩ : ByteArray).size = 1 := rfl
  have hx : (⟨#[47]⟩ : ByteArray).size + ns[w].nm.size <= 9223372036854775807 := by omega
  have hy : ((⟨#[47]⟩ : ByteArray) ++ ns[w].nm).size + s.size <= 9223372036854775807 := by rw [app_size]; omega
  (conv => whnf); repeat' ((first | (refine StrA.mk hx ?_) | (refine StrA.mk hy ?_) | refine' z2556 | fail) <;> (conv => whnf))
  (refine' ⟨(ns[w].par.toNat, (slS ++ ns[w].nm) ++ s), _, _, _⟩; rotate_right; (refine SubA.auto rfl rfl rfl rfl ?_ ?_ <;> refine' fin_); rotate_right; exact ar2_)
  show _ /\ _
  refine ⟨by omega, ?_⟩
  rw [<- hd, h1, h3, h4]
  exact ba_ext (by simp [app_list])
theorem find_call (nl : Bool) (ns : List Nd) (hn : Nam ns) (hf : Few ns) (s : ByteArray) : ACall Tryz.prog 62 [.p (.agg [.list nl (ns.map Nd.pv)]), .p (pS s)] [] fun r H => (∃ (k : Nat) (b : Bool), r = .tup [.p (pI k), .p (pB b)] /\ (b = true -> ∃ h : k < ns.length, pathOf ns k = s) /\ (b = false -> k = 0 /\ ∀ j, j < ns.length -> pathOf ns j ≠ s)) /\ H = [] := by
 refine acall_enter Tryz.func62 rfl rfl tabOK rfl ?_
 have hl := hf.1
 refine' y2556
 refine loop_rule (fun (c : Nat) => ⟨[(1, .p (pS s)), (2, .rptr [.list nl (ns.map Nd.pv)]), (9, .p (pI ns.length)), (10, .p (pI c))], []⟩) (fun c => c <= ns.length /\ ∀ j, j < c -> pathOf ns j ≠ s) (fun c => ns.length - c) 0 ?_ ?_ ?_; (refine SubA.ret _ 2 0 [.list nl (ns.map Nd.pv)] rfl rfl ?_; refine SubA.auto rfl rfl rfl rfl ?_ ?_ <;> refine' fin_)
 ·exact ⟨by omega, fun j h => by omega⟩
 rintro c ⟨hc, hall⟩
 rcases Nat.lt_or_ge c ns.length with hlt | hge
 ·have hP := path_call nl ns hn hf c hlt
  have hq := seqS (pathOf ns c) s
  by_cases he : pathOf ns c = s
  ·rw [decide_eq_true he] at hq
   (conv => whnf); repeat' ((first | refine' z2556 | (refine CallA.scalar (hP) ?_)) <;> (conv => whnf))
   (refine' RetK.auto (.tup [.p (pI c), .p (pB true)]) ([]) rfl rfl rfl rfl _ _ _ <;> refine' fin_)
   exact ⟨c, true, rfl, fun _ => ⟨hlt, he⟩, fun h => by cases h⟩
  ·rw [decide_eq_false he] at hq
   (conv => whnf); repeat' ((first | refine' z2556 | (refine CallA.scalar (hP) ?_)) <;> (conv => whnf))
   (refine' ⟨c + 1, _, _, _⟩; rotate_right; (refine SubA.auto rfl rfl rfl rfl ?_ ?_ <;> refine' fin_); rotate_right; exact ar2_)
   refine ⟨by omega, fun j hj => ?_⟩
   rcases Nat.lt_or_ge j c with h1 | h1
   ·exact hall j h1
   ·have : j = c := by omega
    subst this; exact he
 ·refine' y2556
  (refine' RetK.auto (.tup [.p (pI 0), .p (pB false)]) ([]) rfl rfl rfl rfl _ _ _ <;> refine' fin_)
  exact ⟨0, false, rfl, fun h => (by cases h), fun _ => ⟨rfl, fun j hj => hall j (by omega)⟩⟩
end Go.Proofs.YtnhifaofkndclaaGreatDoor
