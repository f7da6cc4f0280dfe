/- Whatever the list of numbers, TopSupplies returns true, and its argument reads as it did; its package variables are tied to the program's text. Part 3 of 9. -/
import Derived.Test.YtaocnijlcgohnaaGreatDoorM2
import Derived.OrdersHeld
import Derived.OrdersIn
import Derived.ControlIn
import Derived.Scope
import Derived.RangeFuncFrom
import Derived.RangeFuncLeaves
import Derived.TacticsIn
import Derived.KernelRfl
import Derived.ProofKit
import Derived.Test.YtaocnijlcgohnaaGreatDoorChecked
set_option linter.unusedVariables false
set_option linter.unusedSimpArgs false
namespace Go.Abs
open Go.RowKit
inductive OpK where
 | quiet
 | eff
 | call
def n0 : Op -> OpK
 | .alloc _ => .eff
 | .box _ _ => .eff
 | .makeSlice _ _ _ => .eff
 | .buildSlice _ _ _ => .eff
 | .store _ _ _ => .eff
 | .lookup _ _ _ _ => .eff
 | .makeMap _ _ => .eff
 | .mapUpdate _ _ _ _ => .eff
 | .insert _ _ _ _ => .eff
 | .convert _ _ _ => .eff
 | .slice _ _ _ _ _ => .eff
 | .call c => match c.callee with
  | .builtin .append => .eff
  | .builtin .copy => .eff
  | .builtin .clear => .eff
  | .value _ => .call
  | _ => .quiet
 | _ => .quiet
def frc (v : AV) (k : AV -> Prop) : Prop := match v with
 | .p x => k (.p x)
 | .ptr id off => k (.ptr id off)
 | .bN id off => k (.bN id off)
 | .buf id => k (.buf id)
 | .sub id lo hi => k (.sub id lo hi)
 | .bp id ix off => k (.bp id ix off)
 | .aN cs => k (.aN cs)
 | .agg cs => k (.agg cs)
 | .tup xs => k (.tup xs)
 | .clo fn caps => k (.clo fn caps)
 | .mp id => k (.mp id)
 | .cap nl xs => k (.cap nl xs)
 | .dead => k .dead
theorem eL (v : AV) (k : AV -> Prop) : frc v k = k v := by cases v <;> rfl
def zV : List AV -> (List AV -> Prop) -> Prop
 | [], k => k []
 | x :: r, k => frc x fun x => zV r fun r => k (x :: r)
theorem rn : ∀ (l : List AV) (k : List AV -> Prop), zV l k = k l
 | [], _ => rfl
 | x :: r, k => by simp only [zV, eL, rn r]
def DS (o : Option AO) (k : Option AO -> Prop) : Prop := match o with
 | none => k none
 | some (.cells cs) => zV cs fun cs => k (some (.cells cs))
 | some (.buf e nl xs) => k (some (.buf e nl xs))
 | some (.frz nl xs) => k (some (.frz nl xs))
 | some (.map ks) => k (some (.map ks))
 | some (.arr xs) => k (some (.arr xs))
 | some (.bn e xs l) => zV l fun l => k (some (.bn e xs l))
theorem Bj (o : Option AO) (k : Option AO -> Prop) : DS o k = k o := by
 rcases o with _ | o
 ·rfl
 ·cases o with
  | cells cs => exact rn cs _
  | buf => rfl
  | frz => rfl
  | map => rfl
  | arr => rfl
  | bn e xs l => exact rn l _
def zW : AH -> (AH -> Prop) -> Prop
 | [], k => k []
 | o :: r, k => DS o fun o => zW r fun r => k (o :: r)
theorem cZ : ∀ (H : AH) (k : AH -> Prop), zW H k = k H
 | [], _ => rfl
 | o :: r, k => by simp only [zW, Bj, cZ r]
def oE (σ : AS) : List Operand -> (List AV -> Prop) -> Prop
 | [], k => k []
 | x :: r, k => frc (σ.ev x) fun v => oE σ r fun l => k (v :: l)
theorem di (σ : AS) : ∀ (l : List Operand) (k : List AV -> Prop), oE σ l k = k (l.map σ.ev)
 | [], k => rfl
 | x :: r, k => by simp only [oE, eL, di σ r, List.map_cons]
def gK (P : Program) (σ : AS) (H : AH) (op : Op) (k : AV -> AH -> Prop) : Prop := match op with
 | .call c => match c.callee with
  | .value f => match σ.ev f with
   | .clo (.func g) caps => oE σ c.args.toList fun l => ab P g (l ++ caps) H k
   | _ => False
  | _ => False
 | _ => False
def wpOp (P : Program) (ti : TypeId -> Option TI) (fr : Nat -> AV) (H : AH) (op : Op) (k : AV -> AH -> Prop) : Prop := match n0 op with
 | .quiet => wpQ ti ⟨fr, H⟩ op fun av => k av H
 | .eff => wpE ti ⟨fr, H⟩ H op k
 | .call => gK P ⟨fr, H⟩ H op k
def aM (fr : Nat -> AV) (d : Nat) (v : AV) : Nat -> AV := fun s => match Nat.beq s d with
 | true => v
 | false => fr s
def bG (nt : Nat) (dst : Option Tmp) (fr : Nat -> AV) (h : AH) (v : AV) (k : AS -> Prop) : Prop := match dst with
 | none => zW h fun h => k ⟨fr, h⟩
 | some d => match Nat.blt d nt with
  | true => frc v fun v => zW h fun h => k ⟨aM fr d v, h⟩
  | false => False
def bM (ops : List Oper) (g : Option (Nat × Bool)) (fr : Nat -> AV) (yes no : (Nat -> AV) -> Prop) : Prop := match g with
 | none => yes fr
 | some (j, want) => match ops[j]? with
  | some oj => match oj.dst with
   | some d => match fr d with
    | .p (.v (.bool b)) => match want with
     | true => br b (yes (aM fr d (.p (.v (.bool true))))) (no (aM fr d (.p (.v (.bool false)))))
     | false => br b (no (aM fr d (.p (.v (.bool true))))) (yes (aM fr d (.p (.v (.bool false)))))
    | .tup [] => no fr
    | _ => False
   | none => False
  | none => False
def wpOps (P : Program) (ti : TypeId -> Option TI) (nt : Nat) (ops : List Oper) : List Oper -> (AS -> Prop) -> AS -> Prop
 | [], K, σ => K σ
 | o :: rest, K, ⟨fr, H⟩ => bM ops o.guard fr
   (fun fr => wpOp P ti fr H o.op fun v H' => bG nt o.dst fr H' v (wpOps P ti nt ops rest K))
   (fun fr => bG nt o.dst fr H (.tup []) (wpOps P ti nt ops rest K))
def kj (b : Nat) : Deferred := { target := .collected b, args := #[] }
def Marks (w0 w : World) (bs : List Nat) : Prop := bs.Nodup /\ ∀ b ∈ bs, w0.heap.size <= b /\ w.heap[b]? = some (.deferred (some []))
theorem Marks.stp {P : Program} {H H' : AH} {m m' : Nat -> Value} {S S' : Nat -> Prop} {w0 w w' : World} {bs : List Nat} (hp : Hp P H m S w) (h : Stp P H m S w H' m' S' w') (hm : Marks w0 w bs) : Marks w0 w' bs := by
 refine ⟨hm.1, fun b hb => ?_⟩
 obtain ⟨h1, h2⟩ := hm.2 b hb
 refine ⟨h1, (h.blk b (Array.getElem?_eq_some_iff.1 h2).1 fun ho => ?_).trans h2⟩
 obtain ⟨o, h3, h4⟩ := A1 hp ho
 rw [h2] at h3
 cases h3
 cases h4
theorem cE {P : Program} {H H' : AH} {m m' : Nat -> Value} {S S' : Nat -> Prop} {w0 w w' : World} {D ds : List Deferred} (hp : Hp P H m S w) (h : Stp P H m S w H' m' S' w') (hm : ∃ bs, ds = bs.map kj ++ D /\ Marks w0 w bs) : ∃ bs, ds = bs.map kj ++ D /\ Marks w0 w' bs :=
 let ⟨ms, h1, h2⟩ := hm
 ⟨ms, h1, h2.stp hp h⟩
theorem gX {w0 w : World} {D : List Deferred} : ∃ bs, D = bs.map kj ++ D /\ Marks w0 w bs := ⟨[], rfl, List.nodup_nil, fun b hb => by cases hb⟩
theorem zG {P : Program} {H H' : AH} {m m' : Nat -> Value} {S S' : Nat -> Prop} {w0 w w' : World} {D ds ds' : List Deferred} (hp : Hp P H m S w) (h : Stp P H m S w H' m' S' w') (hz : w0.heap.size <= w.heap.size)
  (h1 : ∃ bs, ds = bs.map kj ++ D /\ Marks w0 w bs) (h2 : ∃ bs, ds' = bs.map kj ++ ds /\ Marks w w' bs) : ∃ bs, ds' = bs.map kj ++ D /\ Marks w0 w' bs := by
 obtain ⟨bs, rfl, hm⟩ := h1
 obtain ⟨cs, rfl, hn⟩ := h2
 refine ⟨cs ++ bs, by simp, List.nodup_append.2 ⟨hn.1, hm.1, fun a ha b hb he => ?_⟩, fun b hb => ?_⟩
 ·subst he
  have h3 := (hn.2 a ha).1
  have h4 := (Array.getElem?_eq_some_iff.1 (hm.2 a hb).2).1
  omega
 ·rcases List.mem_append.1 hb with hb | hb
  ·exact ⟨Nat.le_trans hz (hn.2 b hb).1, (hn.2 b hb).2⟩
  ·exact (hm.stp hp h).2 b hb
structure Cn (P : Program) (nt : Nat) (D : List Deferred) (H0 : AH) (m0 : Nat -> Value) (S0 : Nat -> Prop) (w0 : World) (σ : AS) (m : Nat -> Value) (S : Nat -> Prop) (a : Act) (w : World) : Prop where
 stp : Stp P H0 m0 S0 w0 σ.h m S w
 fr : ∀ t, Rd P σ.h m S w (σ.fr t) (a.tmps.getD t undef)
 sz : a.tmps.size = nt
 nd : ∃ bs, a.defers = bs.map kj ++ D /\ Marks w0 w bs
section
variable {P : Program} {ti : TypeId -> Option TI} {nt : Nat} {D : List Deferred} {H0 : AH} {m0 : Nat -> Value} {S0 : Nat -> Prop} {w0 : World} {m : Nat -> Value} {S : Nat -> Prop} {w : World} {σ : AS} {a : Act}
theorem jl (hT : aK P ti) (hc : Cn P nt D H0 m0 S0 w0 σ m S a w) {o : Oper} {k : AV -> AH -> Prop} {next : Act -> World -> Prop} {Q : Exit -> Act -> World -> Prop} (h : wpOp P ti σ.fr σ.h o.op k)
  (hn : ∀ av H' m' S' v w', k av H' -> Stp P σ.h m S w H' m' S' w' -> Rd P H' m' S' w' av v -> next (a.put o.dst v) w') : o.wp P a w next Q := by
 unfold wpOp at h
 unfold Oper.wp
 split at h
 ·obtain ⟨av, v, h1, h2, h3⟩ := eg hT hc.stp.hp hc.fr h
  rw [h3 w (Ag.refl w), Oper.upon_value]
  exact hn _ _ _ _ _ _ h1 (Stp.refl hc.stp.hp) h2
 ·obtain ⟨av, H', m', S', v, w', h1, h2, h3, h4⟩ := pV hT hc.stp.hp hc.fr h
  rcases h2 with h2 | ⟨h2, rfl⟩
  ·rw [h2, Oper.upon_value]
   exact hn _ _ _ _ _ _ h1 h3 h4
  ·rw [h2, Oper.upon_skip]
   exact hn _ _ _ _ _ _ h1 h3 h4
 ·generalize ho : o.op = op at h
  unfold gK at h
  split at h
  ·rename_i c
   obtain ⟨callee, args, ats⟩ := c
   simp only at h
   split at h
   ·rename_i f
    split at h
    ·rename_i g caps hf
     rw [di] at h
     have hE := bZ (P := P) hc.stp.hp.glb hc.fr f
     rw [hf] at hE
     generalize hv : a.eval f = fv at hE
     cases hE with
     | clo _ _ vs hl hr =>
      have hargs : ∀ (j : Nat) (x : AV), (args.toList.map σ.ev ++ caps)[j]? = some x -> Rd P σ.h m S w x ((args.map a.eval ++ vs).getD j undef) := fun j x hj => by
       by_cases hlt : j < args.size
       ·rw [List.getElem?_append_left (by simpa using hlt)] at hj
        have := iH (P := P) hc.stp.hp.glb hc.fr args.toList j x hj
        have e : (args.map a.eval ++ vs).getD j undef = (args.toList.map a.eval).getD j undef := by
         simp [Array.getD_eq_getD_getElem?, Array.getElem?_append_left, hlt]
        rw [e]
        exact this
       ·rw [List.getElem?_append_right (by simpa using hlt)] at hj
        have := hr _ x hj
        have e : (args.map a.eval ++ vs).getD j undef = vs.getD (j - (args.toList.map σ.ev).length) undef := by
         simp only [Array.getD_eq_getD_getElem?]
         rw [Array.getElem?_append_right (by simp; omega)]
         simp
        rw [e]
        exact this
      rcases h.BU with ⟨v, hx, hk⟩ | h
      ·obtain ⟨u, hu, hrd⟩ := hx.run σ.h m S w (args.map a.eval ++ vs) hc.stp.hp (by simp [hl]) hargs
       have hrun : (execOp a.eval o).run P w = .ok (.value u) w := by
        simp only [execOp, ho, resolve, hv, Deferred.ofValue]
        simp only [Sem.run_bind, Sem.run_pure, Result.andThen_ok, invoke]
        simpa using hu
       rw [hrun, Oper.upon_value]
       exact hn _ _ _ _ _ _ hk (Stp.refl hc.stp.hp) hrd
      obtain ⟨fn, hfn, hbody, hname⟩ := h.enter
      have hbn : fn.body.isNone = false := by cases hb : fn.body with
       | none => rw [hb] at hbody; cases hbody
       | some c => rfl
      have hrun : (execOp a.eval o).run P w = .ok (.enter g (args.map a.eval ++ vs)) w := by
       simp only [execOp, ho, resolve, hv, Deferred.ofValue]
       simp only [Sem.run_bind, Sem.run_pure, Result.andThen_ok, invoke, callFunc, run_program, hfn, hname, hbn, Bool.false_eq_true, if_false]
       simp
      rw [hrun, Oper.upon_enter]
      refine (h.calls m S w (args.map a.eval ++ vs) hc.stp.hp (by simp [hl]) hargs).mono fun e w' ⟨v, r, H', m', S', he, hK, hs, hrd⟩ => ?_
      subst he
      exact hn _ _ _ _ _ _ hK hs hrd
    ·cases h
   ·cases h
  ·cases h
theorem qX {H' : AH} {m' : Nat -> Value} {S' : Nat -> Prop} {w' : World} {fr : Nat -> AV} (hf : ∀ t, Rd P H' m' S' w' (fr t) (a.tmps.getD t undef)) (hs : a.tmps.size = nt) {d : Nat} (hd : d < nt) {av : AV} {v : Value} (hv : Rd P H' m' S' w' av v) :
  ∀ t, Rd P H' m' S' w' (aM fr d av t) ((a.put (some d) v).tmps.getD t undef) := by
 intro t
 unfold aM
 split
 ·rename_i hb
  obtain rfl := Nat.eq_of_beq_eq_true hb
  have : (a.put (some t) v).tmps.getD t undef = v := by simp [Act.put, Array.getD_eq_getD_getElem?, hs, hd]
  rw [this]
  exact hv
 ·rename_i hb
  have hne : d ≠ t := fun e => by subst e; simp at hb
  have : (a.put (some d) v).tmps.getD t undef = a.tmps.getD t undef := by simp [Act.put, Array.getD_eq_getD_getElem?, hne]
  rw [this]
  exact hf t
theorem b_ {dst : Option Tmp} {h : AH} {v : AV} {k : AS -> Prop} {vv : Value} {m' : Nat -> Value} {S' : Nat -> Prop} {w' : World} (hc : Cn P nt D H0 m0 S0 w0 σ m S a w) (hs : Stp P σ.h m S w h m' S' w') (hv : Rd P h m' S' w' v vv) (hk : bG nt dst σ.fr h v k) :
  ∃ σ', k σ' /\ Cn P nt D H0 m0 S0 w0 σ' m' S' (a.put dst vv) w' := by
 have hf : ∀ t, Rd P h m' S' w' (σ.fr t) (a.tmps.getD t undef) := fun t => (hc.fr t).mono hs.keeps hs.sub hs.old
 unfold bG at hk
 split at hk
 ·rw [cZ] at hk
  exact ⟨_, hk, hc.stp.trans hs, hf, hc.sz, cE hc.stp.hp hs hc.nd⟩
 ·rename_i d
  split at hk
  ·rename_i hb
   rw [eL, cZ] at hk
   exact ⟨_, hk, hc.stp.trans hs, qX hf hc.sz (bU hb) hv, by simp [Act.put, hc.sz], cE hc.stp.hp hs hc.nd⟩
  ·cases hk
theorem Cn.setBool (hc : Cn P nt D H0 m0 S0 w0 σ m S a w) {d : Nat} {b : Bool} (hd : σ.fr d = .p (.v (.bool b))) : Cn P nt D H0 m0 S0 w0 ⟨aM σ.fr d (.p (.v (.bool b))), σ.h⟩ m S a w := by
 refine ⟨hc.stp, fun t => ?_, hc.sz, hc.nd⟩
 show Rd P σ.h m S w (aM σ.fr d (.p (.v (.bool b))) t) _
 unfold aM
 split
 ·rename_i hb
  obtain rfl := Nat.eq_of_beq_eq_true hb
  rw [<- hd]
  exact hc.fr t
 ·exact hc.fr t
theorem cu {H : AH} : Rd P H m S w (.tup []) undef := .tup [] #[] rfl (by simp)
theorem AW {H : AH} {v : Value} (h : Rd P H m S w (.tup []) v) : v = undef := by
 cases h with
 | tup _ vs hl => rw [Array.eq_empty_of_size_eq_zero hl]; rfl
theorem bz (hc : Cn P nt D H0 m0 S0 w0 σ m S a w) {ops : List Oper} {o : Oper} {yes no : (Nat -> AV) -> Prop} (h : bM ops o.guard σ.fr yes no) :
  (Region.wanted o (yielded ops.toArray a.tmps) = true /\ ∃ fr', yes fr' /\ Cn P nt D H0 m0 S0 w0 ⟨fr', σ.h⟩ m S a w) \/ (Region.wanted o (yielded ops.toArray a.tmps) = false /\ ∃ fr', no fr' /\ Cn P nt D H0 m0 S0 w0 ⟨fr', σ.h⟩ m S a w) := by
 unfold bM at h
 split at h
 ·rename_i hg
  exact .inl ⟨by simp [Region.wanted, hg], σ.fr, h, hc⟩
 ·rename_i j want hg
  split at h
  ·rename_i oj hj
   split at h
   ·rename_i d hd
    split at h
    ·rename_i b hb
     have h1 := hc.fr d
     rw [hb] at h1
     have hv := h1.pv.1
     have hy : yielded ops.toArray a.tmps j = some b := by
      have hlt : d < a.tmps.size := by
       rcases Nat.lt_or_ge d a.tmps.size with h | h
       ·exact h
       ·rw [show a.tmps.getD d undef = undef by simp [Array.getD_eq_getD_getElem?, Array.getElem?_eq_none h]] at hv
        cases hv
      have hsome : a.tmps[d]? = some (.bool b) := by
       rw [Array.getD_eq_getD_getElem?, Array.getElem?_eq_getElem hlt] at hv
       rw [Array.getElem?_eq_getElem hlt]
       simpa using hv
      simp [yielded, hj, hd, hsome]
     split at h
     ·cases b
      ·exact .inr ⟨by simp [Region.wanted, hg, hy], _, h, hc.setBool hb⟩
      ·exact .inl ⟨by simp [Region.wanted, hg, hy], _, h, hc.setBool hb⟩
     ·cases b
      ·exact .inl ⟨by simp [Region.wanted, hg, hy], _, h, hc.setBool hb⟩
      ·exact .inr ⟨by simp [Region.wanted, hg, hy], _, h, hc.setBool hb⟩
    ·rename_i hb
     have h1 := hc.fr d
     rw [hb] at h1
     have hv := AW h1
     have hy : yielded ops.toArray a.tmps j = none := by
      have hsome : a.tmps[d]? = none \/ a.tmps[d]? = some undef := by
       rw [Array.getD_eq_getD_getElem?] at hv
       cases ht : a.tmps[d]? with
       | none => exact .inl rfl
       | some u => rw [ht] at hv; exact .inr (congrArg some hv)
      rcases hsome with hs | hs <;> simp [yielded, hj, hd, hs, undef]
     exact .inr ⟨by simp [Region.wanted, hg, hy], _, h, hc⟩
    ·cases h
   ·cases h
  ·cases h
theorem eX (hT : aK P ti) {ops : List Oper} {Q : Exit -> Act -> World -> Prop} : ∀ (l : List Oper) (K : AS -> Prop) (σ : AS) (m : Nat -> Value) (S : Nat -> Prop) (a : Act) (w : World), Cn P nt D H0 m0 S0 w0 σ m S a w -> wpOps P ti nt ops l K σ ->
  (∀ σ' m' S' a' w', Cn P nt D H0 m0 S0 w0 σ' m' S' a' w' -> K σ' -> Q .normal a' w') -> wpList P ops.toArray Q l a w
 | [], K, σ, m, S, a, w, hc, h, hK => wpList_nil (hK _ _ _ _ _ hc h)
 | o :: l, K, ⟨fr, H⟩, m, S, a, w, hc, h, hK => by
  refine wpList_step fun K' hK' => ?_
  unfold wpOps at h
  rcases bz hc h with ⟨hw, σ', hy, hc'⟩ | ⟨hw, σ', hno, hc'⟩
  ·rw [if_pos hw]
   refine jl hT hc' hy fun av H' m' S' v w' hk hs hrd => hK' _ _ ?_
   obtain ⟨σ2, h2, hc2⟩ := b_ hc' hs hrd hk
   exact eX hT l K σ2 m' S' _ w' hc2 h2 hK
  ·rw [if_neg (by rw [hw]; simp)]
   refine hK' _ _ ?_
   obtain ⟨σ2, h2, hc2⟩ := b_ (vv := undef) hc' (Stp.refl hc'.stp.hp) cu hno
   exact eX hT l K σ2 m S _ w hc2 h2 hK
end
end Go.Abs
namespace Go.Abs
open Go.RowKit
section
variable {P : Program} {ti : TypeId -> Option TI} {f g : Nat -> AV} {H : AH}
def opsOf : Op -> List Operand
 | .call c => (match c.callee with
  | .value f => [f]
  | _ => []) ++ c.args.toList
 | op => op.operands.toList
def EvE (f g : Nat -> AV) (H : AH) (l : List Operand) : Prop := ∀ x ∈ l, AS.ev ⟨f, H⟩ x = AS.ev ⟨g, H⟩ x
theorem EvE.map {l : List Operand} (h : EvE f g H l) : l.map (AS.ev ⟨f, H⟩) = l.map (AS.ev ⟨g, H⟩) := List.map_congr_left h
theorem EvE.parts {l : List (Nat × Operand)} (h : EvE f g H (l.map (·.2))) : (l.map fun p => (p.1, AS.ev ⟨f, H⟩ p.2)) = l.map fun p => (p.1, AS.ev ⟨g, H⟩ p.2) :=
 List.map_congr_left fun p hp => by rw [h p.2 (List.mem_map.2 ⟨p, hp, rfl⟩)]
theorem EvE.opt {x : Option Operand} (h : EvE f g H x.toArray.toList) : x.map (AS.ev ⟨f, H⟩) = x.map (AS.ev ⟨g, H⟩) := by
 cases x with
 | none => rfl
 | some x => simp only [Option.map_some]; rw [h x (by simp)]
theorem pU {op : Op} (h : EvE f g H (opsOf op)) {k : AV -> Prop} (hq : wpQ ti ⟨f, H⟩ op k) : wpQ ti ⟨g, H⟩ op k := by
 unfold wpQ at hq ⊢
 cases op <;> simp only [opsOf, Op.operands] at h hq ⊢ <;> try exact hq
 case move x => rw [<- h x (by simp)]; exact hq
 case assign x => rw [<- h x (by simp)]; exact hq
 case pick c a b => rw [<- h c (by simp), <- h a (by simp), <- h b (by simp)]; exact hq
 case load t a => rw [<- h a (by simp)]; exact hq
 case nilCheck x => rw [<- h x (by simp)]; exact hq
 case binOp => rename_i op t x y r; rw [<- h x (by simp), <- h y (by simp)]; exact hq
 case unOp op t x => rw [<- h x (by simp)]; exact hq
 case convert s d x => rw [<- h x (by simp)]; exact hq
 case fieldAddr s x i => rw [<- h x (by simp)]; exact hq
 case field s x i => rw [<- h x (by simp)]; exact hq
 case indexAddr t x i => rw [<- h x (by simp), <- h i (by simp)]; exact hq
 case index t x i => rw [<- h x (by simp), <- h i (by simp)]; exact hq
 case slice t x lo hi mx =>
  rw [<- h x (by simp), <- EvE.opt (fun y hy => h y (by simp at hy ⊢; simp [hy])), <- EvE.opt (x := hi) (fun y hy => h y (by simp at hy ⊢; simp [hy])), <- EvE.opt (x := mx) (fun y hy => h y (by simp at hy ⊢; simp [hy]))]
  exact hq
 case extract x i => rw [<- h x (by simp)]; exact hq
 case build t parts => rw [<- EvE.parts (f := f) (g := g) (H := H) (by simpa using h)]; exact hq
 case makeFunc fn first caps =>
  cases hf : first.toList with
  | nil =>
   rw [hf] at hq
   simp only at hq ⊢
   rw [<- EvE.map (l := caps.toList) fun x hx => h x (by simp at hx ⊢; exact .inr hx)]
   exact hq
  | cons a r => rw [hf] at hq; exact hq
 case call c =>
  have ha : EvE f g H c.args.toList := fun x hx => h x (by simp at hx ⊢; exact .inr hx)
  have key : ∀ l, l = c.args.toList -> EvE f g H l := fun l e => by rw [e]; exact ha
  cases hc : c.callee with
  | builtin b =>
   rw [hc] at hq
   cases b <;> simp only at hq ⊢ <;> try exact hq
   all_goals
    generalize hl : c.args.toList = l at hq ⊢
    have hk := key l hl.symm
    first
     | (rcases l with _ | ⟨x, r⟩ <;> simp only at hq ⊢ <;> try exact hq
        rw [<- hk x (by simp), <- EvE.map (l := r) fun y hy => hk y (by simp [hy])]
        exact hq
        done)
     | (generalize c.argTypes.toList = ts at hq ⊢
        rcases l with _ | ⟨x, _ | ⟨y, r⟩⟩ <;> rcases ts with _ | ⟨t, _ | ⟨u, q⟩⟩ <;> simp only at hq ⊢ <;> try exact hq
        rw [<- hk x (by simp)]; exact hq)
  | value v => rw [hc] at hq; exact hq
  | invoke r i => rw [hc] at hq; exact hq
theorem wK {op : Op} (h : EvE f g H (opsOf op)) {k : AV -> AH -> Prop} (hq : wpE ti ⟨f, H⟩ H op k) : wpE ti ⟨g, H⟩ H op k := by
 unfold wpE at hq ⊢
 cases op <;> simp only [opsOf, Op.operands] at h hq ⊢ <;> try exact hq
 case box t x => rw [<- h x (by simp)]; exact hq
 case makeSlice t l c => rw [<- h l (by simp), <- h c (by simp)]; exact hq
 case buildSlice t len parts =>
  have h1 : (parts.toList.flatMap fun p => da H (AS.ev ⟨f, H⟩ p.2)) = parts.toList.flatMap fun p => da H (AS.ev ⟨g, H⟩ p.2) := by
   have : (parts.toList.map fun p => da H (AS.ev ⟨f, H⟩ p.2)) = parts.toList.map fun p => da H (AS.ev ⟨g, H⟩ p.2) := List.map_congr_left fun p hp => by
    rw [h p.2 (by simp; exact ⟨p.1, by simpa using hp⟩)]
   rw [List.flatMap_def, List.flatMap_def, this]
  have h2 : ∀ H1, (parts.toList.map fun p => (p.1, jV H1 (AS.ev ⟨f, H⟩ p.2))) = parts.toList.map fun p => (p.1, jV H1 (AS.ev ⟨g, H⟩ p.2)) := fun H1 => List.map_congr_left fun p hp => by
   rw [h p.2 (by simp; exact ⟨p.1, by simpa using hp⟩)]
  rw [<- h1]
  simp only [<- h2]
  exact hq
 case store t a x => rw [<- h a (by simp), <- h x (by simp)]; exact hq
 case lookup t x ix ok => rw [<- h x (by simp), <- h ix (by simp)]; exact hq
 case mapUpdate t x ix v => rw [<- h x (by simp), <- h ix (by simp), <- h v (by simp)]; exact hq
 case insert t x ix v => rw [<- h x (by simp), <- h ix (by simp), <- h v (by simp)]; exact hq
 case convert s d x => rw [<- h x (by simp)]; exact hq
 case slice t x lo hi mx =>
  rw [<- h x (by simp), <- EvE.opt (fun y hy => h y (by simp at hy ⊢; simp [hy])), <- EvE.opt (x := hi) (fun y hy => h y (by simp at hy ⊢; simp [hy])), <- EvE.opt (x := mx) (fun y hy => h y (by simp at hy ⊢; simp [hy]))]
  exact hq
 case call c =>
  have ha : EvE f g H c.args.toList := fun x hx => h x (by simp at hx ⊢; exact .inr hx)
  have key : ∀ l, l = c.args.toList -> EvE f g H l := fun l e => by rw [e]; exact ha
  cases hc : c.callee with
  | builtin b =>
   rw [hc] at hq
   cases b <;> simp only at hq ⊢ <;> try exact hq
   all_goals
    generalize hl : c.args.toList = l at hq ⊢
    have hk := key l hl.symm
    generalize c.argTypes.toList = ts at hq ⊢
    rcases l with _ | ⟨x, _ | ⟨y, _ | ⟨z, r⟩⟩⟩ <;> rcases ts with _ | ⟨t, _ | ⟨u, _ | ⟨v, q⟩⟩⟩ <;> simp only at hq ⊢ <;> try exact hq
    all_goals first
     | (rw [<- hk x (by simp), <- hk y (by simp)]; exact hq)
     | (rw [<- hk x (by simp)]; exact hq)
  | value v => rw [hc] at hq; exact hq
  | invoke r i => rw [hc] at hq; exact hq
theorem qF {op : Op} (h : EvE f g H (opsOf op)) {k : AV -> AH -> Prop} (hq : gK P ⟨f, H⟩ H op k) : gK P ⟨g, H⟩ H op k := by
 unfold gK at hq ⊢
 cases op <;> simp only [opsOf] at h hq ⊢ <;> try exact hq
 rename_i c
 cases hc : c.callee with
 | value v =>
  rw [hc] at hq h
  simp only at hq ⊢
  rw [<- h v (by simp)]
  generalize AS.ev ⟨f, H⟩ v = fv at hq ⊢
  cases fv with
  | clo fn caps =>
   cases fn with
   | func gf =>
    simp only at hq ⊢
    rw [di] at hq ⊢
    rw [<- EvE.map (l := c.args.toList) fun x hx => h x (by simp at hx ⊢; exact .inr hx)]
    exact hq
   | _ => exact hq
  | _ => exact hq
 | builtin b => rw [hc] at hq; exact hq
 | invoke r i => rw [hc] at hq; exact hq
theorem uf {op : Op} (h : EvE f g H (opsOf op)) {k : AV -> AH -> Prop} (hq : wpOp P ti f H op k) : wpOp P ti g H op k := by
 unfold wpOp at hq ⊢
 split
 ·rename_i e; rw [e] at hq; exact pU h hq
 ·rename_i e; rw [e] at hq; exact wK h hq
 ·rename_i e; rw [e] at hq; exact qF h hq
end
end Go.Abs
namespace Go.Abs
open Go.RowKit
inductive Ln where
 | done
 | lazy (i : Nat) (k : Ln)
 | one (i : Nat) (k : Ln)
 | two (i j : Nat) (k l : Ln)
def gF (ti : TypeId -> Option TI) (σ : AS) (op : Op) (k : AV -> Prop) : Prop := match op with
 | .buildSlice t len parts => match ti t with
  | some ⟨.sl e, _, _, _⟩ => match ti e with
   | some ie => match dJ (fun j => some (j * ie.size, ie.size)) (cN ie len) (parts.toList.map fun p => (p.1, σ.ev p.2)) with
    | some cs => match lG cs with
     | some ps => match ps.all PV.one && Nat.ble (len * ie.size) 16777216 && Nat.blt 0 ie.size && (ie.k.isAgg || Nat.beq ie.size 1) with
      | true => IsL (chunk ie.k.isAgg ie.size len ps) fun ys => k (.p (.list false ys))
      | false => False
     | none => False
    | none => False
   | none => False
  | _ => False
 | op => wpQ ti σ op k
structure Pd where
 i : Nat
 o : Oper
 b : Bool
 v : AV
inductive EqA (x y : AV) : Prop
 | mk (h : x = y)
inductive PdA (X Y : Prop) : Prop
 | mk (h1 : X) (h2 : Y)
inductive LzA (X K : AV -> Prop) : Prop
 | mk {v : AV} (h : X v) (hk : K v)
def iG : Op -> Bool
 | .move _ => true
 | .assign _ => true
 | .pick _ _ _ => true
 | .nilCheck _ => true
 | .unOp _ _ _ => true
 | .convert _ _ _ => true
 | .fieldAddr _ _ _ => true
 | .field _ _ _ => true
 | .index _ _ _ => true
 | .extract _ _ => true
 | .build _ _ => true
 | .makeFunc _ _ _ => true
 | .buildSlice _ _ _ => true
 | _ => false
def pw (ti : TypeId -> Option TI) (fr : Nat -> AV) (H : AH) : List Pd -> Prop -> Prop
 | [], X => X
 | p :: r, X => match p.b && !iG p.o.op with
  | true => PdA (gF ti ⟨fr, H⟩ p.o.op fun v => EqA v p.v) (pw ti fr H r X)
  | false => pw ti fr H r X
inductive PdC (H H' : AH) (X Y : Prop) : Prop
 | same (h : H' = H) (hx : X)
 | chk (hy : Y)
def bT (o : Oper) (i : Nat) : Bool := o.after.toList.any fun e => Region.binds .any e && Nat.beq e.on i
def bd (ops : List Oper) (j : Nat) (pd : List Pd) : List Pd := match ops[j]? with
 | some oj => pd.filter fun p => !bT oj p.i
 | none => pd
def mj (ops : Array Oper) (j : Nat) (pd : List Nat) : List Nat := match ops[j]? with
 | some oj => pd.filter fun p => !bT oj p
 | none => pd
def dX (P : Program) (ti : TypeId -> Option TI) (nt : Nat) (ops : List Oper) : Ln -> List Pd -> (AS -> Prop) -> AS -> Prop
 | .done, _, K, σ => K σ
 | .lazy i k, pd, K, ⟨fr, H⟩ => match ops[i]? with
  | some o => bM ops o.guard fr
   (fun fr => LzA (fun v => gF ti ⟨fr, H⟩ o.op fun v' => EqA v' v) fun v => bG nt o.dst fr H v (dX P ti nt ops k (⟨i, o, true, v⟩ :: pd) K))
   (fun fr => bG nt o.dst fr H (.tup []) (dX P ti nt ops k (⟨i, o, false, .tup []⟩ :: pd) K))
  | none => False
 | .one i k, pd, K, ⟨fr, H⟩ => match ops[i]? with
  | some o => bM ops o.guard fr
   (fun fr => wpOp P ti fr H o.op fun v H' => bG nt o.dst fr H' v fun σ => PdC H σ.h (dX P ti nt ops k (bd ops i pd) K σ) (pw ti σ.fr σ.h (bd ops i pd) (dX P ti nt ops k (bd ops i pd) K σ)))
   (fun fr => bG nt o.dst fr H (.tup []) fun σ => PdC H σ.h (dX P ti nt ops k (bd ops i pd) K σ) (pw ti σ.fr σ.h (bd ops i pd) (dX P ti nt ops k (bd ops i pd) K σ)))
  | none => False
 | .two i j k l, pd, K, ⟨fr, H⟩ => PdA
  (match ops[i]? with
  | some o => bM ops o.guard fr
   (fun fr => wpOp P ti fr H o.op fun v H' => bG nt o.dst fr H' v fun σ => PdC H σ.h (dX P ti nt ops k (bd ops i pd) K σ) (pw ti σ.fr σ.h (bd ops i pd) (dX P ti nt ops k (bd ops i pd) K σ)))
   (fun fr => bG nt o.dst fr H (.tup []) fun σ => PdC H σ.h (dX P ti nt ops k (bd ops i pd) K σ) (pw ti σ.fr σ.h (bd ops i pd) (dX P ti nt ops k (bd ops i pd) K σ)))
  | none => False)
  (match ops[j]? with
  | some o => bM ops o.guard fr
   (fun fr => wpOp P ti fr H o.op fun v H' => bG nt o.dst fr H' v fun σ => PdC H σ.h (dX P ti nt ops l (bd ops j pd) K σ) (pw ti σ.fr σ.h (bd ops j pd) (dX P ti nt ops l (bd ops j pd) K σ)))
   (fun fr => bG nt o.dst fr H (.tup []) fun σ => PdC H σ.h (dX P ti nt ops l (bd ops j pd) K σ) (pw ti σ.fr σ.h (bd ops j pd) (dX P ti nt ops l (bd ops j pd) K σ)))
  | none => False)
def apL (ops : Array Oper) (p q : Nat) : Bool := match ops[p]?, ops[q]? with
 | some op, some oq => match op.dst, oq.dst with
  | some dp, some dq => (!(oq.looksAt ops).contains dp || bT oq p) && !(op.looksAt ops).contains dq && !Nat.beq dp dq && !Nat.beq p q && !bT op q
  | _, _ => false
 | _, _ => false
def p5 (ops : Array Oper) (q : Nat) : Bool := match ops[q]? with
 | some oq => match oq.dst with
  | some dq => !(oq.looksAt ops).contains dq && !bT oq q
  | none => false
 | none => false
def apO (ops : Array Oper) (p j : Nat) : Bool := match ops[p]?, ops[j]? with
 | some op, some oj => match op.dst with
  | some dp => !(oj.looksAt ops).contains dp && (match oj.dst with
   | some dj => !(op.looksAt ops).contains dj && !Nat.beq dp dj
   | none => true)
  | none => false
 | _, _ => false
def lnB (ops : Array Oper) : Ln -> Nat -> Array Bool -> List Nat -> Bool
 | .done, _, ls, _ => (Region.ready .any ops ls).isEmpty
 | .lazy q k, n + 1, ls, pd => (Region.ready .any ops ls).contains q && p5 ops q && pd.all (fun p => apL ops p q) && lnB ops k n (ls.setIfInBounds q true) (pd ++ [q])
 | .one j k, n + 1, ls, pd => (Region.ready .any ops ls == [j]) && (mj ops j pd).all (fun p => apO ops p j) && lnB ops k n (ls.setIfInBounds j true) (mj ops j pd)
 | .two i j k l, n + 1, ls, pd => (Region.ready .any ops ls == [i, j]) && (mj ops i pd).all (fun p => apO ops p i) && (mj ops j pd).all (fun p => apO ops p j) && lnB ops k n (ls.setIfInBounds i true) (mj ops i pd) && lnB ops l n (ls.setIfInBounds j true) (mj ops j pd)
 | _, 0, _, _ => false
section
variable {P : Program} {ti : TypeId -> Option TI} {nt : Nat} {D : List Deferred} {H0 : AH} {m0 : Nat -> Value} {S0 : Nat -> Prop} {w0 : World} {m : Nat -> Value} {S : Nat -> Prop} {w : World} {σ : AS} {a : Act}
theorem jm {f g : Nat -> AV} {H : AH} {op : Op} (h : EvE f g H (opsOf op)) {k : AV -> Prop} (hq : gF ti ⟨f, H⟩ op k) : gF ti ⟨g, H⟩ op k := by
 cases op with
 | buildSlice t len parts =>
  unfold gF at hq ⊢
  simp only [opsOf, Op.operands] at h hq ⊢
  rw [<- EvE.parts (f := f) (g := g) (H := H) (by simpa using h)]
  exact hq
 | _ => exact pU (ti := ti) (k := k) h hq
theorem Stp.list (hp : Hp P σ.h m S w) {e : TypeId} {xs : List PV} {sz : Nat} {vs : Array Value} (hlm : xs.length <= maxLen) (hz : ∀ x ∈ xs, x.cells.length = sz)
  (hr : ∀ (k : Nat) (c : PV), (flat xs)[k]? = some c -> ∃ u : Value, vs[k]? = some u /\ RdP S w c u /\ u.oneCell' = true) :
  ∃ S', Stp P σ.h m S w σ.h m S' (w.alloc (.cells vs e)) /\ RdP S' (w.alloc (.cells vs e)) (.list false xs) (.slice (some ⟨w.heap.size, 0, none⟩) xs.length xs.length) := by
 have hnew : (w.alloc (.cells vs e)).heap[w.heap.size]? = some (.cells vs e (0, 0)) := heap_alloc_new w _
 have hold : ∀ b, b < w.heap.size -> (w.alloc (.cells vs e)).heap[b]? = w.heap[b]? := fun b hb => Below.heap_alloc w _ _ hb
 have hk : b8 S w (w.alloc (.cells vs e)) := fun b hb => hold b (hp.sub b hb)
 have hs : ∀ b, S b -> S b \/ b = w.heap.size := fun b h => .inl h
 have hsz : (w.alloc (.cells vs e)).heap.size = w.heap.size + 1 := by simp
 refine ⟨fun b => S b \/ b = w.heap.size, ?_, ?_⟩
 ·refine ⟨aW.refl _ _, ⟨fun j o hl => OK.mono hk hs (aW.refl _ _) (hp.obj j o hl) fun b hb => hold b ((hp.obj j o hl).bE hb), hp.inj, fun b hb => ?_, fun i o b hl hb h => ?_, hp.glb.mono hk hs⟩, hk, hs, rfl, rfl, rfl, by omega, fun b hb _ => hold b hb, fun b h => ?_, fun b h => .inl h, fun b h => ?_⟩
  ·rcases hb with hb | rfl
   ·have := hp.sub b hb; omega
   ·omega
  ·rcases h with h | rfl
   ·exact hp.out i o b hl hb h
   ·exact absurd ((hp.obj i o hl).bE hb) (Nat.lt_irrefl _)
  ·rcases h with h | rfl
   ·exact .inl h
   ·exact .inr (.inr (Nat.le_refl _))
  ·rcases h with h | rfl
   ·exact .inl h
   ·exact .inr ⟨vs, e, _, hnew⟩
 ·refine .list xs ⟨w.heap.size, 0, none⟩ xs.length sz (fun k => vs.getD k undef) (fun _ => .inr rfl) (Nat.le_refl _) hlm hz (fun k c hc => ?_) fun k c hc => ?_
  ·obtain ⟨u, hu, _, h1⟩ := hr k c hc
   have e1 : vs.getD k undef = u := by simp [Array.getD_eq_getD_getElem?, hu]
   refine ⟨?_, by rw [e1]; exact h1⟩
   rw [add_lit, e1]
   unfold World.cell?
   simp only
   rw [hnew]
   simpa using hu
  ·obtain ⟨u, hu, h1, _⟩ := hr k c hc
   have e1 : vs.getD k undef = u := by simp [Array.getD_eq_getD_getElem?, hu]
   rw [e1]
   exact h1.mono hk hs
theorem zI (hT : aK P ti) (hp : Hp P σ.h m S w) (hf : ∀ t, Rd P σ.h m S w (σ.fr t) (a.tmps.getD t undef)) {o : Oper} {k : AV -> Prop} (h : gF ti σ o.op k) :
  ∃ av v w' S', k av /\ (execOp a.eval o).run P w = .ok (.value v) w' /\ Stp P σ.h m S w σ.h m S' w' /\ Rd P σ.h m S' w' av v := by
 have E := fun x => bZ (P := P) hp.glb hf x
 have hq : wpQ ti σ o.op k -> ∃ av v w' S', k av /\ (execOp a.eval o).run P w = .ok (.value v) w' /\ Stp P σ.h m S w σ.h m S' w' /\ Rd P σ.h m S' w' av v := fun h => by
  obtain ⟨av, v, h1, h2, h3⟩ := eg hT hp hf h
  exact ⟨av, v, w, S, h1, h3 w (Ag.refl w), Stp.refl hp, h2⟩
 by_cases hb : ∃ t len parts, o.op = .buildSlice t len parts
 rotate_left
 ·refine hq ?_
  unfold gF at h
  split at h
  ·rename_i t len parts ho
   exact absurd ⟨t, len, parts, ho⟩ hb
  ·exact h
 obtain ⟨t, len, parts, ho⟩ := hb
 rw [ho] at h
 unfold gF at h
 simp only at h
 split at h
 ·rename_i e s1 b1 z1 hti
  have hu := bF (hT.ok _ _ hti) rfl
  split at h
  ·rename_i ie hte
   have hie := hT.ok _ _ hte
   obtain ⟨inf, d, hinf, hd, hz, hsz, hby, _, hzs, hz1⟩ := aE hie
   split at h
   ·rename_i cs hcs
    split at h
    ·rename_i ps hps
     split at h
     ·rename_i hc
      simp only [Bool.and_eq_true, Bool.or_eq_true] at hc
      obtain ⟨⟨⟨hc1, hc2⟩, hc3⟩, hc4⟩ := hc
      have hc2 := Nat.le_of_ble_eq_true hc2
      have hc3 : 0 < ie.size := Nat.le_of_ble_eq_true hc3
      have hc4 : ie.k.isAgg = true \/ ie.size = 1 := hc4.imp id Nat.eq_of_beq_eq_true
      obtain ⟨vs', h1, h2⟩ := eO (P := P) (H := σ.h) (m := m) (S := S) (w := w) (fun j => some (j * ie.size, ie.size)) _ ((parts.map fun (i, x) => (i, a.eval x)).toList) _ cs _ hcs (tN hie len hc3) (by simp [List.map_map, Function.comp_def]) (fun k p hk => by
       simp only [List.getElem?_map, Option.map_eq_some_iff] at hk
       obtain ⟨q, hq, rfl⟩ := hk
       exact ⟨a.eval q.2, by simpa using ⟨q.1, q.2, by simpa using hq, rfl, rfl⟩, E q.2⟩)
      obtain ⟨h3, h4⟩ := wG hps h2
      have hpl : ps.length = len * ie.size := by
       have h5 : ∀ (parts : List (Nat × AV)) (cells cs : List AV), dJ (fun j => some (j * ie.size, ie.size)) cells parts = some cs -> cs.length = cells.length := by
        intro parts
        induction parts with
        | nil => intro cells cs h; simp [dJ] at h; rw [h]
        | cons p parts ih =>
         intro cells cs h
         simp only [dJ] at h
         split at h
         ·have := ih _ _ h
          rw [this]
          have := cW (p.1 * ie.size) p.2.cells 0 cells
          rwa [Nat.add_zero] at this
         ·cases h
       have h6 := h5 _ _ _ hcs
       have h7 := ep hps
       rw [h7] at h6
       simpa [cN] using h6
      obtain ⟨h5, h6, h7⟩ := jG ie.k.isAgg ie.size hc3 hc4 len ps hpl hc1
      have hrun : (Instr.buildSlice t len (parts.map fun (i, x) => (i, a.eval x))).run P w = .ok (.slice (some ⟨w.heap.size, 0, none⟩) len len) (w.alloc (.cells vs' e)) := by
       by_cases h0 : len * ie.size = 0
       ·have hlen0 : len = 0 := by rcases Nat.mul_eq_zero.1 h0 with h | h; exact h; omega
        subst hlen0
        simp only [Nat.zero_mul] at h1
        have h1' : Instr.fill (fun i => some (i * inf.size, inf.size)) #[] (parts.map fun (i, x) => (i, a.eval x)).toList = some vs' := by
         rw [hsz]
         have r0 : Array.range 0 = #[] := rfl
         rw [r0] at h1
         simpa using h1
        have r0 : Array.range 0 = #[] := rfl
        simp only [Instr.buildSlice, Sem.run_bind, run_underlying hu, Result.andThen_ok]
        simp only [Array.toList_map] at h1'
        simp [sizeOf, typeInfo, hinf, r0, h1', newRow]
       ·exact run_buildSlice w t e len _ vs' inf ie.zero hu hinf hz (by rw [hsz]; omega) (by rw [hsz]; exact h0) (by rw [hsz]; exact h1)
      have hlm : len <= maxLen := by
       have : len * 1 <= len * ie.size := Nat.mul_le_mul_left _ hc3
       simp only [maxLen]
       omega
      obtain ⟨S', hst, hrd⟩ := Stp.list (e := e) (xs := chunk ie.k.isAgg ie.size len ps) (vs := vs') hp (by rw [h5]; exact hlm) h7 (by rw [h6]; exact h4)
      rw [h5] at hrd
      obtain ⟨_, rfl, h⟩ := h
      exact ⟨_, _, _, S', h, by simp only [execOp, ho]; rw [Sem.run_bind, hrun]; rfl, hst, .p _ _ hrd⟩
     ·cases h
    ·cases h
   ·cases h
  ·cases h
 ·cases h
def gA (ops : List Oper) (g : Option (Nat × Bool)) (fr : Nat -> AV) : Option Bool := match g with
 | none => some true
 | some (j, want) => match ops[j]? with
  | some oj => match oj.dst with
   | some d => match fr d with
    | .p (.v (.bool b)) => some (b == want)
    | .tup [] => some false
    | _ => none
   | none => none
  | none => none
theorem uu {fr : Nat -> AV} {d : Nat} {v : AV} (h : fr d = v) : aM fr d v = fr := by
 funext t
 unfold aM
 split
 ·rename_i hb
  obtain rfl := Nat.eq_of_beq_eq_true hb
  exact h.symm
 ·rfl
theorem iR {ops : List Oper} {g : Option (Nat × Bool)} {fr : Nat -> AV} {yes no : (Nat -> AV) -> Prop} (h : bM ops g fr yes no) : (gA ops g fr = some true /\ yes fr) \/ (gA ops g fr = some false /\ no fr) := by
 unfold bM at h
 unfold gA
 cases g with
 | none => exact .inl ⟨rfl, h⟩
 | some g =>
  obtain ⟨j, want⟩ := g
  simp only at h ⊢
  cases hj : ops[j]? with
  | none => rw [hj] at h; exact h.elim
  | some oj =>
   rw [hj] at h
   simp only at h ⊢
   cases hd : oj.dst with
   | none => rw [hd] at h; exact h.elim
   | some d =>
    rw [hd] at h
    simp only at h ⊢
    generalize hv : fr d = v at h
    split at h
    ·rename_i b
     cases want <;> cases b <;> simp only [br] at h <;> rw [uu hv] at h
     ·exact .inl ⟨rfl, h⟩
     ·exact .inr ⟨rfl, h⟩
     ·exact .inr ⟨rfl, h⟩
     ·exact .inl ⟨rfl, h⟩
    ·exact .inr ⟨rfl, h⟩
    ·exact h.elim
theorem sv {ops : List Oper} {g : Option (Nat × Bool)} {fr : Nat -> AV} {b : Bool} (h : gA ops g fr = some b) : bM ops g fr (fun _ => b = true) (fun _ => b = false) := by
 unfold bM
 unfold gA at h
 cases g with
 | none =>
  injection h with h
  exact h.symm
 | some g =>
  obtain ⟨j, want⟩ := g
  simp only at h ⊢
  cases hj : ops[j]? with
  | none => rw [hj] at h; cases h
  | some oj =>
   rw [hj] at h
   simp only at h ⊢
   cases hd : oj.dst with
   | none => rw [hd] at h; cases h
   | some d =>
    rw [hd] at h
    simp only at h ⊢
    generalize fr d = v at h
    split at h
    ·rename_i c
     injection h with h
     subst h
     cases want <;> cases c <;> rfl
    ·injection h with h
     exact h.symm
    ·cases h
theorem fT (hc : Cn P nt D H0 m0 S0 w0 σ m S a w) {ops : List Oper} {o : Oper} {b : Bool} (h : gA ops o.guard σ.fr = some b) : Region.wanted o (yielded ops.toArray a.tmps) = b := by
 rcases bz hc (sv h) with ⟨h1, _, h2, _⟩ | ⟨h1, _, h2, _⟩
 ·rw [h1, h2]
 ·rw [h1, h2]
theorem dB {ops : List Oper} {o : Oper} {f g : Nat -> AV} (h : ∀ t ∈ o.looksAt ops.toArray, f t = g t) : gA ops o.guard f = gA ops o.guard g := by
 unfold gA
 split
 ·rfl
 ·rename_i j want hg
  split
  ·rename_i oj hj
   split
   ·rename_i d hd
    rw [h d (by simp [Oper.looksAt, hg, hj, hd])]
   ·rfl
  ·rfl
theorem zY {f g : Nat -> AV} {H : AH} {x : Operand} (h : ∀ t, x = .tmp t -> f t = g t) : AS.ev ⟨f, H⟩ x = AS.ev ⟨g, H⟩ x := by
 cases x with
 | tmp t => exact h t rfl
 | _ => rfl
theorem kn {ops : List Oper} {o : Oper} {f g : Nat -> AV} {H : AH} (h : ∀ t ∈ o.looksAt ops.toArray, f t = g t) : EvE f g H (opsOf o.op) := by
 intro x hx
 refine zY fun t ht => h t ?_
 subst ht
 refine List.mem_append.2 (.inl (List.mem_filterMap.2 ⟨.tmp t, ?_, rfl⟩))
 unfold opsOf at hx
 split at hx
 ·rename_i c hop
  rw [hop]
  simp only [Op.operands, Call.operands]
  rcases List.mem_append.1 hx with h1 | h1
  ·cases hcc : c.callee with
   | value f => rw [hcc] at h1; simp at h1 ⊢; exact .inl h1
   | _ => rw [hcc] at h1; cases h1
  ·simp at h1 ⊢
   exact .inr h1
 ·exact hx
def bR (fr : Nat -> AV) (pc : List Pd) : Nat -> AV := fun t => match pc.any fun p => p.o.dst == some t with
 | true => .dead
 | false => fr t
structure PE (ti : TypeId -> Option TI) (nt : Nat) (ops : List Oper) (fr : Nat -> AV) (H : AH) (ls : Array Bool) (p : Pd) : Prop where
 op : ops[p.i]? = some p.o
 val : ∃ d, p.o.dst = some d /\ fr d = p.v /\ d < nt
 wt : gA ops p.o.guard fr = some p.b
 yes : p.b = true -> gF ti ⟨fr, H⟩ p.o.op fun v => EqA v p.v
 no : p.b = false -> p.v = .tup []
 self : p5 ops.toArray p.i = true
 dep : ∀ e ∈ p.o.after, Region.binds .any e = true -> ls.getD e.on false = true
 lst : ls.getD p.i false = true
structure iP (ti : TypeId -> Option TI) (nt : Nat) (ops : List Oper) (fr : Nat -> AV) (H : AH) (ls : Array Bool) (pd : List Pd) : Prop where
 each : ∀ p ∈ pd, PE ti nt ops fr H ls p
 pair : pd.Pairwise fun p q => apL ops.toArray p.i q.i = true
def Lst (lsA lsC : Array Bool) (pc : List Pd) : Prop := ∀ j d, lsC.getD j d = match pc.any fun p => Nat.beq p.i j with
 | true => false
 | false => lsA.getD j d
theorem vp {o : Oper} {e : Edge} (he : e ∈ o.after) (hb : Region.binds .any e = true) : bT o e.on = true := by
 unfold bT
 rw [List.any_eq_true]
 exact ⟨e, by simpa using he, by simp [hb]⟩
theorem r7 {o : Oper} {i : Nat} (h : bT o i = true) : ∃ e ∈ o.after, Region.binds .any e = true /\ e.on = i := by
 unfold bT at h
 rw [List.any_eq_true] at h
 obtain ⟨e, he, hb⟩ := h
 simp only [Bool.and_eq_true] at hb
 exact ⟨e, by simpa using he, hb.1, Nat.eq_of_beq_eq_true hb.2⟩
theorem Lst.ready {ops : Array Oper} {lsA lsC : Array Bool} {pc : List Pd} (h : Lst lsA lsC pc) {j : Nat} (hj : j ∈ Region.ready .any ops lsC) (hn : ∀ p ∈ pc, p.i ≠ j) : j ∈ Region.ready .any ops lsA := by
 rw [mem_ready] at hj ⊢
 obtain ⟨h0, o, ho, ha⟩ := hj
 have hf : (pc.any fun p => Nat.beq p.i j) = false := List.any_eq_false.2 fun p hp e => hn p hp (Nat.eq_of_beq_eq_true e)
 refine ⟨?_, o, ho, fun e he hb => ?_⟩
 ·have := h j true
  rw [hf] at this
  exact this.symm.trans h0
 ·have h1 := ha e he hb
  have h2 := h e.on false
  rw [h1] at h2
  cases hx : pc.any fun p => Nat.beq p.i e.on with
  | true => rw [hx] at h2; cases h2
  | false => rw [hx] at h2; exact h2.symm
theorem Lst.uJ {ops : Array Oper} {lsA lsC : Array Bool} {pc : List Pd} (h : Lst lsA lsC pc) {j : Nat} (hj : j ∈ Region.ready .any ops lsC) {o : Oper} (ho : ops[j]? = some o) {p : Pd} (hp : p ∈ pc) : bT o p.i = false := by
 cases hb : bT o p.i with
 | false => rfl
 | true =>
  obtain ⟨e, he, hb1, hb2⟩ := r7 hb
  rw [mem_ready] at hj
  obtain ⟨_, o', ho', ha⟩ := hj
  rw [ho] at ho'
  injection ho' with ho'
  subst ho'
  have h1 := ha e he hb1
  rw [h e.on false, hb2] at h1
  have hx : (pc.any fun q => Nat.beq q.i p.i) = true := List.any_eq_true.2 ⟨p, hp, Nat.beq_refl _⟩
  rw [hx] at h1
  cases h1
theorem uN {op : Op} (h : iG op = true) {fr : Nat -> AV} {H H' : AH} {k : AV -> Prop} (hq : gF ti ⟨fr, H⟩ op k) : gF ti ⟨fr, H'⟩ op k := by
 have e : AS.ev ⟨fr, H⟩ = AS.ev ⟨fr, H'⟩ := by funext x; cases x <;> rfl
 cases op <;> first
  | (cases h; done)
  | (unfold gF at hq ⊢; simp only [wpQ] at hq ⊢; rw [<- e]; exact hq)
  | (unfold gF at hq ⊢; simp only [wpQ, e] at hq ⊢; exact hq)
end
end Go.Abs
namespace Go.Abs
open Go.RowKit
section
variable {P : Program} {ti : TypeId -> Option TI} {nt : Nat} {D : List Deferred} {H0 : AH} {m0 : Nat -> Value} {S0 : Nat -> Prop} {w0 : World} {m : Nat -> Value} {S : Nat -> Prop} {w : World} {a : Act}
variable {ops : List Oper} {fr : Nat -> AV} {H : AH} {lsA lsC : Array Bool} {pd pc : List Pd}
theorem sX {α : Type} {R : α -> α -> Prop} : ∀ {l : List α}, l.Pairwise R -> ∀ {p q : α}, p ∈ l -> q ∈ l -> p = q \/ R p q \/ R q p
 | x :: r, h, p, q, hp, hq => by
  rw [List.pairwise_cons] at h
  rcases List.mem_cons.1 hp with e1 | hp1
  ·rcases List.mem_cons.1 hq with e2 | hq1
   ·exact .inl (e1.trans e2.symm)
   ·exact .inr (.inl (e1 ▸ h.1 q hq1))
  ·rcases List.mem_cons.1 hq with e2 | hq1
   ·exact .inr (.inr (e2 ▸ h.1 p hp1))
   ·exact sX h.2 hp1 hq1
structure ApL (ops : Array Oper) (p q : Nat) (op oq : Oper) (dp dq : Nat) : Prop where
 l1 : dp ∈ oq.looksAt ops -> bT oq p = true
 l2 : dq ∉ op.looksAt ops
 l3 : dp ≠ dq
 l4 : p ≠ q
 l5 : bT op q = false
theorem fN {ops : Array Oper} {p q : Nat} {op oq : Oper} {dp dq : Nat} (h : apL ops p q = true) (hp : ops[p]? = some op) (hq : ops[q]? = some oq) (h1 : op.dst = some dp) (h2 : oq.dst = some dq) : ApL ops p q op oq dp dq := by
 unfold apL at h
 rw [hp, hq] at h
 simp only [h1, h2, Bool.and_eq_true, Bool.or_eq_true, Bool.not_eq_true', List.contains_eq_mem, decide_eq_false_iff_not] at h
 obtain ⟨⟨⟨⟨h3, h4⟩, h5⟩, h6⟩, h7⟩ := h
 exact ⟨fun h => h3.resolve_left fun hn => hn h, h4, fun e => (by rw [e, Nat.beq_refl] at h5; cases h5), fun e => (by rw [e, Nat.beq_refl] at h6; cases h6), h7⟩
theorem jr {ops : Array Oper} {q : Nat} {oq : Oper} {dq : Nat} (h : p5 ops q = true) (hq : ops[q]? = some oq) (h2 : oq.dst = some dq) : dq ∉ oq.looksAt ops /\ bT oq q = false := by
 unfold p5 at h
 rw [hq] at h
 simpa [h2] using h
theorem tO {ops : Array Oper} {p j : Nat} {op oj : Oper} {dp : Nat} (h : apO ops p j = true) (hp : ops[p]? = some op) (hj : ops[j]? = some oj) (h1 : op.dst = some dp) :
  dp ∉ oj.looksAt ops /\ ∀ dj, oj.dst = some dj -> dj ∉ op.looksAt ops /\ dp ≠ dj := by
 unfold apO at h
 rw [hp, hj] at h
 simp only [h1, Bool.and_eq_true, Bool.not_eq_true', List.contains_eq_mem, decide_eq_false_iff_not] at h
 refine ⟨h.1, fun dj hd => ?_⟩
 have h2 := h.2
 rw [hd] at h2
 simp only [Bool.and_eq_true, Bool.not_eq_true', List.contains_eq_mem, decide_eq_false_iff_not] at h2
 exact ⟨h2.1, fun e => by rw [e, Nat.beq_refl] at h2; cases h2.2⟩
theorem toA {i : Nat} {o : Oper} (h : ops[i]? = some o) : ops.toArray[i]? = some o := by simpa using h
theorem iP.sub (hv : iP ti nt ops fr H lsA pd) (hs : pc.Sublist pd) : iP ti nt ops fr H lsA pc := ⟨fun p hp => hv.each p (hs.subset hp), hv.pair.sublist hs⟩
theorem lr {p : Pd} {d : Nat} (hp : p ∈ pc) (hd : p.o.dst = some d) : bR fr pc d = .dead := by
 unfold bR
 rw [List.any_eq_true.2 ⟨p, hp, by simp [hd]⟩]
theorem bW {t : Nat} (h : ∀ p ∈ pc, p.o.dst ≠ some t) : bR fr pc t = fr t := by
 unfold bR
 rw [List.any_eq_false.2 fun p hp => by simpa using h p hp]
theorem iP.agree (hv : iP ti nt ops fr H lsA pc) (hl : Lst lsA lsC pc) {p : Pd} (hp : p ∈ pc) (hr : p.i ∈ Region.ready .any ops.toArray lsC) (t : Nat) (ht : t ∈ p.o.looksAt ops.toArray) : fr t = bR fr pc t := by
 refine (bW fun q hq hd => ?_).symm
 have hP := hv.each p hp
 have hQ := hv.each q hq
 obtain ⟨dp, hdp, _⟩ := hP.val
 have hself := jr hP.self (toA hP.op) hdp
 rcases sX hv.pair hp hq with rfl | h1 | h1
 ·rw [hdp] at hd
  injection hd with hd
  subst hd
  exact hself.1 ht
 ·exact (fN h1 (toA hP.op) (toA hQ.op) hdp hd).l2 ht
 ·have h2 := (fN h1 (toA hQ.op) (toA hP.op) hd hdp).l1 ht
  rw [hl.uJ hr (toA hP.op) hq] at h2
  cases h2
theorem qe (hT : aK P ti) {l1 l2 : List Pd} {p : Pd} (hpc : pc = l1 ++ p :: l2) (hv : iP ti nt ops fr H lsA pc) (hl : Lst lsA lsC pc) (hr : p.i ∈ Region.ready .any ops.toArray lsC) (hc : Cn P nt D H0 m0 S0 w0 ⟨bR fr pc, H⟩ m S a w) {X : Act -> World -> Prop} {Q : Exit -> Act -> World -> Prop}
  (next : ∀ m' S' a' w', Cn P nt D H0 m0 S0 w0 ⟨bR fr (l1 ++ l2), H⟩ m' S' a' w' -> X a' w') : Go.wpOp P ops.toArray Q p.i X a w := by
 have hp : p ∈ pc := by rw [hpc]; simp
 have hP := hv.each p hp
 have hag := hv.agree hl hp hr
 obtain ⟨d, hd, hdv, hlt⟩ := hP.val
 have hwt : Region.wanted p.o (yielded ops.toArray a.tmps) = p.b := fT hc (by rw [<- dB (f := fr) hag]; exact hP.wt)
 have fin : ∀ {S' : Nat -> Prop} {v : Value} {w' : World}, Stp P H m S w H m S' w' -> Rd P H m S' w' p.v v -> X (a.put p.o.dst v) w' := fun {S' v w'} hst hrd => by
  refine next m S' _ w' ?_
  have hf : ∀ t, Rd P H m S' w' (bR fr pc t) (a.tmps.getD t undef) := fun t => (hc.fr t).mono hst.keeps hst.sub hst.old
  rw [hd]
  have hp2 := qX (d := d) hf hc.sz hlt hrd
  refine ⟨hc.stp.trans hst, fun t => ?_, by simp [Act.put, hc.sz], cE hc.stp.hp hst hc.nd⟩
  have h3 := hp2 t
  show Rd P H m S' w' (bR fr (l1 ++ l2) t) _
  by_cases hx : ∃ q ∈ l1 ++ l2, q.o.dst = some t
  ·obtain ⟨q, hq, hqd⟩ := hx
   rw [lr hq hqd]
   exact .dead _
  ·rw [bW fun q hq hqd => hx ⟨q, hq, hqd⟩]
   by_cases ht : t = d
   ·subst ht
    rw [hdv]
    have : aM (bR fr pc) t p.v t = p.v := by unfold aM; rw [Nat.beq_refl]
    rw [this] at h3
    exact h3
   ·have h4 : aM (bR fr pc) d p.v t = fr t := by
     unfold aM
     split
     ·rename_i hb
      exact absurd (Nat.eq_of_beq_eq_true hb) ht
     ·refine bW fun q hq hqd => ?_
      rw [hpc] at hq
      rcases List.mem_append.1 hq with hq | hq
      ·exact hx ⟨q, List.mem_append_left _ hq, hqd⟩
      ·rcases List.mem_cons.1 hq with rfl | hq
       ·rw [hd] at hqd
        injection hqd with hqd
        exact ht hqd.symm
       ·exact hx ⟨q, List.mem_append_right _ hq, hqd⟩
    rw [h4] at h3
    exact h3
 unfold Go.wpOp
 rw [toA hP.op]
 simp only
 rw [hwt]
 cases hb : p.b with
 | true =>
  rw [if_pos rfl]
  refine .inl ?_
  obtain ⟨av, v, w', S', ⟨rfl⟩, h2, h3, h4⟩ := zI (σ := ⟨bR fr pc, H⟩) hT hc.stp.hp hc.fr (jm (kn hag) (hP.yes hb))
  unfold Oper.wp
  rw [h2, Oper.upon_value]
  exact fin h3 h4
 | false =>
  rw [if_neg (by simp)]
  exact fin (Stp.refl hc.stp.hp) (by rw [hP.no hb]; exact cu)
theorem Lst.Dn {l1 l2 : List Pd} {p : Pd} (hpc : pc = l1 ++ p :: l2) (hv : iP ti nt ops fr H lsA pc) (hl : Lst lsA lsC pc) : Lst lsA (lsC.setIfInBounds p.i true) (l1 ++ l2) := by
 have hp : p ∈ pc := by rw [hpc]; simp
 have hP := hv.each p hp
 have hin : p.i < lsC.size := by
  have h1 := hl p.i true
  rw [List.any_eq_true.2 ⟨p, hp, Nat.beq_refl _⟩] at h1
  rcases Nat.lt_or_ge p.i lsC.size with h | h
  ·exact h
  ·rw [Array.getD_eq_getD_getElem?, Array.getElem?_eq_none h] at h1
   cases h1
 have hA : ∀ d, lsA.getD p.i d = true := fun d => by
  have := hP.lst
  rcases Nat.lt_or_ge p.i lsA.size with h | h
  ·simp [h] at this ⊢
   exact this
  ·simp [Array.getElem?_eq_none h] at this
 have hne : ∀ q ∈ l1 ++ l2, q.i ≠ p.i := fun q hq e => by
  obtain ⟨dp, hdp, _⟩ := hP.val
  have hpw := hv.pair
  rw [hpc] at hpw
  rw [List.pairwise_append, List.pairwise_cons] at hpw
  rcases List.mem_append.1 hq with hq | hq
  ·have hQ := hv.each q (by rw [hpc]; exact List.mem_append_left _ hq)
   obtain ⟨dq, hdq, _⟩ := hQ.val
   exact (fN (hpw.2.2 q hq p (List.mem_cons_self ..)) (toA hQ.op) (toA hP.op) hdq hdp).l4 e
  ·have hQ := hv.each q (by rw [hpc]; exact List.mem_append_right _ (List.mem_cons_of_mem _ hq))
   obtain ⟨dq, hdq, _⟩ := hQ.val
   exact (fN (hpw.2.1.1 q hq) (toA hP.op) (toA hQ.op) hdp hdq).l4 e.symm
 intro j d
 by_cases hj : p.i = j
 ·subst hj
  rw [List.any_eq_false.2 fun q hq e => hne q hq (Nat.eq_of_beq_eq_true e)]
  simp only
  rw [hA d]
  simp [hin]
 ·rw [getD_set_ne d hj, hl j d]
  have : (pc.any fun q => Nat.beq q.i j) = (l1 ++ l2).any fun q => Nat.beq q.i j := by
   rw [hpc, List.any_append, List.any_append, List.any_cons]
   have : Nat.beq p.i j = false := by
    cases hb : Nat.beq p.i j with
    | false => rfl
    | true => exact absurd (Nat.eq_of_beq_eq_true hb) hj
   rw [this, Bool.false_or]
  rw [this]
theorem Lst.first {p : Pd} {l : List Pd} (hv : iP ti nt ops fr H lsA (p :: l)) (hl : Lst lsA lsC (p :: l)) : p.i ∈ Region.ready .any ops.toArray lsC := by
 have hP := hv.each p (List.mem_cons_self ..)
 obtain ⟨dp, hdp, _⟩ := hP.val
 rw [mem_ready]
 refine ⟨?_, p.o, toA hP.op, fun e he hb => ?_⟩
 ·rw [hl p.i true, List.any_eq_true.2 ⟨p, List.mem_cons_self .., Nat.beq_refl _⟩]
 ·rw [hl e.on false, List.any_eq_false.2]
  ·exact hP.dep e he hb
  ·intro q hq hb2
   have e2 := Nat.eq_of_beq_eq_true hb2
   have hbo := vp he hb
   rcases List.mem_cons.1 hq with rfl | hq
   ·rw [<- e2, (jr hP.self (toA hP.op) hdp).2] at hbo
    cases hbo
   ·have hQ := hv.each q (List.mem_cons_of_mem _ hq)
    obtain ⟨dq, hdq, _⟩ := hQ.val
    rw [<- e2, (fN ((List.pairwise_cons.1 hv.pair).1 q hq) (toA hP.op) (toA hQ.op) hdp hdq).l5] at hbo
    cases hbo
theorem iF {X : Prop} : ∀ {l : List Pd}, pw ti fr H l X -> (∀ p ∈ l, p.b = true -> iG p.o.op = false -> gF ti ⟨fr, H⟩ p.o.op fun v => EqA v p.v) /\ X
 | [], h => ⟨fun p hp => (by cases hp), h⟩
 | q :: r, h => by
  unfold pw at h
  split at h
  ·obtain ⟨h1, h2⟩ := h
   obtain ⟨h3, h4⟩ := iF h2
   exact ⟨fun p hp hb hm => (List.mem_cons.1 hp).elim (fun e => e ▸ h1) fun hp => h3 p hp hb hm, h4⟩
  ·rename_i hc
   obtain ⟨h3, h4⟩ := iF h
   refine ⟨fun p hp hb hm => (List.mem_cons.1 hp).elim (fun e => ?_) fun hp => h3 p hp hb hm, h4⟩
   subst e
   rw [hb, hm] at hc
   cases hc
theorem PE.upd {fr' : Nat -> AV} {H' : AH} {ls' : Array Bool} {p : Pd} (h : PE ti nt ops fr H lsA p) (hf : ∀ t ∈ p.o.looksAt ops.toArray, fr t = fr' t) (hd : ∀ d, p.o.dst = some d -> fr' d = fr d) (hl : ∀ j, lsA.getD j false = true -> ls'.getD j false = true)
  (hm : H' = H \/ (p.b = true -> iG p.o.op = false -> gF ti ⟨fr', H'⟩ p.o.op fun v => EqA v p.v)) : PE ti nt ops fr' H' ls' p := by
 obtain ⟨d, h1, h2, h3⟩ := h.val
 refine ⟨h.op, ⟨d, h1, (hd d h1).trans h2, h3⟩, by rw [<- dB (f := fr) hf]; exact h.wt, fun hb => ?_, h.no, h.self, fun e he hb => hl _ (h.dep e he hb), hl _ h.lst⟩
 have h4 := jm (ti := ti) (H := H) (kn hf) (h.yes hb)
 rcases hm with rfl | hm
 ·exact h4
 ·cases hmf : iG p.o.op with
  | true => exact uN hmf h4
  | false => exact hm hb hmf
theorem dG {d t : Nat} {v : AV} (h : t ≠ d) : aM fr d v t = fr t := by
 unfold aM
 split
 ·rename_i hb
  exact absurd (Nat.eq_of_beq_eq_true hb) h
 ·rfl
theorem np {d : Nat} {v : AV} : aM fr d v d = v := by unfold aM; rw [Nat.beq_refl]
theorem j5 {ops : Array Oper} {ls : Array Bool} {j : Nat} (h : j ∈ Region.ready .any ops ls) : j < ls.size /\ ∀ d, ls.getD j d = false := by
 rw [mem_ready] at h
 rcases Nat.lt_or_ge j ls.size with h1 | h1
 ·refine ⟨h1, fun d => ?_⟩
  have := h.1
  simp [h1] at this ⊢
  exact this
 ·have := h.1
  rw [Array.getD_eq_getD_getElem?, Array.getElem?_eq_none h1] at this
  cases this
theorem ym {q : Nat} {o : Oper} {b : Bool} {v : AV} {d : Nat} (ho : ops[q]? = some o) (hd : o.dst = some d) (hlt : d < nt) (hv : iP ti nt ops fr H lsA pd) (hw : gA ops o.guard fr = some b) (hy : b = true -> gF ti ⟨fr, H⟩ o.op fun v' => EqA v' v) (hno : b = false -> v = .tup [])
  (hr : q ∈ Region.ready .any ops.toArray lsA) (hs : p5 ops.toArray q = true) (ha : ∀ p ∈ pd, apL ops.toArray p.i q = true) : iP ti nt ops (aM fr d v) H (lsA.setIfInBounds q true) (pd ++ [⟨q, o, b, v⟩]) := by
 have hset : ∀ j, lsA.getD j false = true -> (lsA.setIfInBounds q true).getD j false = true := fun j h => getD_set_true h
 have hself := jr hs (toA ho) hd
 refine ⟨fun p hp => ?_, ?_⟩
 ·rcases List.mem_append.1 hp with hp | hp
  ·have hP := hv.each p hp
   obtain ⟨dp, hdp, _⟩ := hP.val
   have h1 := fN (ha p hp) (toA hP.op) (toA ho) hdp hd
   refine hP.upd (fun t ht => (dG fun e : t = d => h1.l2 (e ▸ ht)).symm) (fun d' hd' => dG fun e => h1.l3 ?_) hset (.inl rfl)
   rw [hdp] at hd'
   injection hd' with hd'
   exact hd'.trans e
  ·obtain rfl : p = ⟨q, o, b, v⟩ := by simpa using hp
   have hag : ∀ t ∈ o.looksAt ops.toArray, fr t = aM fr d v t := fun t ht => (dG fun e : t = d => hself.1 (e ▸ ht)).symm
   have hin := j5 hr
   rw [mem_ready] at hr
   obtain ⟨_, o', ho', hall⟩ := hr
   rw [toA ho] at ho'
   injection ho' with ho'
   subst ho'
   exact ⟨ho, ⟨d, hd, np, hlt⟩, by rw [<- dB (f := fr) hag]; exact hw, fun hb => jm (kn hag) (hy hb), hno, hs, fun e he hb => hset _ (hall e he hb), by simp [hin.1]⟩
 ·refine List.pairwise_append.2 ⟨hv.pair, by simp, fun p hp p2 hp2 => ?_⟩
  obtain rfl : p2 = ⟨q, o, b, v⟩ := by simpa using hp2
  exact ha p hp
theorem Lst.lazy (hl : Lst lsA lsC pc) {q : Nat} {o : Oper} {b : Bool} {v : AV} (hr : q ∈ Region.ready .any ops.toArray lsA) : Lst (lsA.setIfInBounds q true) lsC (pc ++ [⟨q, o, b, v⟩]) := by
 intro j d
 have h1 := hl j d
 rw [List.any_append, List.any_cons, List.any_nil, Bool.or_false]
 by_cases hj : q = j
 ·subst hj
  rw [Nat.beq_refl, Bool.or_true]
  simp only
  rw [h1]
  split
  ·rfl
  ·exact (j5 hr).2 d
 ·have : Nat.beq q j = false := by
   cases hb : Nat.beq q j with
   | false => rfl
   | true => exact absurd (Nat.eq_of_beq_eq_true hb) hj
  rw [this, Bool.or_false, getD_set_ne d hj, h1]
theorem yA {q : Nat} {o : Oper} {b : Bool} {v : AV} {d : Nat} (hd : o.dst = some d) (hc : Cn P nt D H0 m0 S0 w0 ⟨bR fr pc, H⟩ m S a w) : Cn P nt D H0 m0 S0 w0 ⟨bR (aM fr d v) (pc ++ [⟨q, o, b, v⟩]), H⟩ m S a w := by
 refine ⟨hc.stp, fun t => ?_, hc.sz, hc.nd⟩
 show Rd P H m S w (bR (aM fr d v) (pc ++ [⟨q, o, b, v⟩]) t) _
 by_cases hx : ∃ p ∈ pc ++ [⟨q, o, b, v⟩], p.o.dst = some t
 ·obtain ⟨p, hp, hpd⟩ := hx
  rw [lr hp hpd]
  exact .dead _
 ·rw [bW fun p hp hpd => hx ⟨p, hp, hpd⟩, dG fun e => hx ⟨⟨q, o, b, v⟩, by simp, by rw [e]; exact hd⟩]
  have := hc.fr t
  rw [show (AS.mk (bR fr pc) H).fr t = fr t from bW fun p hp hpd => hx ⟨p, List.mem_append_left _ hp, hpd⟩] at this
  exact this
def mw (fr : Nat -> AV) (dst : Option Tmp) (v : AV) : Nat -> AV := match dst with
 | some d => aM fr d v
 | none => fr
theorem fX {dst : Option Tmp} {t : Nat} {v : AV} (h : dst ≠ some t) : mw fr dst v t = fr t := by
 cases dst with
 | none => rfl
 | some d => exact dG fun e : t = d => h (by rw [e])
theorem AX {t : Nat} {v : AV} {fr' : Nat -> AV} {dst : Option Tmp} (h : dst = some t) : mw fr dst v t = mw fr' dst v t := by
 subst h
 exact np.trans np.symm
theorem jk {dst : Option Tmp} {v : AV} {k : AS -> Prop} (h : bG nt dst fr H v k) : k ⟨mw fr dst v, H⟩ /\ ∀ d, dst = some d -> d < nt := by
 unfold bG at h
 cases dst with
 | none =>
  simp only at h
  rw [cZ] at h
  exact ⟨h, fun d e => (by cases e)⟩
 | some d =>
  simp only at h
  cases hb : Nat.blt d nt with
  | true =>
   rw [hb] at h
   simp only at h
   rw [eL, cZ] at h
   exact ⟨h, fun d' e => by injection e with e; exact e ▸ bU hb⟩
  | false => rw [hb] at h; cases h
theorem uC {dst : Option Tmp} {v : AV} (h : ∀ d, dst = some d -> d < nt) : bG nt dst fr H v fun σ => σ = ⟨mw fr dst v, H⟩ := by
 unfold bG
 cases dst with
 | none =>
  simp only
  rw [cZ]
  rfl
 | some d =>
  have hb : Nat.blt d nt = true := by
   have := h d rfl
   simp [Nat.blt_eq, this]
  simp only
  rw [hb]
  simp only
  rw [eL, cZ]
  rfl
theorem nP {j : Nat} {o : Oper} {av : AV} {H' : AH} {vv : Value} {m' : Nat -> Value} {S' : Nat -> Prop} {w' : World} (ho : ops[j]? = some o) (hv : iP ti nt ops fr H lsA pd) (hs : pc.Sublist pd) (hl : Lst lsA lsC pc) (hrA : j ∈ Region.ready .any ops.toArray lsA) (hrC : j ∈ Region.ready .any ops.toArray lsC) (hne : ∀ p ∈ pc, p.i ≠ j)
  (hap : ∀ p ∈ bd ops j pd, apO ops.toArray p.i j = true) (hc : Cn P nt D H0 m0 S0 w0 ⟨bR fr pc, H⟩ m S a w) (hst : Stp P H m S w H' m' S' w') (hrd : Rd P H' m' S' w' av vv) (hnt : ∀ d, o.dst = some d -> d < nt)
  (hm : H' = H \/ ∀ p ∈ bd ops j pd, p.b = true -> iG p.o.op = false -> gF ti ⟨mw fr o.dst av, H'⟩ p.o.op fun v => EqA v p.v) :
  iP ti nt ops (mw fr o.dst av) H' (lsA.setIfInBounds j true) (bd ops j pd) /\ pc.Sublist (bd ops j pd) /\ Lst (lsA.setIfInBounds j true) (lsC.setIfInBounds j true) pc /\ Cn P nt D H0 m0 S0 w0 ⟨bR (mw fr o.dst av) pc, H'⟩ m' S' (a.put o.dst vv) w' := by
 have hdrop : bd ops j pd = pd.filter fun p => !bT o p.i := by unfold bd; rw [ho]
 have hpcd : pc.Sublist (bd ops j pd) := by
  rw [hdrop]
  have h1 : pc.filter (fun p => !bT o p.i) = pc := List.filter_eq_self.2 fun p hp => by rw [hl.uJ hrC (toA ho) hp]; rfl
  rw [<- h1]
  exact hs.filter _
 have hsub : (bd ops j pd).Sublist pd := by rw [hdrop]; exact List.filter_sublist
 refine ⟨⟨fun p hp => ?_, hv.pair.sublist hsub⟩, hpcd, fun i d => ?_, ?_⟩
 ·have hP := hv.each p (hsub.subset hp)
  obtain ⟨dp, hdp, _⟩ := hP.val
  have h1 := tO (hap p hp) (toA hP.op) (toA ho) hdp
  refine hP.upd (fun t ht => (fX fun hdj => (h1.2 t hdj).1 ht).symm) (fun d' hd' => fX fun hdj => ?_) (fun j h => getD_set_true h) (hm.imp id fun h hb hf => h p hp hb hf)
  rw [hdp] at hd'
  injection hd' with hd'
  exact (h1.2 d' hdj).2 hd'
 ·by_cases hj : j = i
  ·subst hj
   rw [List.any_eq_false.2 fun p hp e => hne p hp (Nat.eq_of_beq_eq_true e)]
   simp [(j5 hrA).1, (j5 hrC).1]
  ·rw [getD_set_ne d hj, getD_set_ne d hj]
   exact hl i d
 ·obtain ⟨σ', h1, h2⟩ := b_ (σ := ⟨bR fr pc, H⟩) hc hst hrd (uC (fr := bR fr pc) (H := H') (v := av) hnt)
  subst h1
  refine ⟨h2.stp, fun t => ?_, h2.sz, h2.nd⟩
  have h3 := h2.fr t
  show Rd P H' m' S' w' (bR (mw fr o.dst av) pc t) _
  by_cases hx : ∃ p ∈ pc, p.o.dst = some t
  ·obtain ⟨p, hp, hpd⟩ := hx
   rw [lr hp hpd]
   exact .dead _
  ·have hx' : ∀ p ∈ pc, p.o.dst ≠ some t := fun p hp hpd => hx ⟨p, hp, hpd⟩
   rw [bW hx']
   have e : mw (bR fr pc) o.dst av t = mw fr o.dst av t := by
    by_cases hdt : o.dst = some t
    ·exact AX hdt
    ·rw [fX hdt, fX hdt]
     exact bW hx'
   rw [<- e]
   exact h3
theorem jb (j : Nat) (pd : List Pd) : bd ops j pd.reverse = (bd ops j pd).reverse := by
 unfold bd
 split
 ·rw [List.filter_reverse]
 ·rfl
theorem qq (j : Nat) (pd : List Pd) : mj ops.toArray j (pd.map (·.i)) = (bd ops j pd).map (·.i) := by
 unfold mj bd
 cases ho : ops[j]? with
 | none =>
  have : ops.toArray[j]? = none := by simpa using ho
  rw [this]
 | some o =>
  rw [toA ho]
  simp only
  rw [List.filter_map]
  rfl
theorem nO (hT : aK P ti) {Q : Exit -> Act -> World -> Prop} {K : AS -> Prop} {k : Ln} {j n : Nat}
  (ih : ∀ (fr : Nat -> AV) (H : AH), iP ti nt ops fr H (lsA.setIfInBounds j true) (bd ops j pd) -> dX P ti nt ops k (bd ops j pd).reverse K ⟨fr, H⟩ ->
   ∀ (len : Nat) (pc : List Pd), pc.length = len -> pc.Sublist (bd ops j pd) -> ∀ (lsC : Array Bool), Lst (lsA.setIfInBounds j true) lsC pc -> ∀ (m : Nat -> Value) (S : Nat -> Prop) (a : Act) (w : World), Cn P nt D H0 m0 S0 w0 ⟨bR fr pc, H⟩ m S a w -> wpAny P .any ops.toArray Q (n + len) lsC a w)
  (hv : iP ti nt ops fr H lsA pd) (hrA : j ∈ Region.ready .any ops.toArray lsA) (hap : ∀ p ∈ bd ops j pd, apO ops.toArray p.i j = true) (h : dX P ti nt ops (.one j k) pd.reverse K ⟨fr, H⟩)
  (len : Nat) (pc : List Pd) (hlen : pc.length = len) (hs : pc.Sublist pd) (lsC : Array Bool) (hl : Lst lsA lsC pc) (m : Nat -> Value) (S : Nat -> Prop) (a : Act) (w : World) (hc : Cn P nt D H0 m0 S0 w0 ⟨bR fr pc, H⟩ m S a w) (hrC : j ∈ Region.ready .any ops.toArray lsC) (hne : ∀ p ∈ pc, p.i ≠ j) :
  Go.wpOp P ops.toArray Q j (wpAny P .any ops.toArray Q (n + len) (lsC.setIfInBounds j true)) a w := by
 unfold dX at h
 cases ho : ops[j]? with
 | none => rw [ho] at h; exact h.elim
 | some o =>
  rw [ho] at h
  simp only at h
  have hpcd : ∀ p ∈ pc, p ∈ bd ops j pd := fun p hp => by
   unfold bd
   rw [ho]
   exact List.mem_filter.2 ⟨hs.subset hp, by rw [hl.uJ hrC (toA ho) hp]; rfl⟩
  have hag : ∀ t ∈ o.looksAt ops.toArray, fr t = bR fr pc t := fun t ht => (bW fun p hp hpd => (tO (hap p (hpcd p hp)) (toA (hv.each p (hs.subset hp)).op) (toA ho) hpd).1 ht).symm
  unfold Go.wpOp
  rw [toA ho]
  simp only
  rcases iR h with ⟨hw, hy⟩ | ⟨hw, hno⟩
  ·have hwt : Region.wanted o (yielded ops.toArray a.tmps) = true := fT hc (by rw [<- dB (f := fr) hag]; exact hw)
   rw [hwt, if_pos rfl]
   refine .inl (jl hT hc (uf (kn hag) hy) fun av H' m' S' v w' hk hst hrd => ?_)
   obtain ⟨h5, hnt⟩ := jk hk
   rw [jb] at h5
   rcases h5 with ⟨hH, h7⟩ | h5
   ·obtain ⟨h8, h9, h10, h11⟩ := nP ho hv hs hl hrA hrC hne hap hc hst hrd hnt (.inl hH)
    exact ih _ _ h8 h7 len pc hlen h9 _ h10 _ _ _ _ h11
   ·obtain ⟨h6, h7⟩ := iF h5
    obtain ⟨h8, h9, h10, h11⟩ := nP ho hv hs hl hrA hrC hne hap hc hst hrd hnt (.inr fun p hp => h6 p (List.mem_reverse.2 hp))
    exact ih _ _ h8 h7 len pc hlen h9 _ h10 _ _ _ _ h11
  ·have hwt : Region.wanted o (yielded ops.toArray a.tmps) = false := fT hc (by rw [<- dB (f := fr) hag]; exact hw)
   rw [hwt, if_neg (by simp)]
   obtain ⟨h5, hnt⟩ := jk hno
   rw [jb] at h5
   have h7 : dX P ti nt ops k (bd ops j pd).reverse K ⟨mw fr o.dst (.tup []), H⟩ := by
    rcases h5 with ⟨_, h7⟩ | h5
    ·exact h7
    ·exact (iF h5).2
   obtain ⟨h8, h9, h10, h11⟩ := nP (av := .tup []) (vv := undef) ho hv hs hl hrA hrC hne hap hc (Stp.refl hc.stp.hp) cu hnt (.inl rfl)
   exact ih _ _ h8 h7 len pc hlen h9 _ h10 _ _ _ _ h11
theorem Lst.back (hl : Lst lsA lsC []) {j : Nat} (hrA : j ∈ Region.ready .any ops.toArray lsA) : j ∈ Region.ready .any ops.toArray lsC := by
 rw [mem_ready] at hrA ⊢
 obtain ⟨h4, o', h5, h6⟩ := hrA
 exact ⟨(hl j true).trans h4, o', h5, fun e he hb => (hl e.on false).trans (h6 e he hb)⟩
theorem zK (hT : aK P ti) {Q : Exit -> Act -> World -> Prop} {n : Nat} (hv : iP ti nt ops fr H lsA pd) (hex : ∀ lsC, Lst lsA lsC [] -> ∃ j, j ∈ Region.ready .any ops.toArray lsC)
  (step : ∀ (len : Nat) (pc : List Pd), pc.length = len -> pc.Sublist pd -> ∀ (lsC : Array Bool), Lst lsA lsC pc -> ∀ (m : Nat -> Value) (S : Nat -> Prop) (a : Act) (w : World), Cn P nt D H0 m0 S0 w0 ⟨bR fr pc, H⟩ m S a w -> ∀ i, i ∈ Region.ready .any ops.toArray lsC -> (∀ p ∈ pc, p.i ≠ i) -> Go.wpOp P ops.toArray Q i (wpAny P .any ops.toArray Q (n + len) (lsC.setIfInBounds i true)) a w) :
  ∀ (len : Nat) (pc : List Pd), pc.length = len -> pc.Sublist pd -> ∀ (lsC : Array Bool), Lst lsA lsC pc -> ∀ (m : Nat -> Value) (S : Nat -> Prop) (a : Act) (w : World), Cn P nt D H0 m0 S0 w0 ⟨bR fr pc, H⟩ m S a w -> wpAny P .any ops.toArray Q (n + 1 + len) lsC a w := by
 intro len
 induction len with
 | zero =>
  intro pc hlen hs lsC hl m S a w hc
  obtain rfl : pc = [] := List.eq_nil_of_length_eq_zero hlen
  refine ⟨fun h0 => ?_, fun i hi => step 0 [] hlen hs lsC hl m S a w hc i hi fun p hp => (by cases hp)⟩
  obtain ⟨j, hj⟩ := hex lsC hl
  rw [h0] at hj
  cases hj
 | succ len ih2 =>
  intro pc hlen hs lsC hl m S a w hc
  refine ⟨fun h0 => ?_, fun i hi => ?_⟩
  ·cases pc with
   | nil => cases hlen
   | cons p l =>
    have := hl.first (hv.sub hs)
    rw [h0] at this
    cases this
  ·by_cases hx : ∃ p ∈ pc, p.i = i
   ·obtain ⟨p, hp, rfl⟩ := hx
    obtain ⟨l1, l2, hpc⟩ := List.append_of_mem hp
    have hv2 := hv.sub hs
    refine qe hT hpc hv2 hl hi hc fun m' S' a' w' hc' => ?_
    exact ih2 (l1 ++ l2) (by rw [hpc] at hlen; simp at hlen ⊢; omega) ((by rw [hpc]; simp : (l1 ++ l2).Sublist pc).trans hs) _ (hl.Dn hpc hv2) m' S' a' w' hc'
   ·have := step (len + 1) pc hlen hs lsC hl m S a w hc i hi fun p hp e => hx ⟨p, hp, e⟩
    rw [show n + (len + 1) = n + 1 + len by omega] at this
    exact this
theorem zJ (hT : aK P ti) {Q : Exit -> Act -> World -> Prop} {K : AS -> Prop} (hK : ∀ σ' m' S' a' w', Cn P nt D H0 m0 S0 w0 σ' m' S' a' w' -> K σ' -> Q .normal a' w') :
  ∀ (sc : Ln) (n : Nat) (lsA : Array Bool) (pd : List Pd) (fr : Nat -> AV) (H : AH), lnB ops.toArray sc n lsA (pd.map (·.i)) = true -> iP ti nt ops fr H lsA pd -> dX P ti nt ops sc pd.reverse K ⟨fr, H⟩ ->
   ∀ (len : Nat) (pc : List Pd), pc.length = len -> pc.Sublist pd -> ∀ (lsC : Array Bool), Lst lsA lsC pc -> ∀ (m : Nat -> Value) (S : Nat -> Prop) (a : Act) (w : World), Cn P nt D H0 m0 S0 w0 ⟨bR fr pc, H⟩ m S a w -> wpAny P .any ops.toArray Q (n + len) lsC a w := by
 intro sc
 induction sc with
 | done =>
  intro n lsA pd fr H hB hv h len
  have hE : Region.ready .any ops.toArray lsA = [] := List.isEmpty_iff.1 (by cases n <;> exact hB)
  induction len with
  | zero =>
   intro pc hlen hs lsC hl m S a w hc
   obtain rfl : pc = [] := List.eq_nil_of_length_eq_zero hlen
   refine wpAny_done (List.eq_nil_iff_forall_not_mem.2 fun j hj => ?_) (hK _ m S a w hc h) _
   have := hl.ready hj fun p hp => (by cases hp)
   rw [hE] at this
   cases this
  | succ len ih =>
   intro pc hlen hs lsC hl m S a w hc
   refine ⟨fun h0 => ?_, fun j hj => ?_⟩
   ·cases pc with
    | nil => cases hlen
    | cons p l =>
     have := hl.first (hv.sub hs)
     rw [h0] at this
     cases this
   ·by_cases hx : ∃ p ∈ pc, p.i = j
    ·obtain ⟨p, hp, rfl⟩ := hx
     obtain ⟨l1, l2, hpc⟩ := List.append_of_mem hp
     have hv2 := hv.sub hs
     refine qe hT hpc hv2 hl hj hc fun m' S' a' w' hc' => ?_
     exact ih (l1 ++ l2) (by rw [hpc] at hlen; simp at hlen ⊢; omega) ((by rw [hpc]; simp : (l1 ++ l2).Sublist pc).trans hs) _ (hl.Dn hpc hv2) m' S' a' w' hc'
    ·have := hl.ready hj fun p hp e => hx ⟨p, hp, e⟩
     rw [hE] at this
     cases this
 | lazy q k ih =>
  intro n lsA pd fr H hB hv h len pc hlen hs lsC hl m S a w hc
  cases n with
  | zero => cases hB
  | succ n =>
   simp only [lnB, Bool.and_eq_true] at hB
   obtain ⟨⟨⟨h1, h2⟩, h3⟩, h4⟩ := hB
   have hr : q ∈ Region.ready .any ops.toArray lsA := by simpa using h1
   have ha : ∀ p ∈ pd, apL ops.toArray p.i q = true := fun p hp => List.all_eq_true.1 h3 p.i (List.mem_map.2 ⟨p, hp, rfl⟩)
   unfold dX at h
   cases ho : ops[q]? with
   | none => rw [ho] at h; exact h.elim
   | some o =>
    rw [ho] at h
    simp only at h
    have hdst : ∃ d, o.dst = some d := by
     unfold p5 at h2
     rw [toA ho] at h2
     simp only at h2
     cases hd : o.dst with
     | none => rw [hd] at h2; cases h2
     | some d => exact ⟨d, rfl⟩
    obtain ⟨d, hd⟩ := hdst
    have key : ∀ (b : Bool) (v : AV), gA ops o.guard fr = some b -> (b = true -> gF ti ⟨fr, H⟩ o.op fun v' => EqA v' v) -> (b = false -> v = .tup []) -> bG nt o.dst fr H v (dX P ti nt ops k (⟨q, o, b, v⟩ :: pd.reverse) K) -> wpAny P .any ops.toArray Q (n + 1 + len) lsC a w := fun b v hw hy hno hp => by
     obtain ⟨h5, hnt⟩ := jk hp
     rw [hd] at h5
     have := ih n (lsA.setIfInBounds q true) (pd ++ [⟨q, o, b, v⟩]) (aM fr d v) H (by rw [List.map_append]; exact h4) (ym ho hd (hnt d hd) hv hw hy hno hr h2 ha) (by rw [List.reverse_append]; exact h5) (len + 1) (pc ++ [⟨q, o, b, v⟩]) (by simp [hlen]) (hs.append (List.Sublist.refl _)) lsC (hl.lazy hr) m S a w (yA hd hc)
     rw [show n + 1 + len = n + (len + 1) by omega]
     exact this
    rcases iR h with ⟨hw, hy⟩ | ⟨hw, hno⟩
    ·obtain ⟨h6, h7⟩ := hy
     exact key true _ hw (fun _ => h6) (fun e => by cases e) h7
    ·exact key false _ hw (fun e => by cases e) (fun _ => rfl) hno
 | one j k ih =>
  intro n lsA pd fr H hB hv h len
  cases n with
  | zero => cases hB
  | succ n =>
   simp only [lnB, Bool.and_eq_true] at hB
   obtain ⟨⟨h1, h2⟩, h3⟩ := hB
   have hE := eq_of_beq h1
   have hrA : j ∈ Region.ready .any ops.toArray lsA := by rw [hE]; simp
   rw [qq] at h2 h3
   have hap : ∀ p ∈ bd ops j pd, apO ops.toArray p.i j = true := fun p hp => List.all_eq_true.1 h2 p.i (List.mem_map.2 ⟨p, hp, rfl⟩)
   have step := nO (D := D) (H0 := H0) (m0 := m0) (S0 := S0) (w0 := w0) (Q := Q) (n := n) hT (fun fr H hv h => ih n _ _ fr H h3 hv h) hv hrA hap h
   exact zK hT hv (fun lsC hl => ⟨j, hl.back hrA⟩) (fun len pc hlen hs lsC hl m S a w hc i hi hne => by
    have hi2 := hl.ready hi hne
    rw [hE] at hi2
    obtain rfl : i = j := by simpa using hi2
    exact step len pc hlen hs lsC hl m S a w hc hi hne) len
 | two i j k l ihk ihl =>
  intro n lsA pd fr H hB hv h len
  cases n with
  | zero => cases hB
  | succ n =>
   simp only [lnB, Bool.and_eq_true] at hB
   obtain ⟨⟨⟨⟨h1, h2⟩, h3⟩, h4⟩, h5⟩ := hB
   have hE := eq_of_beq h1
   have hrA : i ∈ Region.ready .any ops.toArray lsA := by rw [hE]; simp
   have hrB : j ∈ Region.ready .any ops.toArray lsA := by rw [hE]; simp
   rw [qq] at h2 h3 h4 h5
   have hap : ∀ p ∈ bd ops i pd, apO ops.toArray p.i i = true := fun p hp => List.all_eq_true.1 h2 p.i (List.mem_map.2 ⟨p, hp, rfl⟩)
   have haq : ∀ p ∈ bd ops j pd, apO ops.toArray p.i j = true := fun p hp => List.all_eq_true.1 h3 p.i (List.mem_map.2 ⟨p, hp, rfl⟩)
   have s1 := nO (D := D) (H0 := H0) (m0 := m0) (S0 := S0) (w0 := w0) (Q := Q) (n := n) hT (fun fr H hv h => ihk n _ _ fr H h4 hv h) hv hrA hap h.1
   have s2 := nO (D := D) (H0 := H0) (m0 := m0) (S0 := S0) (w0 := w0) (Q := Q) (n := n) hT (fun fr H hv h => ihl n _ _ fr H h5 hv h) hv hrB haq h.2
   exact zK hT hv (fun lsC hl => ⟨i, hl.back hrA⟩) (fun len pc hlen hs lsC hl m S a w hc q hq hne => by
    have hi2 := hl.ready hq hne
    rw [hE] at hi2
    have hq' : q = i \/ q = j := by simpa using hi2
    rcases hq' with rfl | rfl
    ·exact s1 len pc hlen hs lsC hl m S a w hc hq hne
    ·exact s2 len pc hlen hs lsC hl m S a w hc hq hne) len
end
end Go.Abs
namespace Go.Abs
open Go.RowKit
inductive gD (P : Program) (f : FuncId) (args : List AV) (H : AH) (k : AV -> Prop) : Prop
 | mk (x : Value) (h : ao P f (bo H [] true args) [] fun r H' => r = .p (.v x) /\ H' = []) (hk : k (.p (.v x))) : gD P f args H k
def mE (P : Program) (σ : AS) (H : AH) (op : Op) (k : AV -> Prop) : Prop := match op with
 | .call c => match c.callee with
  | .value f => match σ.ev f with
   | .clo (.func g) caps => oE σ c.args.toList fun l => gD P g (l ++ caps) H k
   | _ => False
  | _ => False
 | _ => False
def sm (P : Program) (ti : TypeId -> Option TI) (calls : Bool) (fr : Nat -> AV) (H : AH) (op : Op) (k : AV -> Prop) : Prop := match n0 op with
 | .quiet => wpQ ti ⟨fr, H⟩ op k
 | .eff => wpQ ti ⟨fr, H⟩ op k
 | .call => match calls with
  | true => mE P ⟨fr, H⟩ H op k
  | false => False
def cz (P : Program) (ti : TypeId -> Option TI) (nt : Nat) (calls : Bool) (ops : List Oper) : List Oper -> (AS -> Prop) -> AS -> Prop
 | [], K, σ => K σ
 | o :: rest, K, ⟨fr, H⟩ => bM ops o.guard fr
   (fun fr => sm P ti calls fr H o.op fun v => bG nt o.dst fr H v (cz P ti nt calls ops rest K))
   (fun fr => bG nt o.dst fr H (.tup []) (cz P ti nt calls ops rest K))
inductive Sc where
 | done
 | take (i : Nat) (k : Sc)
 | load (i : Nat) (k : Sc)
 | frz (i : Nat) (k : Sc)
 | one (i : Nat) (k : Sc)
 | two (i j : Nat) (k l : Sc)
 | three (i j q : Nat) (k l p : Sc)
def scB (ops : Array Oper) : Sc -> Nat -> Array Bool -> Bool
 | .done, _, ls => (Region.ready .any ops ls).isEmpty
 | .take i k, n + 1, ls => (Region.ready .any ops ls).contains i && Region.free .any ops ls i && scB ops k n (ls.setIfInBounds i true)
 | .load i k, n + 1, ls => (Region.ready .any ops ls).contains i && Region.free .any ops ls i && scB ops k n (ls.setIfInBounds i true)
 | .frz i k, n + 1, ls => (Region.ready .any ops ls).contains i && Region.free .any ops ls i && scB ops k n (ls.setIfInBounds i true)
 | .one i k, n + 1, ls => (Region.ready .any ops ls == [i]) && ops[i]?.isSome && scB ops k n (ls.setIfInBounds i true)
 | .two i j k l, n + 1, ls => (Region.ready .any ops ls == [i, j]) && ops[i]?.isSome && ops[j]?.isSome && scB ops k n (ls.setIfInBounds i true) && scB ops l n (ls.setIfInBounds j true)
 | .three i j q k l p, n + 1, ls => (Region.ready .any ops ls == [i, j, q]) && ops[i]?.isSome && ops[j]?.isSome && ops[q]?.isSome && scB ops k n (ls.setIfInBounds i true) && scB ops l n (ls.setIfInBounds j true) && scB ops p n (ls.setIfInBounds q true)
 | _, 0, _ => false
structure Fact where
 fr : Nat -> AV
 o : Oper
 p : PV
 x : Value
 det : ∀ (S : Nat -> Prop) (w : World) (v : Value), RdP S w p v -> v = x
def nT (fr : Nat -> AV) (o : Oper) (p : PV) : Option Fact := match p with
 | .v x => some ⟨fr, o, .v x, x, D8 x⟩
 | .agg cs => if h : tP cs = true then some ⟨fr, o, .agg cs, .agg (ca cs).toArray, rU h⟩ else none
 | .list _ _ => none
theorem s5 {fr : Nat -> AV} {o : Oper} {p : PV} {F : Fact} (h : nT fr o p = some F) : F.fr = fr /\ F.o = o /\ F.p = p := by
 cases p with
 | v x => cases h; exact ⟨rfl, rfl, rfl⟩
 | list => cases h
 | agg cs =>
  unfold nT at h
  simp only at h
  split at h
  ·cases h; exact ⟨rfl, rfl, rfl⟩
  ·cases h
def du (ti : TypeId -> Option TI) (H : AH) : List Fact -> Prop -> Prop
 | [], K => K
 | f :: fs, K => wpQ ti ⟨f.fr, H⟩ f.o.op fun av => av = .p f.p /\ du ti H fs K
def er (P : Program) (ti : TypeId -> Option TI) (nt : Nat) (ops : List Oper) (i : Nat) (K : AS -> Prop) : AS -> Prop
 | ⟨fr, H⟩ => match ops[i]? with
  | some o => bM ops o.guard fr
   (fun fr => wpOp P ti fr H o.op fun v H' => bG nt o.dst fr H' v K)
   (fun fr => bG nt o.dst fr H (.tup []) K)
  | none => False
inductive vE (X Y : Prop) : Prop
 | mk (h1 : X) (h2 : Y) : vE X Y
def cQ (P : Program) (ti : TypeId -> Option TI) (nt : Nat) (ops : List Oper) : Sc -> List Fact -> (AS -> Prop) -> AS -> Prop
 | .done, _, K, σ => K σ
 | .take i k, fs, K, ⟨fr, H⟩ => match ops[i]? with
  | some o => match ri o.op with
   | true => False
   | false => bM ops o.guard fr
    (fun fr => wpQ ti ⟨fr, H⟩ o.op fun v => bG nt o.dst fr H v (cQ P ti nt ops k fs K))
    (fun fr => bG nt o.dst fr H (.tup []) (cQ P ti nt ops k fs K))
  | none => False
 | .load i k, fs, K, ⟨fr, H⟩ => match ops[i]? with
  | some o => match o.guard with
   | none => wpQ ti ⟨fr, H⟩ o.op fun v => match v with
    | .p y => match nT fr o y with
     | some F => bG nt o.dst fr H (.p y) (cQ P ti nt ops k (F :: fs) K)
     | none => False
    | _ => False
   | some _ => False
  | none => False
 | .frz i k, fs, K, ⟨fr, H⟩ => match ops[i]? with
  | some o => bM ops o.guard fr
   (fun fr => match o.op with
    | .load t x => match (AS.mk fr H).ev x with
     | .aN cs => de ti H t (.aN cs) fun v => bG nt o.dst fr H v (cQ P ti nt ops k fs K)
     | _ => False
    | _ => False)
   (fun fr => bG nt o.dst fr H (.tup []) (cQ P ti nt ops k fs K))
  | none => False
 | .one i k, fs, K, σ => er P ti nt ops i (fun σ => du ti σ.h fs (cQ P ti nt ops k fs K σ)) σ
 | .two i j k l, fs, K, σ => vE (er P ti nt ops i (fun σ => du ti σ.h fs (cQ P ti nt ops k fs K σ)) σ) (er P ti nt ops j (fun σ => du ti σ.h fs (cQ P ti nt ops l fs K σ)) σ)
 | .three i j q k l p, fs, K, σ => vE (er P ti nt ops i (fun σ => du ti σ.h fs (cQ P ti nt ops k fs K σ)) σ) (vE (er P ti nt ops j (fun σ => du ti σ.h fs (cQ P ti nt ops l fs K σ)) σ) (er P ti nt ops q (fun σ => du ti σ.h fs (cQ P ti nt ops p fs K σ)) σ))
inductive dN (tl : Bool) (P : Program) (ti : TypeId -> Option TI) (nt : Nat) (ops : List Oper) (K : AS -> Prop) (σ : AS) : Prop
 | quiet (hm : P.follows .mixedOrders = true) (hB : Region.lexB .any ops.toArray = true) (h : cz P ti nt true ops ops K σ) : dN tl P ti nt ops K σ
 | tail (ht : tl = true) (n : Nat) (hm : P.follows .mixedOrders = true) (hB : Region.lexTailB .any ops.toArray n = true) (h : cz P ti nt false ops (ops.take n) (wpOps P ti nt ops (ops.drop n) K) σ) : dN tl P ti nt ops K σ
 | bA (sc : Sc) (hm : P.follows .mixedOrders = true) (hn : Region.noSelect ops.toArray = true) (hB : scB ops.toArray sc ops.length (Array.replicate ops.length false) = true) (h : cQ P ti nt ops sc [] K σ) : dN tl P ti nt ops K σ
 | lin (sc : Ln) (hm : P.follows .mixedOrders = true) (hB : lnB ops.toArray sc ops.length (Array.replicate ops.length false) [] = true) (h : dX P ti nt ops sc [] K σ) : dN tl P ti nt ops K σ
section
variable {P : Program} {ti : TypeId -> Option TI} {nt : Nat} {D : List Deferred} {H0 : AH} {m0 : Nat -> Value} {S0 : Nat -> Prop} {w0 : World} {m : Nat -> Value} {S : Nat -> Prop} {w : World} {σ : AS} {a : Act}
def Cl (w w' : World) : Prop := Ag w w' /\ w'.os = w.os /\ w'.tape = w.tape /\ w'.output = w.output
theorem Cl.trans {w1 w2 w3 : World} (h : Cl w1 w2) (k : Cl w2 w3) : Cl w1 w3 :=
 ⟨fun b hb => (k.1 b (Nat.lt_of_lt_of_le hb h.1.size)).trans (h.1 b hb), k.2.1.trans h.2.1, k.2.2.1.trans h.2.2.1, k.2.2.2.trans h.2.2.2⟩
theorem Cl.stp {H : AH} {w' : World} (hp : Hp P H m S w) (h : Cl w w') : Stp P H m S w H m S w' := by
 have hk : b8 S w w' := h.1.keeps hp
 refine ⟨aW.refl _ _, ⟨fun j o hl => OK.mono hk (fun _ h => h) (aW.refl _ _) (hp.obj j o hl) fun b hb => h.1 b ((hp.obj j o hl).bE hb), hp.inj, fun b hb => Nat.lt_of_lt_of_le (hp.sub b hb) h.1.size, hp.out, hp.glb.mono hk fun _ h => h⟩,
  hk, fun _ h => h, h.2.1, h.2.2.1, h.2.2.2, h.1.size, fun b hb _ => h.1 b hb, fun _ h => .inl h, fun _ h => .inl h, fun _ h => .inl h⟩
theorem Cn.cl {w' : World} (hc : Cn P nt D H0 m0 S0 w0 σ m S a w) (h : Cl w w') : Cn P nt D H0 m0 S0 w0 σ m S a w' :=
 have hs := Cl.stp hc.stp.hp h
 ⟨hc.stp.trans hs, fun t => (hc.fr t).mono hs.keeps hs.sub hs.old, hc.sz, cE hc.stp.hp hs hc.nd⟩
theorem gI (hT : aK P ti) (hc : Cn P nt D H0 m0 S0 w0 σ m S a w) {o : Oper} {calls : Bool} {k : AV -> Prop} (h : sm P ti calls σ.fr σ.h o.op k) :
  ∃ av v, k av /\ Rd P σ.h m S w av v /\ (∀ w', Cl w w' -> o.quietAt P a (Cl w) w' v) /\ (calls = false -> ∀ w', Ag w w' -> (execOp a.eval o).run P w' = .ok (.value v) w') := by
 unfold sm at h
 split at h
 ·obtain ⟨av, v, h1, h2, h3⟩ := eg hT hc.stp.hp hc.fr h
  exact ⟨av, v, h1, h2, fun w' hw => by unfold Oper.quietAt; rw [h3 w' hw.1]; exact ⟨rfl, rfl⟩, fun _ => h3⟩
 ·obtain ⟨av, v, h1, h2, h3⟩ := eg hT hc.stp.hp hc.fr h
  exact ⟨av, v, h1, h2, fun w' hw => by unfold Oper.quietAt; rw [h3 w' hw.1]; exact ⟨rfl, rfl⟩, fun _ => h3⟩
 ·split at h
  ·generalize ho : o.op = op at h
   unfold mE at h
   split at h
   ·rename_i c
    obtain ⟨callee, args, ats⟩ := c
    simp only at h
    split at h
    ·rename_i f
     split at h
     ·rename_i g caps hf
      rw [di] at h
      have hE := bZ (P := P) hc.stp.hp.glb hc.fr f
      rw [hf] at hE
      generalize hv : a.eval f = fv at hE
      cases hE with
      | clo _ _ vs hl hr =>
       obtain ⟨x, hA, hk⟩ := h
       obtain ⟨fn, hfn, hbody, hname⟩ := hA.enter
       have hbn : fn.body.isNone = false := by cases hb : fn.body with
        | none => rw [hb] at hbody; cases hbody
        | some c => rfl
       have hrun : ∀ w', (execOp a.eval o).run P w' = .ok (.enter g (args.map a.eval ++ vs)) w' := by
        intro w'
        simp only [execOp, ho, resolve, hv, Deferred.ofValue]
        simp only [Sem.run_bind, Sem.run_pure, Result.andThen_ok, invoke, callFunc, run_program, hfn, hname, hbn, Bool.false_eq_true, if_false]
        simp
       have hcall : ∀ w', Cl w w' -> Calls P g (args.map a.eval ++ vs) w' fun e w'' => e = .returned x /\ x.oneCell' = true /\ Cl w w'' := by
        intro w' hw
        have hc' := hc.cl hw
        have hlp : Hp P [] (fun j => m (([] : List Nat).getD j 0)) (fun b => b < w'.heap.size) w' := by
         refine ⟨fun j o hlv => ?_, fun i j oi oj b hi => ?_, fun b hb => hb, fun j o b hlv => ?_, hc'.stp.hp.glb.mono (fun _ _ => rfl) hc'.stp.hp.sub⟩
         ·simp [live] at hlv
         ·simp [live] at hi
         ·simp [live] at hlv
        refine (hA.calls _ _ w' _ hlp (by rw [bH]; simp [hl]) fun j y hj => ?_).mono fun e w'' ⟨v, r, H', m', S', he, hK, hs, hrd⟩ => ?_
        ·rw [cI, Option.map_eq_some_iff] at hj
         obtain ⟨z, hz, rfl⟩ := hj
         refine cG (ids := []) hc'.stp.hp (fun b hb => hc'.stp.hp.sub b hb) (fun _ id o b hlv hb => (hc'.stp.hp.obj id o hlv).bE hb) ?_
         by_cases hlt : j < args.size
         ·rw [List.getElem?_append_left (by simpa using hlt)] at hz
          have := iH (P := P) hc'.stp.hp.glb hc'.fr args.toList j z hz
          have e : (args.map a.eval ++ vs).getD j undef = (args.toList.map a.eval).getD j undef := by
           simp [Array.getD_eq_getD_getElem?, Array.getElem?_append_left, hlt]
          rw [e]
          exact this
         ·rw [List.getElem?_append_right (by simpa using hlt)] at hz
          have := (hr _ z hz).mono (Cl.stp hc.stp.hp hw).keeps (fun _ h => h) (aW.refl _ _)
          have e : (args.map a.eval ++ vs).getD j undef = vs.getD (j - (args.toList.map σ.ev).length) undef := by
           simp only [Array.getD_eq_getD_getElem?]
           rw [Array.getElem?_append_right (by simp; omega)]
           simp
          rw [e]
          exact this
        ·obtain ⟨rfl, rfl⟩ := hK
         obtain ⟨hv', hxo⟩ := hrd.pv
         subst hv'
         have hno : ∀ b, ¬ Abs.own ([] : AH) (fun j => m (([] : List Nat).getD j 0)) b := by rintro b ⟨i, o, hl, _⟩; simp [Abs.live] at hl
         exact ⟨he, hxo, hw.trans ⟨fun b hb => hs.blk b hb (hno b), hs.os, hs.tape, hs.output⟩⟩
       have hxo : x.oneCell' = true := by
        obtain ⟨e, w'', fr, ⟨_, h1, _⟩, _⟩ := hcall w ⟨Ag.refl w, rfl, rfl, rfl⟩ []
        exact h1
       refine ⟨_, x, hk, Rd.mk hxo, fun w' hw => ?_, fun hcf => by cases hcf⟩
       unfold Oper.quietAt
       rw [hrun w']
       exact ⟨rfl, (hcall w' hw).mono fun e w'' ⟨h1, _, h2⟩ => ⟨h1, h2⟩⟩
     ·cases h
    ·cases h
   ·cases h
  ·cases h
theorem gU (hc : Cn P nt D H0 m0 S0 w0 σ m S a w) {dst : Option Tmp} {v : AV} {vv : Value} {k : AS -> Prop} (hv : Rd P σ.h m S w v vv) (hk : bG nt dst σ.fr σ.h v k) : ∃ σ', k σ' /\ Cn P nt D H0 m0 S0 w0 σ' m S (a.put dst vv) w :=
 b_ hc (Stp.refl hc.stp.hp) hv hk
theorem dW (hT : aK P ti) {ops : List Oper} : ∀ (l : List Oper) (K : AS -> Prop) (σ : AS) (a : Act), Cn P nt D H0 m0 S0 w0 σ m S a w -> cz P ti nt true ops l K σ ->
  ∀ (Q : Act -> Prop), (∀ σ' a', Cn P nt D H0 m0 S0 w0 σ' m S a' w -> K σ' -> Q a') -> wpQuiet P ops.toArray (Cl w) Q l a
 | [], K, σ, a, hc, h, Q, hK => wpQuiet_nil (hK _ _ hc h)
 | o :: l, K, ⟨fr, H⟩, a, hc, h, Q, hK => by
  refine wpQuiet_step fun K' hK' => ?_
  unfold cz at h
  rcases bz hc h with ⟨hw, σ', hy, hc'⟩ | ⟨hw, σ', hno, hc'⟩
  ·rw [if_pos hw]
   obtain ⟨av, v, hk, hrd, hq, _⟩ := gI hT hc' hy
   obtain ⟨σ2, h2, hc2⟩ := gU hc' hrd hk
   exact ⟨v, hq, hK' _ (dW hT l K σ2 _ hc2 h2 Q hK)⟩
  ·rw [if_neg (by rw [hw]; simp)]
   obtain ⟨σ2, h2, hc2⟩ := gU (vv := undef) hc' cu hno
   exact hK' _ (dW hT l K σ2 _ hc2 h2 Q hK)
theorem fR (hT : aK P ti) {ops : List Oper} : ∀ (l : List Oper) (K : AS -> Prop) (σ : AS) (a : Act), Cn P nt D H0 m0 S0 w0 σ m S a w -> cz P ti nt false ops l K σ ->
  ∀ (Q : Act -> Prop), (∀ σ' a', Cn P nt D H0 m0 S0 w0 σ' m S a' w -> K σ' -> Q a') -> wpStill P ops.toArray w Q l a
 | [], K, σ, a, hc, h, Q, hK => wpStill_nil (hK _ _ hc h)
 | o :: l, K, ⟨fr, H⟩, a, hc, h, Q, hK => by
  refine wpStill_step fun K' hK' => ?_
  unfold cz at h
  rcases bz hc h with ⟨hw, σ', hy, hc'⟩ | ⟨hw, σ', hno, hc'⟩
  ·rw [if_pos hw]
   obtain ⟨av, v, hk, hrd, _, hs⟩ := gI hT hc' hy
   obtain ⟨σ2, h2, hc2⟩ := gU hc' hrd hk
   unfold Oper.still
   rw [hs rfl w (Ag.refl w), Oper.stillUpon_value]
   exact hK' _ (fR hT l K σ2 _ hc2 h2 Q hK)
  ·rw [if_neg (by rw [hw]; simp)]
   obtain ⟨σ2, h2, hc2⟩ := gU (vv := undef) hc' cu hno
   exact hK' _ (fR hT l K σ2 _ hc2 h2 Q hK)
theorem qA (hT : aK P ti) {ops : List Oper} {i : Nat} {K : AS -> Prop} {Q : Exit -> Act -> World -> Prop} {N : Act -> World -> Prop} (hc : Cn P nt D H0 m0 S0 w0 σ m S a w) (h : er P ti nt ops i K σ)
  (hN : ∀ σ' m' S' a' w', Cn P nt D H0 m0 S0 w0 σ' m' S' a' w' -> K σ' -> N a' w') : Go.wpOp P ops.toArray Q i N a w := by
 obtain ⟨fr, H⟩ := σ
 unfold er at h
 unfold Go.wpOp
 simp only at h
 split at h
 ·rename_i o ho
  have ho' : ops.toArray[i]? = some o := by simpa using ho
  simp only [ho']
  rcases bz hc h with ⟨hw, σ', hy, hc'⟩ | ⟨hw, σ', hno, hc'⟩
  ·rw [if_pos hw]
   refine .inl (jl hT hc' hy fun av H' m' S' v w' hk hs hrd => ?_)
   obtain ⟨σ2, h2, hc2⟩ := b_ hc' hs hrd hk
   exact hN _ _ _ _ _ hc2 h2
  ·rw [if_neg (by rw [hw]; simp)]
   obtain ⟨σ2, h2, hc2⟩ := gU (vv := undef) hc' cu hno
   exact hN _ _ _ _ _ hc2 h2
 ·cases h
def Found (P : Program) (fs : List (Fact × Act)) (w : World) : Prop := ∀ p ∈ fs, (execOp p.2.eval p.1.o).run P w = .ok (.value p.1.x) w
theorem iZ (hT : aK P ti) (hp : Hp P σ.h m S w) {K : Prop} : ∀ (fs : List (Fact × Act)), (∀ p ∈ fs, ∀ t, Rd P σ.h m S w (p.1.fr t) (p.2.tmps.getD t undef)) -> du ti σ.h (fs.map (·.1)) K -> Found P fs w /\ K
 | [], _, h => ⟨fun p hp => (by cases hp), h⟩
 | p :: fs, hf, h => by
  obtain ⟨av, v, ⟨h1, h4⟩, h2, h3⟩ := eg (σ := ⟨p.1.fr, σ.h⟩) hT hp (hf p (List.mem_cons_self ..)) h
  subst h1
  have hd : v = p.1.x := by
   cases h2 with
   | p _ _ h2 => exact p.1.det _ _ _ h2
  subst hd
  obtain ⟨h5, h6⟩ := iZ hT hp fs (fun q hq => hf q (List.mem_cons_of_mem _ hq)) h4
  refine ⟨fun q hq => ?_, h6⟩
  rcases List.mem_cons.1 hq with rfl | hq
  ·exact h3 w (Ag.refl w)
  ·exact h5 q hq
def mC (P : Program) (fs : List (Fact × Act)) (ks : List ((Nat -> Prop) × World)) (w : World) : Prop := Found P fs w /\ ∀ p ∈ ks, b8 p.1 p.2 w
theorem g_ {md : Region.Mode} {ops : Array Oper} {Q : Exit -> Act -> World -> Prop} {A B : World -> Prop} (hAB : ∀ w, A w -> B w) : ∀ (n : Nat) (ls : Array Bool) (a : Act) (w : World), wpAnyH P md ops Q A n ls a w -> wpAnyH P md ops Q B n ls a w
 | 0, _, _, _, h => h
 | n + 1, _, _, _, h => ⟨h.1, fun i hi => wpOp_mono (fun a' w' h' => ⟨hAB _ h'.1, g_ hAB n _ a' w' h'.2⟩) (h.2 i hi)⟩
theorem j8 (hc : Cn P nt D H0 m0 S0 w0 σ m S a w) {dst : Option Tmp} {v : AV} {vv : Value} {k : AS -> Prop} (hv : Rd P σ.h m S w v vv) (hk : bG nt dst σ.fr σ.h v k) :
  ∃ σ', k σ' /\ σ'.h = σ.h /\ Cn P nt D H0 m0 S0 w0 σ' m S (a.put dst vv) w := by
 have hk' : bG nt dst σ.fr σ.h v fun s => k s /\ s.h = σ.h := by
  unfold bG at hk ⊢
  cases dst with
  | none =>
   simp only at hk ⊢
   rw [cZ] at hk ⊢
   exact ⟨hk, rfl⟩
  | some d =>
   simp only at hk ⊢
   cases hb : Nat.blt d nt with
   | true =>
    rw [hb] at hk
    simp only at hk ⊢
    rw [eL, cZ] at hk ⊢
    exact ⟨hk, rfl⟩
   | false =>
    rw [hb] at hk
    cases hk
 obtain ⟨σ', ⟨h1, h2⟩, h3⟩ := gU hc hv hk'
 exact ⟨σ', h1, h2, h3⟩
theorem mO (hT : aK P ti) {ops : List Oper} (hn : Region.noSelect ops.toArray = true) {Q : Exit -> Act -> World -> Prop} (hQ : ∀ c a w, ¬ Q (.panic c) a w) {K : AS -> Prop} (hK : ∀ σ' m' S' a' w', Cn P nt D H0 m0 S0 w0 σ' m' S' a' w' -> K σ' -> Q .normal a' w') :
  ∀ (sc : Sc) (n : Nat) (ls : Array Bool) (fs : List (Fact × Act)) (ks : List ((Nat -> Prop) × World)) (σ : AS) (m : Nat -> Value) (S : Nat -> Prop) (a : Act) (w : World), scB ops.toArray sc n ls = true -> Cn P nt D H0 m0 S0 w0 σ m S a w ->
   (∀ p ∈ fs, ∀ t, Rd P σ.h m S w (p.1.fr t) (p.2.tmps.getD t undef)) -> (∀ p ∈ ks, ∀ b, p.1 b -> S b) -> mC P fs ks w -> cQ P ti nt ops sc (fs.map (·.1)) K σ -> wpAnyH P .any ops.toArray Q (mC P fs ks) n ls a w := by
 intro sc
 have step : ∀ {i : Nat} {k : Sc}, (∀ (n : Nat) (ls : Array Bool) (fs : List (Fact × Act)) (ks : List ((Nat -> Prop) × World)) (σ : AS) (m : Nat -> Value) (S : Nat -> Prop) (a : Act) (w : World), scB ops.toArray k n ls = true -> Cn P nt D H0 m0 S0 w0 σ m S a w ->
   (∀ p ∈ fs, ∀ t, Rd P σ.h m S w (p.1.fr t) (p.2.tmps.getD t undef)) -> (∀ p ∈ ks, ∀ b, p.1 b -> S b) -> mC P fs ks w -> cQ P ti nt ops k (fs.map (·.1)) K σ -> wpAnyH P .any ops.toArray Q (mC P fs ks) n ls a w) ->
   ∀ (n : Nat) (ls : Array Bool) (fs : List (Fact × Act)) (ks : List ((Nat -> Prop) × World)) (σ : AS) (m : Nat -> Value) (S : Nat -> Prop) (a : Act) (w : World), scB ops.toArray k n (ls.setIfInBounds i true) = true -> Cn P nt D H0 m0 S0 w0 σ m S a w ->
   (∀ p ∈ fs, ∀ t, Rd P σ.h m S w (p.1.fr t) (p.2.tmps.getD t undef)) -> (∀ p ∈ ks, ∀ b, p.1 b -> S b) -> mC P fs ks w -> er P ti nt ops i (fun σ => du ti σ.h (fs.map (·.1)) (cQ P ti nt ops k (fs.map (·.1)) K σ)) σ ->
   Go.wpOp P ops.toArray Q i (fun a' w' => mC P fs ks w' /\ wpAnyH P .any ops.toArray Q (mC P fs ks) n (ls.setIfInBounds i true) a' w') a w := by
  intro i k ih n ls fs ks σ m S a w hB hc hf hks hw h
  have hc0 : Cn P nt a.defers σ.h m S w σ m S a w := ⟨Stp.refl hc.stp.hp, hc.fr, hc.sz, gX⟩
  refine qA hT hc0 h fun σ' m' S' a' w' hc' hk => ?_
  have hs := hc'.stp
  have hc2 : Cn P nt D H0 m0 S0 w0 σ' m' S' a' w' := ⟨hc.stp.trans hs, hc'.fr, hc'.sz, zG hc.stp.hp hs hc.stp.size hc.nd hc'.nd⟩
  have hf' : ∀ p ∈ fs, ∀ t, Rd P σ'.h m' S' w' (p.1.fr t) (p.2.tmps.getD t undef) := fun p hp t => (hf p hp t).mono hs.keeps hs.sub hs.old
  obtain ⟨h5, h6⟩ := iZ hT hc2.stp.hp fs hf' hk
  have hC : mC P fs ks w' := ⟨h5, fun p hp b hb => (hs.keeps b (hks p hp b hb)).trans (hw.2 p hp b hb)⟩
  exact ⟨hC, ih n _ fs ks σ' m' S' a' w' hB hc2 hf' (fun p hp b hb => hs.sub b (hks p hp b hb)) hC h6⟩
 induction sc with
 | done =>
  intro n ls fs ks σ m S a w hB hc hf hks hw h
  exact wpAnyH_done (List.isEmpty_iff.1 (by cases n <;> exact hB)) (hK _ _ _ _ _ hc h) n
 | take i k ih =>
  intro n ls fs ks σ m S a w hB hc hf hks hw h
  cases n with
  | zero => cases hB
  | succ n =>
   obtain ⟨fr, H⟩ := σ
   simp only [scB, Bool.and_eq_true] at hB
   obtain ⟨⟨h1, h2⟩, h4⟩ := hB
   unfold cQ at h
   split at h
   ·rename_i o ho
    have ho' : ops.toArray[i]? = some o := by simpa using ho
    split at h
    ·cases h
    ·rename_i hl
     rcases bz hc h with ⟨hwt, fr', hy, hc'⟩ | ⟨hwt, fr', hno, hc'⟩
     ·obtain ⟨av, v, hk, hrd, hrun⟩ := jj hT hc'.stp.hp hc'.fr hy
      obtain ⟨σ2, h5, hH, hc2⟩ := j8 hc' hrd hk
      exact wpAnyH_take ho' hn h2 h1 (fun c a w hq => absurd hq (hQ _ _ _)) (.inl ⟨hwt, fun w' _ => hrun w' (fun e => by rw [hl] at e; cases e)⟩) hw (ih n _ fs ks σ2 m S _ w h4 hc2 (by rw [hH]; exact hf) hks hw h5)
     ·obtain ⟨σ2, h5, hH, hc2⟩ := j8 (vv := undef) hc' cu hno
      exact wpAnyH_take ho' hn h2 h1 (fun c a w hq => absurd hq (hQ _ _ _)) (.inr ⟨hwt, rfl⟩) hw (ih n _ fs ks σ2 m S _ w h4 hc2 (by rw [hH]; exact hf) hks hw h5)
   ·cases h
 | load i k ih =>
  intro n ls fs ks σ m S a w hB hc hf hks hw h
  cases n with
  | zero => cases hB
  | succ n =>
   obtain ⟨fr, H⟩ := σ
   simp only [scB, Bool.and_eq_true] at hB
   obtain ⟨⟨h1, h2⟩, h4⟩ := hB
   unfold cQ at h
   split at h
   ·rename_i o ho
    have ho' : ops.toArray[i]? = some o := by simpa using ho
    split at h
    ·rename_i hg
     obtain ⟨av, v, hk, hrd, hrun⟩ := jj hT hc.stp.hp hc.fr h
     split at hk
     ·rename_i y
      split at hk
      ·rename_i F hF
       obtain ⟨e1, e2, e3⟩ := s5 hF
       have hv : v = F.x := by
        cases hrd with
        | p _ _ h => exact F.det _ _ _ (by rw [e3]; exact h)
       subst hv
       obtain ⟨σ2, h5, hH, hc2⟩ := j8 hc hrd hk
       have hw2 : mC P ((F, a) :: fs) ks w := ⟨fun p hp => by
        rcases List.mem_cons.1 hp with rfl | hp
        ·rw [e2]; exact hrun w fun _ => Ag.refl w
        ·exact hw.1 p hp, hw.2⟩
       refine g_ (A := mC P ((F, a) :: fs) ks) (fun w h => ⟨fun p hp => h.1 p (List.mem_cons_of_mem _ hp), h.2⟩) _ _ _ _ ?_
       refine wpAnyH_take ho' hn h2 h1 (fun c a w hq => absurd hq (hQ _ _ _)) (.inl ⟨by simp [Region.wanted, hg], fun w' hS => by have := hS.1 (F, a) (List.mem_cons_self ..); rw [e2] at this; exact this⟩) hw2 (ih n _ ((F, a) :: fs) ks σ2 m S _ w h4 hc2 (fun p hp => ?_) hks hw2 h5)
       rw [hH]
       rcases List.mem_cons.1 hp with rfl | hp
       ·rw [e1]; exact hc.fr
       ·exact hf p hp
      ·cases hk
     ·cases hk
    ·cases h
   ·cases h
 | frz i k ih =>
  intro n ls fs ks σ m S a w hB hc hf hks hw h
  cases n with
  | zero => cases hB
  | succ n =>
   obtain ⟨fr, H⟩ := σ
   simp only [scB, Bool.and_eq_true] at hB
   obtain ⟨⟨h1, h2⟩, h4⟩ := hB
   unfold cQ at h
   split at h
   ·rename_i o ho
    have ho' : ops.toArray[i]? = some o := by simpa using ho
    rcases bz hc h with ⟨hwt, fr', hy, hc'⟩ | ⟨hwt, fr', hno, hc'⟩
    ·split at hy
     ·rename_i t x hop
      split at hy
      ·rename_i cs hx
       have hE := bZ (P := P) hc'.stp.hp.glb hc'.fr x
       rw [show (AS.mk fr' H).ev x = _ from hx] at hE
       obtain ⟨av, v, hk, hrd, hrun⟩ := fq hT hy hE
       obtain ⟨σ2, h5, hH, hc2⟩ := j8 hc' hrd hk
       have hw2 : mC P fs ((S, w) :: ks) w := ⟨hw.1, fun p hp => by
        rcases List.mem_cons.1 hp with rfl | hp
        ·exact fun _ _ => rfl
        ·exact hw.2 p hp⟩
       refine g_ (A := mC P fs ((S, w) :: ks)) (fun w h => ⟨h.1, fun p hp => h.2 p (List.mem_cons_of_mem _ hp)⟩) _ _ _ _ ?_
       refine wpAnyH_take ho' hn h2 h1 (fun c a w hq => absurd hq (hQ _ _ _)) (.inl ⟨hwt, fun w' hS => ?_⟩) hw2 (ih n _ fs ((S, w) :: ks) σ2 m S _ w h4 hc2 (by rw [hH]; exact hf) (fun p hp => ?_) hw2 h5)
       ·have := hrun w' (hS.2 (S, w) (List.mem_cons_self ..))
        simp [execOp, hop, this]
       ·rcases List.mem_cons.1 hp with rfl | hp
        ·exact fun _ h => h
        ·exact hks p hp
      ·cases hy
     ·cases hy
    ·obtain ⟨σ2, h5, hH, hc2⟩ := j8 (vv := undef) hc' cu hno
     exact wpAnyH_take ho' hn h2 h1 (fun c a w hq => absurd hq (hQ _ _ _)) (.inr ⟨hwt, rfl⟩) hw (ih n _ fs ks σ2 m S _ w h4 hc2 (by rw [hH]; exact hf) hks hw h5)
   ·cases h
 | one i k ih =>
  intro n ls fs ks σ m S a w hB hc hf hks hw h
  cases n with
  | zero => cases hB
  | succ n =>
   simp only [scB, Bool.and_eq_true] at hB
   obtain ⟨⟨h1, _⟩, h4⟩ := hB
   refine wpAnyH_all (eq_of_beq h1) (by simp) fun j hj => ?_
   obtain rfl : j = i := by simpa using hj
   exact step ih n ls fs ks σ m S a w h4 hc hf hks hw h
 | two i j k l ihk ihl =>
  intro n ls fs ks σ m S a w hB hc hf hks hw h
  cases n with
  | zero => cases hB
  | succ n =>
   simp only [scB, Bool.and_eq_true] at hB
   obtain ⟨⟨⟨⟨h1, _⟩, _⟩, h4⟩, h5⟩ := hB
   refine wpAnyH_all (eq_of_beq h1) (by simp) fun t ht => ?_
   have ht' : t = i \/ t = j := by simpa using ht
   rcases ht' with rfl | rfl
   ·exact step ihk n ls fs ks σ m S a w h4 hc hf hks hw h.1
   ·exact step ihl n ls fs ks σ m S a w h5 hc hf hks hw h.2
 | three i j q k l p ihk ihl ihp =>
  intro n ls fs ks σ m S a w hB hc hf hks hw h
  cases n with
  | zero => cases hB
  | succ n =>
   simp only [scB, Bool.and_eq_true] at hB
   obtain ⟨⟨⟨⟨⟨⟨h1, _⟩, _⟩, _⟩, h4⟩, h5⟩, h6⟩ := hB
   refine wpAnyH_all (eq_of_beq h1) (by simp) fun t ht => ?_
   have ht' : t = i \/ t = j \/ t = q := by simpa using ht
   rcases ht' with rfl | rfl | rfl
   ·exact step ihk n ls fs ks σ m S a w h4 hc hf hks hw h.1
   ·exact step ihl n ls fs ks σ m S a w h5 hc hf hks hw h.2.1
   ·exact step ihp n ls fs ks σ m S a w h6 hc hf hks hw h.2.2
theorem vY (hT : aK P ti) (hc : Cn P nt D H0 m0 S0 w0 σ m S a w) {ops : List Oper} {K : AS -> Prop} {Q : Exit -> Act -> World -> Prop} {sc : Ln} (hB : lnB ops.toArray sc ops.length (Array.replicate ops.length false) [] = true) (h : dX P ti nt ops sc [] K σ)
  (hK : ∀ σ' m' S' a' w', Cn P nt D H0 m0 S0 w0 σ' m' S' a' w' -> K σ' -> Q .normal a' w') : wpAny P .any ops.toArray Q ops.toArray.size (Array.replicate ops.toArray.size false) a { w with drawn := w.drawn + 1 } := by
 obtain ⟨fr, H⟩ := σ
 have hc1 := hc.cl (w' := { w with drawn := w.drawn + 1 }) ⟨fun _ _ => rfl, rfl, rfl, rfl⟩
 have := zJ hT hK sc ops.length (Array.replicate ops.length false) [] fr H (by simpa using hB) ⟨fun p hp => (by cases hp), .nil⟩ h 0 [] rfl (List.Sublist.refl _) _ (fun j d => rfl) m S a _ hc1
 simpa using this
theorem dN.sound (hT : aK P ti) (hc : Cn P nt D H0 m0 S0 w0 σ m S a w) {ops : List Oper} {K : AS -> Prop} {id : Nat} {Q : Exit -> Act -> World -> Prop} {tl : Bool} (h : dN tl P ti nt ops K σ)
  (hK : ∀ σ' m' S' a' w', Cn P nt D H0 m0 S0 w0 σ' m' S' a' w' -> K σ' -> Q .normal a' w') : (Code.region id ops.toArray true).wp P Q a w := by
 cases h with
 | quiet hm hB h =>
  refine wp_region_quiet (C := Cl w) hm hB ⟨fun _ _ => rfl, rfl, rfl, rfl⟩ ?_
  exact dW hT _ K σ a hc h _ fun σ' a' hc' hk w' hw => hK _ _ _ _ _ (hc'.cl hw) hk
 | tail ht n hm hB h =>
  refine wp_region_still_tail n hm hB ?_
  have hc1 := hc.cl (w' := { w with drawn := w.drawn + 1 }) ⟨fun _ _ => rfl, rfl, rfl, rfl⟩
  exact fR hT _ _ σ a hc1 h _ fun σ' a' hc' hk => eX hT _ K σ' m S a' _ hc' hk hK
 | bA sc hm hn hB h =>
  have hc1 := hc.cl (w' := { w with drawn := w.drawn + 1 }) ⟨fun _ _ => rfl, rfl, rfl, rfl⟩
  refine Code.wp_mono (Q := fun e a w => e = .normal /\ Q .normal a w) (fun e a w h => by obtain ⟨rfl, h⟩ := h; exact h) (wp_region_any hm ?_)
  exact wpAny_of_held _ _ _ _ (mO hT hn (fun c a w h => by cases h.1) (fun σ' m' S' a' w' hc' hk => ⟨rfl, hK _ _ _ _ _ hc' hk⟩) sc _ _ [] [] σ m S a _ (by simpa using hB) hc1 (fun p hp => by cases hp) (fun p hp => by cases hp) ⟨fun p hp => (by cases hp), fun p hp => (by cases hp)⟩ h)
 | lin sc hm hB h => exact wp_region_any hm (vY hT hc hB h hK)
theorem dN.any (hT : aK P ti) (hc : Cn P nt D H0 m0 S0 w0 σ m S a w) {ops : List Oper} {K : AS -> Prop} {Q : Exit -> Act -> World -> Prop} (h : dN false P ti nt ops K σ)
  (hK : ∀ σ' m' S' a' w', Cn P nt D H0 m0 S0 w0 σ' m' S' a' w' -> K σ' -> Q .normal a' w') :
  P.follows .mixedOrders = true /\ wpAny P .any ops.toArray (fun e a w => e = .normal /\ Q .normal a w) ops.toArray.size (Array.replicate ops.toArray.size false) a { w with drawn := w.drawn + 1 } := by
 cases h with
 | quiet hm hB h =>
  refine ⟨hm, ?_⟩
  have h0 := dW hT _ K σ a hc h (fun a' => ∀ w', Cl w w' -> Q .normal a' w') fun σ' a' hc' hk w' hw => hK _ _ _ _ _ (hc'.cl hw) hk
  have hl := Bool.and_eq_true_iff.1 hB
  have h1 := wpAnyQ_lex (md := .any) hl.1 ops 0 (Array.replicate ops.length false) a (by simp) (by simpa using hl.2) h0
  have h2 := wpAny_of_quiet (Q' := fun e a w => e = .normal /\ Q .normal a w) (fun a' w' hw' h => ⟨rfl, h w' hw'⟩) _ _ _ { w with drawn := w.drawn + 1 } ⟨fun _ _ => rfl, rfl, rfl, rfl⟩ h1
  simpa using h2
 | tail ht n hm hB h => cases ht
 | bA sc hm hn hB h =>
  have hc1 := hc.cl (w' := { w with drawn := w.drawn + 1 }) ⟨fun _ _ => rfl, rfl, rfl, rfl⟩
  exact ⟨hm, wpAny_of_held _ _ _ _ (mO hT hn (fun c a w h => by cases h.1) (fun σ' m' S' a' w' hc' hk => ⟨rfl, hK _ _ _ _ _ hc' hk⟩) sc _ _ [] [] σ m S a _ (by simpa using hB) hc1 (fun p hp => by cases hp) (fun p hp => by cases hp) ⟨fun p hp => (by cases hp), fun p hp => (by cases hp)⟩ h)⟩
 | lin sc hm hB h => exact ⟨hm, vY hT hc hB h fun σ' m' S' a' w' hc' hk => ⟨rfl, hK _ _ _ _ _ hc' hk⟩⟩
theorem A2 {l n : Nat} {o : Oper} {a : Act} {w : World} {next : Act -> World -> Prop} {Q : Exit -> Act -> World -> Prop} (hd : ∀ c, o.op ≠ .defer c) (h : o.wp P a w next Q) : o.wpIn (Fence.wide.inRound l) n P a w next Q := by
 refine ⟨fun _ _ => trivial, ?_⟩
 rw [Oper.semAt_eq _ _ _ hd]
 unfold Oper.wp at h
 revert h
 generalize (execOp a.eval o).run P w = r
 intro h
 cases r with
 | ok x w' =>
  cases x with
  | value v => exact h
  | skip => exact h
  | defer d => exact h
  | enter f args =>
   refine ⟨fun h => (by cases h), ?_⟩
   show CallsIn Fence.wide _ P f args w' _
   exact callsIn_wide.2 h
  | row r args =>
   refine ⟨fun h => (by cases h), fun c cs _ => ?_⟩
   obtain ⟨v, w2, h1, h2⟩ := h c cs
   exact ⟨v, w2, h1, stepsIn_wide.2 h2⟩
  | _ => exact h.elim
 | halt x w' => cases x <;> exact h
theorem sb {l n : Nat} {ops : Array Oper} {Q : Exit -> Act -> World -> Prop} (hd : ∀ (j : Nat) (o : Oper), ops[j]? = some o -> ∀ c, o.op ≠ .defer c) (hQ : ∀ a w, ¬ Q .outgrown a w) :
  ∀ (k : Nat) (ls : Array Bool) (a : Act) (w : World), wpAny P .any ops Q k ls a w -> wpAnyIn (Fence.wide.inRound l) n P .any ops Q k ls a w
 | 0, ls, a, w, h => h
 | k + 1, ls, a, w, h => by
  refine ⟨h.1, fun i hi => ?_⟩
  have h1 := h.2 i hi
  unfold Go.wpOp at h1
  unfold wpOpIn
  split
  ·rename_i ho
   rw [ho] at h1
   exact sb hd hQ k _ _ _ h1
  ·rename_i o ho
   rw [ho] at h1
   simp only at h1
   split
   ·rename_i hw
    rw [if_pos hw] at h1
    rcases h1 with h1 | ⟨_, a', w', h1⟩
    ·exact A2 (hd i o ho) (Oper.wp_mono (fun a w h => sb hd hQ k _ a w h) h1)
    ·exact absurd h1 (hQ _ _)
   ·rename_i hw
    rw [if_neg hw] at h1
    exact ⟨fun _ _ => trivial, sb hd hQ k _ _ _ h1⟩
theorem dN.mF {l n : Nat} (hT : aK P ti) (hc : Cn P nt D H0 m0 S0 w0 σ m S a w) {ops : List Oper} {K : AS -> Prop} {id : Nat} {Q : Exit -> Act -> World -> Prop} (hd : ∀ o ∈ ops, ∀ c, o.op ≠ .defer c) (h : dN false P ti nt ops K σ)
  (hK : ∀ σ' m' S' a' w', Cn P nt D H0 m0 S0 w0 σ' m' S' a' w' -> K σ' -> Q .normal a' w') : (Code.region id ops.toArray true).wpIn (Fence.wide.inRound l) n P Q a w := by
 obtain ⟨hm, h1⟩ := h.any (Q := Q) hT hc hK
 refine Go.wpIn_mono (wpIn_region_any hm (sb (fun j o ho => hd o (List.mem_of_getElem? (by simpa using ho))) (fun a w h => by cases h.1) _ _ _ _ h1)) fun e a w h => ?_
 obtain ⟨rfl, h⟩ := h
 exact h
end
end Go.Abs
namespace Go.Abs
open Go.RowKit
structure LS where
 fr : List (Nat × AV)
 h : AH
def dQ : List (Nat × AV) -> Nat -> AV
 | [], _ => .dead
 | (t, x) :: r, s => match Nat.beq s t with
  | true => x
  | false => dQ r s
def LS.st (L : LS) : AS := ⟨dQ L.fr, L.h⟩
def ρf (k0 : Nat) (l : List Nat) (i : Nat) : Nat := match Nat.blt i k0 with
 | true => i
 | false => l.getD (i - k0) 0
def yO (ρ : Nat -> Nat) : List (Nat × AV) -> (Nat -> AV) -> Prop
 | [], _ => True
 | (t, x) :: r, fr => fr t = x.ren ρ /\ yO ρ r fr
def jg (ρ : Nat -> Nat) : Nat -> AH -> AH -> Prop
 | _, [], _ => True
 | i, none :: r, H => jg ρ (i + 1) r H
 | i, some o :: r, H => H[ρ i]? = some (some (o.ren ρ)) /\ jg ρ (i + 1) r H
def liveρ (ρ : Nat -> Nat) : Nat -> AH -> List Nat
 | _, [] => []
 | i, none :: r => liveρ ρ (i + 1) r
 | i, some _ :: r => ρ i :: liveρ ρ (i + 1) r
def uj (n : Nat) : List (Nat × AV) -> Bool
 | [] => true
 | (_, x) :: r => x.wf n && uj n r
def wfH (n : Nat) : AH -> Bool
 | [] => true
 | none :: r => wfH n r
 | some o :: r => o.wf n && wfH n r
def tS (σ : AS) (p : TypeId × Nat) : AS := ⟨aM σ.fr p.2 (.buf σ.h.length), σ.h ++ [some (.buf p.1 true [])]⟩
def Bz (ti : TypeId -> Option TI) (σ : AS) (p : TypeId × Nat) : Prop := match ti p.1 with
 | some ⟨_, _ + 1, _, _⟩ => σ.fr p.2 = .p (.list true [])
 | _ => False
def Ax (ti : TypeId -> Option TI) (σ : AS) : List (TypeId × Nat) -> (AS -> Prop) -> Prop
 | [], k => k σ
 | p :: r, k => Bz ti σ p /\ Ax ti (tS σ p) r k
structure EH (k0 : Nat) (L : LS) (l : List Nat) (σ : AS) : Prop where
 hl : k0 + l.length = L.h.length
 hf : yO (ρf k0 l) L.fr σ.fr
 hh : jg (ρf k0 l) 0 L.h σ.h
 hi : nodupB (liveρ (ρf k0 l) 0 L.h) = true
 hw : (uj L.h.length L.fr && wfH L.h.length L.h) = true
def uo (H : AH) : List Nat -> (Nat -> AV) -> Nat -> AV
 | [], fr => fr
 | s :: r, fr => aM (uo H r fr) s (jV H (fr s))
def lV (H : AH) (id j g : Nat) (xs : List PV) (cs : List AV) : AH := ((H.set g none) ++ [some (AO.cells ((flat xs).map AV.p))]).set id (some (AO.cells (cs.set j (.sub H.length 0 xs.length))))
inductive aq (ti : TypeId -> Option TI) (k0 : Nat) (L : LS) : AS -> Prop
 | mk (σ : AS) (ad : List (TypeId × Nat)) (l : List Nat) (h : Ax ti σ ad (EH k0 L l)) : aq ti k0 L σ
 | ez (σ : AS) (fz slots : List Nat) (h : aq ti k0 L ⟨uo (aP σ.h fz) slots σ.fr, aP σ.h fz⟩) : aq ti k0 L σ
 | Eh (σ : AS) (slot id : Nat) (e : TypeId) (nl : Bool) (xs : List PV) (hs : σ.fr slot = .buf id) (hl : live σ.h id (.buf e nl xs)) (h : aq ti k0 L ⟨aM σ.fr slot (.sub id 0 xs.length), σ.h⟩) : aq ti k0 L σ
 | cells (σ : AS) (cs : List Nat) (h : aq ti k0 L ⟨σ.fr, jq σ.h cs⟩) : aq ti k0 L σ
 | ret (σ : AS) (slot id : Nat) (cs : List PV) (hs : σ.fr slot = .ptr id 0) (hl : live σ.h id (.cells (cs.map .p))) (h : aq ti k0 L ⟨aM σ.fr slot (.aN cs), σ.h.set id none⟩) : aq ti k0 L σ
 | rows (σ : AS) (id j g : Nat) (e : TypeId) (nl : Bool) (xs : List PV) (cs : List AV) (hl : live σ.h id (.cells cs)) (hj : cs[j]? = some (.buf g)) (hg : live σ.h g (.buf e nl xs)) (h0 : xs ≠ [])
   (h : aq ti k0 L ⟨σ.fr, lV σ.h id j g xs cs⟩) : aq ti k0 L σ
 | y_ (σ : AS) (id j g sz : Nat) (xs : List PV) (cs : List AV) (hl : live σ.h id (.cells cs)) (hj : cs[j]? = some (.sub g 0 xs.length)) (hg : live σ.h g (.cells ((flat xs).map .p))) (hz : ∀ x ∈ xs, x.cells.length = sz) (h0 : id ≠ g)
   (h : aq ti k0 L ⟨σ.fr, (σ.h.set g none).set id (some (.cells (cs.set j (.p (.list false xs)))))⟩) : aq ti k0 L σ
 | cell (σ : AS) (id j : Nat) (e : TypeId) (cs : List AV) (k : TK) (n b : Nat) (z : Value) (hl : live σ.h id (.cells cs)) (hj : cs[j]? = some (.p (.list true []))) (hi : ti e = some ⟨k, n + 1, b, z⟩)
   (h : aq ti k0 L ⟨σ.fr, (σ.h ++ [some (AO.buf e true [])]).set id (some (.cells (cs.set j (AV.buf σ.h.length))))⟩) : aq ti k0 L σ
 | nM (σ : AS) (id j g : Nat) (e : TypeId) (nl : Bool) (xs : List PV) (y : PV) (cs : List AV) (hl : live σ.h id (.cells cs)) (hj : cs[j]? = some (.buf g)) (hg : live σ.h g (.buf e nl (xs ++ [y]))) (h0 : id ≠ g)
   (h : aq ti k0 L ⟨σ.fr, gY σ.h id j g (.bn e xs (y.cells.map .p)) cs⟩) : aq ti k0 L σ
 | ly (σ : AS) (id j g : Nat) (e : TypeId) (xs ps : List PV) (l : List AV) (y : PV) (cs : List AV) (hl : live σ.h id (.cells cs)) (hj : cs[j]? = some (.buf g)) (hg : live σ.h g (.bn e xs l)) (hps : lG (l.map (jV σ.h)) = some ps) (hy : y.cells = ps) (h0 : id ≠ g)
   (h : aq ti k0 L ⟨σ.fr, gY σ.h id j g (.buf e false (xs ++ [y])) cs⟩) : aq ti k0 L σ
 | An (σ : AS) (id q : Nat) (e e2 : TypeId) (xs : List PV) (l : List AV) (k : TK) (n b : Nat) (z : Value) (hl : live σ.h id (.bn e xs l)) (hj : l[q]? = some (.p (.list true []))) (hi : ti e2 = some ⟨k, n + 1, b, z⟩)
   (h : aq ti k0 L ⟨σ.fr, (σ.h ++ [some (AO.buf e2 true [])]).set id (some (.bn e xs (l.set q (AV.buf σ.h.length))))⟩) : aq ti k0 L σ
 | qU (σ : AS) (slot g : Nat) (e : TypeId) (nl : Bool) (xs : List PV) (hs : σ.fr slot = .buf g) (hg : live σ.h g (.buf e nl xs)) (h0 : xs ≠ [])
   (h : aq ti k0 L ⟨aM σ.fr slot (.sub σ.h.length 0 xs.length), (σ.h.set g none) ++ [some (AO.cells ((flat xs).map AV.p))]⟩) : aq ti k0 L σ
 | qM (σ : AS) (slot g sz : Nat) (xs : List PV) (hs : σ.fr slot = .sub g 0 xs.length) (hg : live σ.h g (.cells ((flat xs).map .p))) (hz : ∀ x ∈ xs, x.cells.length = sz)
   (h : aq ti k0 L ⟨aM σ.fr slot (.p (.list false xs)), σ.h.set g none⟩) : aq ti k0 L σ
 | CE (σ : AS) (id j g : Nat) (e : TypeId) (nl : Bool) (xs : List PV) (cs : List AV) (hl : live σ.h id (.cells cs)) (hj : cs[j]? = some (.buf g)) (hg : live σ.h g (.buf e nl xs))
   (h : aq ti k0 L ⟨σ.fr, σ.h.set id (some (.cells (cs.set j (.sub g 0 xs.length))))⟩) : aq ti k0 L σ
theorem aq.of {ti : TypeId -> Option TI} {k0 : Nat} {L : LS} {σ : AS} (l : List Nat) (hl : k0 + l.length = L.h.length) (hf : yO (ρf k0 l) L.fr σ.fr) (hh : jg (ρf k0 l) 0 L.h σ.h) (hi : nodupB (liveρ (ρf k0 l) 0 L.h) = true) (hw : (uj L.h.length L.fr && wfH L.h.length L.h) = true) : aq ti k0 L σ :=
 .mk _ [] l ⟨hl, hf, hh, hi, hw⟩
theorem jH {ρ : Nat -> Nat} {H : AH} : ∀ {h : AH} {i : Nat}, jg ρ i h H -> ∀ {j : Nat} {o : AO}, live h j o -> live H (ρ (i + j)) (o.ren ρ)
 | [], i, _, j, o, hl => by simp [live] at hl
 | none :: r, i, hs, j, o, hl => by
  cases j with
  | zero => simp [live] at hl
  | succ j =>
   have := jH (h := r) (i := i + 1) hs (j := j) (o := o) (by simpa [live] using hl)
   rwa [show i + 1 + j = i + (j + 1) by omega] at this
 | some p :: r, i, hs, j, o, hl => by
  cases j with
  | zero => simp [live] at hl; subst hl; exact hs.1
  | succ j =>
   have := jH (h := r) (i := i + 1) hs.2 (j := j) (o := o) (by simpa [live] using hl)
   rwa [show i + 1 + j = i + (j + 1) by omega] at this
theorem liveρ_mem {ρ : Nat -> Nat} : ∀ {h : AH} {i j : Nat}, (∃ o, live h j o) -> ρ (i + j) ∈ liveρ ρ i h
 | [], i, j, ⟨o, hl⟩ => by simp [live] at hl
 | none :: r, i, j, ⟨o, hl⟩ => by
  cases j with
  | zero => simp [live] at hl
  | succ j =>
   have := liveρ_mem (ρ := ρ) (h := r) (i := i + 1) (j := j) ⟨o, by simpa [live] using hl⟩
   rw [show i + 1 + j = i + (j + 1) by omega] at this
   simpa [liveρ] using this
 | some p :: r, i, j, ⟨o, hl⟩ => by
  cases j with
  | zero => simp [liveρ]
  | succ j =>
   have := liveρ_mem (ρ := ρ) (h := r) (i := i + 1) (j := j) ⟨o, by simpa [live] using hl⟩
   rw [show i + 1 + j = i + (j + 1) by omega] at this
   simp [liveρ, this]
theorem sY {a : Nat} {r : List Nat} (h : nodupB (a :: r) = true) : a ∉ r /\ nodupB r = true := by
 simp only [nodupB, Bool.and_eq_true] at h
 refine ⟨fun hm => ?_, h.2⟩
 obtain ⟨j, hj⟩ := List.getElem?_of_mem hm
 have h1 := h.1
 split at h1
 ·rename_i hn
  exact ku hn j hj
 ·cases h1
theorem liveρ_inj {ρ : Nat -> Nat} : ∀ {h : AH} {i : Nat}, nodupB (liveρ ρ i h) = true -> ∀ {j k : Nat}, (∃ o, live h j o) -> (∃ o, live h k o) -> ρ (i + j) = ρ (i + k) -> j = k
 | [], i, _, j, k, ⟨o, hl⟩, _, _ => by simp [live] at hl
 | none :: r, i, hn, j, k, ⟨o, hl⟩, ⟨o', hl'⟩, he => by
  cases j with
  | zero => simp [live] at hl
  | succ j =>
   cases k with
   | zero => simp [live] at hl'
   | succ k =>
    have := liveρ_inj (h := r) (i := i + 1) hn (j := j) (k := k) ⟨o, by simpa [live] using hl⟩ ⟨o', by simpa [live] using hl'⟩ (by rw [show i + 1 + j = i + (j + 1) by omega, show i + 1 + k = i + (k + 1) by omega]; exact he)
    rw [this]
 | some p :: r, i, hn, j, k, ⟨o, hl⟩, ⟨o', hl'⟩, he => by
  obtain ⟨h1, h2⟩ := sY hn
  cases j with
  | zero =>
   cases k with
   | zero => rfl
   | succ k =>
    exfalso
    apply h1
    have := liveρ_mem (ρ := ρ) (h := r) (i := i + 1) (j := k) ⟨o', by simpa [live] using hl'⟩
    rw [show i + 1 + k = i + (k + 1) by omega, <- he] at this
    exact this
  | succ j =>
   cases k with
   | zero =>
    exfalso
    apply h1
    have := liveρ_mem (ρ := ρ) (h := r) (i := i + 1) (j := j) ⟨o, by simpa [live] using hl⟩
    rw [show i + 1 + j = i + (j + 1) by omega, he] at this
    exact this
   | succ k =>
    have := liveρ_inj (h := r) (i := i + 1) h2 (j := j) (k := k) ⟨o, by simpa [live] using hl⟩ ⟨o', by simpa [live] using hl'⟩ (by rw [show i + 1 + j = i + (j + 1) by omega, show i + 1 + k = i + (k + 1) by omega]; exact he)
    rw [this]
theorem mW {n : Nat} : ∀ {h : AH}, wfH n h = true -> ∀ {j : Nat} {o : AO}, live h j o -> o.wf n = true
 | [], _, j, o, hl => by simp [live] at hl
 | none :: r, hw, j, o, hl => by
  cases j with
  | zero => simp [live] at hl
  | succ j => exact mW (h := r) hw (by simpa [live] using hl)
 | some p :: r, hw, j, o, hl => by
  simp only [wfH, Bool.and_eq_true] at hw
  cases j with
  | zero => simp [live] at hl; subst hl; exact hw.1
  | succ j => exact mW (h := r) hw.2 (by simpa [live] using hl)
theorem qN {k0 : Nat} {l : List Nat} {h H : AH} (hl : k0 + l.length = h.length) (hh : jg (ρf k0 l) 0 h H) (hi : nodupB (liveρ (ρf k0 l) 0 h) = true) (hw : wfH h.length h = true) : Ec k0 (ρf k0 l) h H := by
 refine ⟨fun i hi => ?_, by omega, fun i o hlv => ?_, fun i j h1 h2 he => ?_, fun i o hlv => mW hw hlv⟩
 ·unfold ρf
  rw [show Nat.blt i k0 = true from Nat.ble_eq_true_of_le hi]
 ·have := jH hh hlv
  rwa [Nat.zero_add] at this
 ·exact liveρ_inj hi h1 h2 (by simpa using he)
theorem wh {n : Nat} : ∀ {l : List (Nat × AV)} {ρ : Nat -> Nat} {fr : Nat -> AV}, yO ρ l fr -> uj n l = true -> ∀ t, dQ l t = .dead \/ ((dQ l t).ren ρ = fr t /\ (dQ l t).wf n = true)
 | [], ρ, fr, _, _, t => .inl rfl
 | (u, x) :: r, ρ, fr, hs, hw, t => by
  simp only [uj, Bool.and_eq_true] at hw
  unfold dQ
  split
  ·rename_i hb
   obtain rfl := Nat.eq_of_beq_eq_true hb
   exact .inr ⟨hs.1.symm, hw.1⟩
  ·exact wh hs.2 hw.2 t
theorem Stp.dO {P : Program} {H : AH} {m : Nat -> Value} {S : Nat -> Prop} {w : World} (hp : Hp P H m S w) {id b : Nat} {cs : List AV} (hl : live H id (.cells cs)) (hb : Abs.blk (m id) (.cells cs) = some b) :
  Stp P H m S w (H.set id none) m (fun c => S c \/ c = b) w := by
 have hlive : ∀ {j : Nat} {o : AO}, live (H.set id none) j o -> j ≠ id /\ live H j o := by
  intro j o h
  rcases aH h with ⟨_, h⟩ | h
  ·cases h
  ·exact h
 have hold : aW H (H.set id none) m m := ⟨by simp, fun j _ o h => ⟨rfl, o, (hlive h).2, fun e nl xs he => ⟨nl, xs, he, Nat.le_refl _⟩, fun e xs l he => ⟨l, he⟩⟩⟩
 refine ⟨hold, ⟨fun j o h => OK.mono (fun _ _ => rfl) (fun _ h => .inl h) hold (hp.obj j o (hlive h).2) fun _ _ => rfl, fun i j oi oj c hi hj => hp.inj i j oi oj c (hlive hi).2 (hlive hj).2, fun c hc => ?_, fun j o c h hb' hc => ?_, hp.glb.mono (fun _ _ => rfl) fun _ h => .inl h⟩,
  fun _ _ => rfl, fun _ h => .inl h, rfl, rfl, rfl, Nat.le_refl _, fun _ _ _ => rfl, fun c hc => ?_, fun c hc => ?_, fun c hc => ?_⟩
 ·rcases hc with hc | rfl
  ·exact hp.sub c hc
  ·exact (hp.obj id _ hl).bE hb
 ·rcases hc with hc | rfl
  ·exact hp.out j o c (hlive h).2 hb' hc
  ·exact (hlive h).1 (hp.inj j id o _ c (hlive h).2 hl hb' hb)
 ·rcases hc with hc | rfl
  ·exact .inl hc
  ·exact .inr (.inl ⟨id, _, hl, hb⟩)
 ·obtain ⟨j, o, h1, h2⟩ := hc
  exact .inl ⟨j, o, (hlive h1).2, h2⟩
 ·rcases hc with hc | rfl
  ·exact .inl hc
  ·exact .inr ((hp.obj id _ hl).isC hb rfl)
section
variable {P : Program} {H : AH} {m : Nat -> Value} {S : Nat -> Prop} {w : World}
theorem df {id j g : Nat} {xs : List PV} {cs : List AV} {k : Nat} {o : AO} (hid : id < H.length) (h : live (lV H id j g xs cs) k o) :
  (k = id /\ o = .cells (cs.set j (.sub H.length 0 xs.length))) \/ (k = H.length /\ o = .cells ((flat xs).map AV.p)) \/ (k ≠ id /\ k ≠ g /\ k < H.length /\ live H k o) := by
 unfold lV at h
 rcases aH h with ⟨rfl, he⟩ | ⟨hne, h⟩
 ·injection he with he
  exact .inl ⟨rfl, he.symm⟩
 ·rcases bw h with ⟨h1, h2⟩ | ⟨h1, h2⟩
  ·rw [List.length_set] at h1
   exact .inr (.inl ⟨h1, h2⟩)
  ·rw [List.length_set] at h1
   rcases aH h2 with ⟨_, he⟩ | ⟨hg, h3⟩
   ·cases he
   ·exact .inr (.inr ⟨hne, hg, h1, h3⟩)
theorem Stp.rows (hp : Hp P H m S w) {id j g : Nat} {e : TypeId} {nl : Bool} {xs : List PV} {cs : List AV} (hl : live H id (.cells cs)) (hj : cs[j]? = some (.buf g)) (hg : live H g (.buf e nl xs)) (h0 : xs ≠ []) :
  ∃ v, Stp P H m S w (lV H id j g xs cs) (upd m H.length v) S w := by
 obtain ⟨i, us, h1, hpos, ho, hz, hr, hn⟩ := hp.obj g _ hg
 obtain ⟨hlen, ho⟩ := ho
 rcases ho with ⟨_, hx⟩ | ⟨gb, cap, cur, hm, _, hh, hc1, hc2, hcs, htk⟩
 ·exact absurd (List.eq_nil_of_length_eq_zero hx) h0
 have hid : id < H.length := (List.getElem?_eq_some_iff.1 hl).1
 have hgl : g < H.length := (List.getElem?_eq_some_iff.1 hg).1
 obtain ⟨b, T, vs, g1, g2, g3, g4⟩ := hp.obj id _ hl
 have hne : id ≠ g := fun e => by
  subst e
  rw [hm] at g1
  cases g1
 have hlt : ∀ {k : Nat}, k < H.length -> upd m H.length (.pointer (some ⟨gb, 0, none⟩)) k = m k := fun {k} h => if_neg (by omega)
 have hN : upd m H.length (.pointer (some ⟨gb, 0, none⟩)) H.length = .pointer (some ⟨gb, 0, none⟩) := if_pos rfl
 refine ⟨.pointer (some ⟨gb, 0, none⟩), ?_⟩
 have hold : aW H (lV H id j g xs cs) m (upd m H.length (.pointer (some ⟨gb, 0, none⟩))) := by
  refine ⟨by simp [lV], fun k hk o' hlv => ⟨hlt hk, ?_⟩⟩
  rcases df hid hlv with ⟨rfl, rfl⟩ | ⟨h2, _⟩ | ⟨_, _, _, h2⟩
  ·exact ⟨_, hl, (fun _ _ _ he => by cases he), fun _ _ _ he => by cases he⟩
  ·omega
  ·exact ⟨_, h2, fun e2 nl2 xs2 he => ⟨nl2, xs2, he, Nat.le_refl _⟩, fun e2 xs2 l2 he => ⟨l2, he⟩⟩
 have hfl := aJ hz
 have hle : xs.length * i.size <= cap * i.size := Nat.mul_le_mul_right _ hc1
 refine Stp.at_ (fun k => k = g \/ k = H.length \/ k = id) hp hold (fun k o hk hlv => ?_) rfl rfl rfl (Nat.le_refl _) (fun _ _ _ => rfl) (fun k o hk hlv hkp => ?_) (fun k o b2 hk hlv hbb => ?_) (fun k1 k2 o1 o2 b2 hk1 hk2 hl1 hl2 hb1 hb2 => ?_)
 ·rcases df hid hlv with ⟨h2, _⟩ | ⟨h2, _⟩ | ⟨_, _, h3, h2⟩
  ·exact absurd (.inr (.inr h2)) hk
  ·exact absurd (.inr (.inl h2)) hk
  ·exact ⟨h2, hlt h3⟩
 ·rcases df hid hlv with ⟨rfl, rfl⟩ | ⟨rfl, rfl⟩ | ⟨h3, h4, h5, _⟩
  ·rw [hlt hid]
   refine ⟨b, T, vs, g1, g2, by rw [List.length_set]; exact g3, fun q c hc => ?_⟩
   rw [List.getElem?_set] at hc
   split at hc
   ·rename_i hjk
    subst hjk
    split at hc
    ·injection hc with hc
     subst hc
     obtain ⟨h5, h6⟩ := g4 _ _ hj
     refine ⟨?_, h6⟩
     rw [h5.bX hg, hm]
     refine .sub _ _ _ _ _ _ (by simp [lV]) (fun e2 nl2 xs2 hl2 => ?_) fun o p _ he => ?_
     ·rcases df hid hl2 with ⟨_, h⟩ | ⟨_, h⟩ | ⟨_, _, h, _⟩
      ·cases h
      ·cases h
      ·omega
     ·rw [hN] at he
      injection he with he
      exact ⟨rfl, he, rfl, hc1, hc2⟩
    ·cases hc
   ·exact ⟨(g4 q c hc).1.mono hkp (fun _ h => h) hold, (g4 q c hc).2⟩
  ·rw [hN]
   refine ⟨gb, e, cur, rfl, hh, by rw [List.length_map, hfl, hcs]; exact hle, fun q c hc => ?_⟩
   rw [List.getElem?_map, Option.map_eq_some_iff] at hc
   obtain ⟨y, hy, rfl⟩ := hc
   obtain ⟨u, hu, hru, hou⟩ := hr q y hy
   have hq : q < xs.length * i.size := by rw [<- hfl]; exact (List.getElem?_eq_some_iff.1 hy).1
   have he : cur.getD q undef = u := by
    rw [<- htk, List.getElem?_take, if_pos hq, Array.getElem?_toList] at hu
    simp [Array.getD_eq_getD_getElem?, hu]
   rw [he]
   exact ⟨.p _ _ (hru.mono hkp fun _ h => h), hou⟩
  ·rcases hk with h | h | h <;> omega
 ·rcases df hid hlv with ⟨rfl, rfl⟩ | ⟨rfl, rfl⟩ | ⟨h3, h4, h5, _⟩
  ·rw [hlt hid] at hbb
   exact .inl ⟨_, _, .inr (.inr rfl), hl, hbb⟩
  ·rw [hN] at hbb
   exact .inl ⟨g, _, .inl rfl, hg, by rw [hm]; exact hbb⟩
  ·rcases hk with h | h | h <;> omega
 ·have key : ∀ {k : Nat} {o : AO}, (k = g \/ k = H.length \/ k = id) -> live (lV H id j g xs cs) k o -> Abs.blk (upd m H.length (.pointer (some ⟨gb, 0, none⟩)) k) o = some b2 -> (k = id /\ Abs.blk (m id) (.cells cs) = some b2) \/ (k = H.length /\ Abs.blk (m g) (.buf e nl xs) = some b2) := fun {k o} hk hlv hbb => by
   rcases df hid hlv with ⟨rfl, rfl⟩ | ⟨rfl, rfl⟩ | ⟨h3, h4, h5, _⟩
   ·rw [hlt hid] at hbb
    exact .inl ⟨rfl, hbb⟩
   ·rw [hN] at hbb
    exact .inr ⟨rfl, by rw [hm]; exact hbb⟩
   ·rcases hk with h | h | h <;> omega
  rcases key hk1 hl1 hb1 with ⟨rfl, h3⟩ | ⟨rfl, h3⟩ <;> rcases key hk2 hl2 hb2 with ⟨rfl, h4⟩ | ⟨rfl, h4⟩
  ·rfl
  ·exact absurd (hp.inj _ _ _ _ b2 hl hg h3 h4) hne
  ·exact absurd (hp.inj _ _ _ _ b2 hl hg h4 h3) hne
  ·rfl
theorem Stp.y_ (hp : Hp P H m S w) {id j g sz : Nat} {xs : List PV} {cs : List AV} (hl : live H id (.cells cs)) (hj : cs[j]? = some (.sub g 0 xs.length)) (hg : live H g (.cells ((flat xs).map AV.p))) (hz : ∀ x ∈ xs, x.cells.length = sz) (h0 : id ≠ g) :
  ∃ S', Stp P H m S w ((H.set g none).set id (some (.cells (cs.set j (.p (.list false xs)))))) m S' w := by
 obtain ⟨b, T, us, h3, h4, h5, h6⟩ := hp.obj g _ hg
 have hst := Stp.dO hp hg (b := b) (by rw [h3]; rfl)
 refine ⟨fun c => S c \/ c = b, hst.trans ?_⟩
 have hp1 := hst.hp
 have hl1 : live (H.set g none) id (.cells cs) := by
  unfold live
  rw [List.getElem?_set_ne (Ne.symm h0)]
  exact hl
 obtain ⟨b1, T1, vs, g1, g2, g3, g4⟩ := hp1.obj id _ hl1
 obtain ⟨b1', T1', vs', g1', g2', _, g4'⟩ := hp.obj id _ hl
 have hvs : vs' = vs := by
  rw [g1] at g1'
  injection g1' with g1'; injection g1' with g1'; injection g1' with g1'
  subst g1'
  rw [g2] at g2'
  injection g2' with g2'; injection g2' with g2'
  exact g2'.symm
 subst hvs
 have hold : aW (H.set g none) ((H.set g none).set id (some (.cells (cs.set j (.p (.list false xs)))))) m m := cL hl1 (fun _ _ _ he => by cases he)
 refine Stp.at_ (fun k => k = id) hp1 hold (fun k p hk hlp => ?_) rfl rfl rfl (Nat.le_refl _) (fun _ _ _ => rfl) (fun k p hk hlp hkp => ?_) (fun k p b2 hk hlp hbb => ?_) (fun i k _ _ _ hi hk _ _ _ _ => hi.trans hk.symm)
 ·rcases aH hlp with ⟨rfl, _⟩ | ⟨_, hl'⟩
  ·exact absurd rfl hk
  ·exact ⟨hl', rfl⟩
 ·subst hk
  rcases aH hlp with ⟨_, he⟩ | ⟨hne, _⟩
  ·injection he with he
   subst he
   refine ⟨b1, T1, vs', g1, g2, by rw [List.length_set]; exact g3, fun q c hc => ?_⟩
   rw [List.getElem?_set] at hc
   split at hc
   ·rename_i hjk
    subst hjk
    split at hc
    ·injection hc with hc
     subst hc
     obtain ⟨h7, h8⟩ := g4' _ _ hj
     refine ⟨?_, h8⟩
     generalize vs'.getD j undef = v at h7
     cases h7 with
     | sub _ _ _ a l c hid hs hq =>
      obtain ⟨_, rfl, rfl, hc1, hc2⟩ := hq _ _ hg h3
      refine .p _ _ (.list xs _ c sz (fun k => us.getD k undef) (fun _ => .inr rfl) hc1 hc2 hz (fun k y hk => ?_) fun k y hk => ?_)
      ·have hkm : ((flat xs).map AV.p)[k]? = some (.p y) := by rw [List.getElem?_map, hk]; rfl
       have hkl : k < us.size := Nat.lt_of_lt_of_le (List.getElem?_eq_some_iff.1 hkm).1 h5
       refine ⟨?_, (h6 k _ hkm).2⟩
       rw [add_lit, Nat.zero_add, fo h4]
       simp [Array.getD, hkl]
      ·have hkm : ((flat xs).map AV.p)[k]? = some (.p y) := by rw [List.getElem?_map, hk]; rfl
       have h10 := (h6 k _ hkm).1
       generalize us.getD k undef = u at h10
       cases h10 with | p _ _ h => exact h.mono (fun _ _ => rfl) fun _ h => .inl h
    ·cases hc
   ·exact ⟨(g4 q c hc).1.mono hkp (fun _ h => h) hold, (g4 q c hc).2⟩
  ·exact absurd rfl hne
 ·subst hk
  rcases aH hlp with ⟨_, he⟩ | ⟨hne, _⟩
  ·injection he with he
   subst he
   exact .inl ⟨k, _, rfl, hl1, hbb⟩
  ·exact absurd rfl hne
def gS (H : AH) (g : Nat) (xs : List PV) : AH := (H.set g none) ++ [some (AO.cells ((flat xs).map AV.p))]
theorem cK {g : Nat} {xs : List PV} {k : Nat} {o : AO} (h : live (gS H g xs) k o) : (k = H.length /\ o = .cells ((flat xs).map AV.p)) \/ (k ≠ g /\ k < H.length /\ live H k o) := by
 unfold gS at h
 rcases bw h with ⟨h1, h2⟩ | ⟨h1, h2⟩
 ·rw [List.length_set] at h1
  exact .inl ⟨h1, h2⟩
 ·rw [List.length_set] at h1
  rcases aH h2 with ⟨_, he⟩ | ⟨hg, h3⟩
  ·cases he
  ·exact .inr ⟨hg, h1, h3⟩
theorem Stp.Dh (hp : Hp P H m S w) {g : Nat} {e : TypeId} {nl : Bool} {xs : List PV} (hg : live H g (.buf e nl xs)) (h0 : xs ≠ []) :
  ∃ v, Stp P H m S w (gS H g xs) (upd m H.length v) S w /\ ∀ u, Rd P H m S w (.buf g) u -> Rd P (gS H g xs) (upd m H.length v) S w (.sub H.length 0 xs.length) u := by
 obtain ⟨i, us, h1, hpos, ho, hz, hr, hn⟩ := hp.obj g _ hg
 obtain ⟨hlen, ho⟩ := ho
 rcases ho with ⟨_, hx⟩ | ⟨gb, cap, cur, hm, _, hh, hc1, hc2, hcs, htk⟩
 ·exact absurd (List.eq_nil_of_length_eq_zero hx) h0
 have hgl : g < H.length := (List.getElem?_eq_some_iff.1 hg).1
 have hlt : ∀ {k : Nat}, k < H.length -> upd m H.length (.pointer (some ⟨gb, 0, none⟩)) k = m k := fun {k} h => if_neg (by omega)
 have hN : upd m H.length (.pointer (some ⟨gb, 0, none⟩)) H.length = .pointer (some ⟨gb, 0, none⟩) := if_pos rfl
 refine ⟨.pointer (some ⟨gb, 0, none⟩), ?_, fun u hu => ?_⟩
 ·have hold : aW H (gS H g xs) m (upd m H.length (.pointer (some ⟨gb, 0, none⟩))) := by
   refine ⟨by simp [gS], fun k hk o' hlv => ⟨hlt hk, ?_⟩⟩
   rcases cK hlv with ⟨h2, _⟩ | ⟨_, _, h2⟩
   ·omega
   ·exact ⟨_, h2, fun e2 nl2 xs2 he => ⟨nl2, xs2, he, Nat.le_refl _⟩, fun e2 xs2 l2 he => ⟨l2, he⟩⟩
  have hfl := aJ hz
  have hle : xs.length * i.size <= cap * i.size := Nat.mul_le_mul_right _ hc1
  refine Stp.at_ (fun k => k = g \/ k = H.length) hp hold (fun k o hk hlv => ?_) rfl rfl rfl (Nat.le_refl _) (fun _ _ _ => rfl) (fun k o hk hlv hkp => ?_) (fun k o b2 hk hlv hbb => ?_) (fun k1 k2 o1 o2 b2 hk1 hk2 hl1 hl2 hb1 hb2 => ?_)
  ·rcases cK hlv with ⟨h2, _⟩ | ⟨_, h3, h2⟩
   ·exact absurd (.inr h2) hk
   ·exact ⟨h2, hlt h3⟩
  ·rcases cK hlv with ⟨rfl, rfl⟩ | ⟨h4, h5, _⟩
   ·rw [hN]
    refine ⟨gb, e, cur, rfl, hh, by rw [List.length_map, hfl, hcs]; exact hle, fun q c hc => ?_⟩
    rw [List.getElem?_map, Option.map_eq_some_iff] at hc
    obtain ⟨y, hy, rfl⟩ := hc
    obtain ⟨u, hu, hru, hou⟩ := hr q y hy
    have hq : q < xs.length * i.size := by rw [<- hfl]; exact (List.getElem?_eq_some_iff.1 hy).1
    have he : cur.getD q undef = u := by
     rw [<- htk, List.getElem?_take, if_pos hq, Array.getElem?_toList] at hu
     simp [Array.getD_eq_getD_getElem?, hu]
    rw [he]
    exact ⟨.p _ _ (hru.mono hkp fun _ h => h), hou⟩
   ·rcases hk with h | h <;> omega
  ·rcases cK hlv with ⟨rfl, rfl⟩ | ⟨h4, h5, _⟩
   ·rw [hN] at hbb
    exact .inl ⟨g, _, .inl rfl, hg, by rw [hm]; exact hbb⟩
   ·rcases hk with h | h <;> omega
  ·have key : ∀ {k : Nat} {o : AO}, (k = g \/ k = H.length) -> live (gS H g xs) k o -> k = H.length := fun {k o} hk hlv => by
    rcases cK hlv with ⟨h, _⟩ | ⟨h4, h5, _⟩
    ·exact h
    ·rcases hk with h | h <;> omega
   rw [key hk1 hl1, key hk2 hl2]
 ·rw [hu.bX hg, hm]
  refine .sub _ _ _ _ _ _ (by simp [gS]) (fun e2 nl2 xs2 hl2 => ?_) fun o p _ he => ?_
  ·rcases cK hl2 with ⟨_, h⟩ | ⟨_, h, _⟩
   ·cases h
   ·omega
  ·rw [hN] at he
   injection he with he
   exact ⟨rfl, he, rfl, hc1, hc2⟩
theorem Stp.qM (hp : Hp P H m S w) {g sz : Nat} {xs : List PV} (hg : live H g (.cells ((flat xs).map AV.p))) (hz : ∀ x ∈ xs, x.cells.length = sz) :
  ∃ S', Stp P H m S w (H.set g none) m S' w /\ ∀ v, Rd P H m S w (.sub g 0 xs.length) v -> Rd P (H.set g none) m S' w (.p (.list false xs)) v := by
 obtain ⟨b, T, us, h3, h4, h5, h6⟩ := hp.obj g _ hg
 have hst := Stp.dO hp hg (b := b) (by rw [h3]; rfl)
 refine ⟨fun c => S c \/ c = b, hst, fun v h7 => ?_⟩
 cases h7 with
 | sub _ _ _ a l c hid hs hq =>
  obtain ⟨_, rfl, rfl, hc1, hc2⟩ := hq _ _ hg h3
  refine .p _ _ (.list xs _ c sz (fun k => us.getD k undef) (fun _ => .inr rfl) hc1 hc2 hz (fun k y hk => ?_) fun k y hk => ?_)
  ·have hkm : ((flat xs).map AV.p)[k]? = some (.p y) := by rw [List.getElem?_map, hk]; rfl
   have hkl : k < us.size := Nat.lt_of_lt_of_le (List.getElem?_eq_some_iff.1 hkm).1 h5
   refine ⟨?_, (h6 k _ hkm).2⟩
   rw [add_lit, Nat.zero_add, fo h4]
   simp [Array.getD, hkl]
  ·have hkm : ((flat xs).map AV.p)[k]? = some (.p y) := by rw [List.getElem?_map, hk]; rfl
   have h10 := (h6 k _ hkm).1
   generalize us.getD k undef = u at h10
   cases h10 with | p _ _ h => exact h.mono (fun _ _ => rfl) fun _ h => .inl h
end
section
variable {P : Program} {ti : TypeId -> Option TI} {H : AH} {m : Nat -> Value} {S : Nat -> Prop} {w : World}
theorem Stp.CE (hp : Hp P H m S w) {id j g : Nat} {e : TypeId} {nl : Bool} {xs : List PV} {cs : List AV} (hl : live H id (.cells cs)) (hj : cs[j]? = some (.buf g)) (hg : live H g (.buf e nl xs)) :
  Stp P H m S w (H.set id (some (.cells (cs.set j (.sub g 0 xs.length))))) m S w := by
 refine Stp.view hp hl (fun _ _ _ he => by cases he) (fun H' hold h => ?_) rfl
 obtain ⟨b, T, vs, h1, h2, h3, h4⟩ := h
 refine ⟨b, T, vs, h1, h2, by rw [List.length_set]; exact h3, fun k c hc => ?_⟩
 rw [List.getElem?_set] at hc
 split at hc
 ·rename_i hjk
  subst hjk
  split at hc
  ·injection hc with hc
   subst hc
   have h5 := h4 j _ hj
   exact ⟨(Rd.r5 hp hg h5.1).mono (fun _ _ => rfl) (fun _ h => h) hold, h5.2⟩
  ·cases hc
 ·have h5 := h4 k c hc
  exact ⟨h5.1.mono (fun _ _ => rfl) (fun _ h => h) hold, h5.2⟩
theorem Stp.CV (hT : aK P ti) (hp : Hp P H m S w) {id j : Nat} {e : TypeId} {cs : List AV} {k : TK} {n b : Nat} {z : Value} (hl : live H id (.cells cs)) (hj : cs[j]? = some (.p (.list true []))) (hi : ti e = some ⟨k, n + 1, b, z⟩) :
  Stp P H m S w ((H ++ [some (AO.buf e true [])]).set id (some (.cells (cs.set j (AV.buf H.length))))) (upd m H.length (.slice none 0 0)) S w := by
 obtain ⟨inf, d, hinf, _, _, hs, _⟩ := aE (hT.ok _ _ hi)
 simp only at hs
 have hst : Stp P H m S w (H ++ [some (AO.buf e true [])]) (upd m H.length (.slice none 0 0)) S w :=
  Stp.push hp rfl rfl rfl (Nat.le_refl _) (fun _ _ => rfl) (fun _ => ⟨inf, [], hinf, by omega, World.ownsRow_nil w 0 _ _, by simp, by simp [flat], by simp⟩) (fun b hb => by cases hb)
 have hlt : id < H.length := (List.getElem?_eq_some_iff.1 hl).1
 have hl1 : live (H ++ [some (AO.buf e true [])]) id (.cells cs) := by
  unfold live
  rw [List.getElem?_append_left hlt]
  exact hl
 refine hst.trans ?_
 have hp1 := hst.hp
 generalize hm1 : upd m H.length (.slice none 0 0) = m1 at hst hp1 ⊢
 have hmn : m1 H.length = .slice none 0 0 := by rw [<- hm1]; exact if_pos rfl
 have hlen : (H ++ [some (AO.buf e true [])]).length = H.length + 1 := by simp
 generalize H ++ [some (AO.buf e true [])] = H1 at hst hp1 hl1 hlen ⊢
 obtain ⟨b, T, vs, h1, h2, h3, h4⟩ := hp1.obj id _ hl1
 have hold : aW H1 (H1.set id (some (.cells (cs.set j (AV.buf H.length))))) m1 m1 := cL hl1 (fun _ _ _ he => by cases he)
 refine Stp.at_ (fun j => j = id) hp1 hold (fun j p hj hlp => ?_) rfl rfl rfl (Nat.le_refl _) (fun _ _ _ => rfl) (fun j p hj hlp hk => ?_) (fun j p b hj hlp hbb => ?_) (fun i j _ _ _ hi hj _ _ _ _ => hi.trans hj.symm)
 ·rcases aH hlp with ⟨rfl, _⟩ | ⟨_, hl'⟩
  ·exact absurd rfl hj
  ·exact ⟨hl', rfl⟩
 ·subst hj
  rcases aH hlp with ⟨_, he⟩ | ⟨hne, _⟩
  ·injection he with he
   subst he
   refine ⟨b, T, vs, h1, h2, by rw [List.length_set]; exact h3, fun k c hc => ?_⟩
   rw [List.getElem?_set] at hc
   split at hc
   ·rename_i hjk
    subst hjk
    split at hc
    ·injection hc with hc
     subst hc
     obtain ⟨h5, h6⟩ := h4 _ _ hj
     refine ⟨?_, h6⟩
     rw [h5.ff]
     exact .buf _ _ _ _ (by rw [List.length_set, hlen]; omega) fun o _ => hmn
    ·cases hc
   ·exact ⟨(h4 k c hc).1.mono hk (fun _ h => h) hold, (h4 k c hc).2⟩
  ·exact absurd rfl hne
 ·subst hj
  rcases aH hlp with ⟨_, he⟩ | ⟨hne, _⟩
  ·injection he with he
   subst he
   exact .inl ⟨j, _, rfl, hl1, hbb⟩
  ·exact absurd rfl hne
end
section
variable {P : Program} {ti : TypeId -> Option TI} {H : AH} {m : Nat -> Value} {S : Nat -> Prop} {w : World}
theorem Stp.nM (hp : Hp P H m S w) {id j g : Nat} {e : TypeId} {nl : Bool} {xs : List PV} {y : PV} {cs : List AV} (hl : live H id (.cells cs)) (hj : cs[j]? = some (.buf g)) (hg : live H g (.buf e nl (xs ++ [y]))) (h0 : id ≠ g) :
  Stp P H m S w (gY H id j g (.bn e xs (y.cells.map .p)) cs) (upd m H.length (m g)) S w :=
 Stp.move hp hl hj hg h0 (fun _ _ _ h => OK.nM h) rfl
theorem Stp.ly (hp : Hp P H m S w) {id j g : Nat} {e : TypeId} {xs ps : List PV} {l : List AV} {y : PV} {cs : List AV} (hl : live H id (.cells cs)) (hj : cs[j]? = some (.buf g)) (hg : live H g (.bn e xs l)) (hps : lG (l.map (jV H)) = some ps) (hy : y.cells = ps) (h0 : id ≠ g) :
  Stp P H m S w (gY H id j g (.buf e false (xs ++ [y])) cs) (upd m H.length (m g)) S w := by
 have hm := ep hps
 refine Stp.move hp hl hj hg h0 (fun _ _ _ h => OK.ly (fun k c hk => ?_) (by have := congrArg List.length hm; simpa using this.symm) hy h) rfl
 have h2 : (l.map (jV H))[k]? = some (.p c) := by rw [hm, List.getElem?_map, hk]; rfl
 rw [List.getElem?_map, Option.map_eq_some_iff] at h2
 obtain ⟨a, ha, h3⟩ := h2
 refine ⟨a, ha, fun v hr => ?_⟩
 have h4 := aG hp hr
 rw [h3] at h4
 cases h4 with | p _ _ h => exact h
theorem Stp.CU (hT : aK P ti) (hp : Hp P H m S w) {id q : Nat} {e e2 : TypeId} {xs : List PV} {l : List AV} {k : TK} {n b : Nat} {z : Value} (hl : live H id (.bn e xs l)) (hj : l[q]? = some (.p (.list true []))) (hi : ti e2 = some ⟨k, n + 1, b, z⟩) :
  Stp P H m S w ((H ++ [some (AO.buf e2 true [])]).set id (some (.bn e xs (l.set q (AV.buf H.length))))) (upd m H.length (.slice none 0 0)) S w := by
 obtain ⟨inf, d, hinf, _, _, hs, _⟩ := aE (hT.ok _ _ hi)
 simp only at hs
 have hst : Stp P H m S w (H ++ [some (AO.buf e2 true [])]) (upd m H.length (.slice none 0 0)) S w :=
  Stp.push hp rfl rfl rfl (Nat.le_refl _) (fun _ _ => rfl) (fun _ => ⟨inf, [], hinf, by omega, World.ownsRow_nil w 0 _ _, by simp, by simp [flat], by simp⟩) (fun b hb => by cases hb)
 have hlt : id < H.length := (List.getElem?_eq_some_iff.1 hl).1
 have hl1 : live (H ++ [some (AO.buf e2 true [])]) id (.bn e xs l) := by
  unfold live
  rw [List.getElem?_append_left hlt]
  exact hl
 refine hst.trans ?_
 have hp1 := hst.hp
 generalize hm1 : upd m H.length (.slice none 0 0) = m1 at hst hp1 ⊢
 have hmn : m1 H.length = .slice none 0 0 := by rw [<- hm1]; exact if_pos rfl
 have hlen : (H ++ [some (AO.buf e2 true [])]).length = H.length + 1 := by simp
 generalize H ++ [some (AO.buf e2 true [])] = H1 at hst hp1 hl1 hlen ⊢
 refine Stp.view hp1 hl1 (fun _ _ _ he => by cases he) (fun H' hold h => ?_) rfl (fun e3 xs3 l3 he => by
  injection he with h1 h2 h3
  subst h1; subst h2
  exact ⟨_, rfl⟩)
 obtain ⟨i, us, h1, h2, h3, h4, h5, h6, h7⟩ := h
 refine ⟨i, us, h1, h2, h3, h4, by rw [List.length_set]; exact h5, h6, fun k c hc => ?_⟩
 rw [List.getElem?_set] at hc
 split at hc
 ·rename_i hjk
  subst hjk
  split at hc
  ·injection hc with hc
   subst hc
   obtain ⟨u, hu, hr, hu1⟩ := h7 _ _ hj
   refine ⟨u, hu, ?_, hu1⟩
   rw [hr.ff]
   exact .buf _ _ _ _ (Nat.lt_of_lt_of_le (by omega) hold.len) fun o _ => hmn
  ·cases hc
 ·obtain ⟨u, hu, hr, hu1⟩ := h7 k c hc
  exact ⟨u, hu, hr.mono (fun _ _ => rfl) (fun _ h => h) hold, hu1⟩
end
theorem la {P : Program} {nt : Nat} {D : List Deferred} {H0 : AH} {m0 : Nat -> Value} {S0 : Nat -> Prop} {w0 : World} {m : Nat -> Value} {S : Nat -> Prop} {w : World} {σ : AS} {a : Act} {slot id : Nat} {cs : List PV} (hs : σ.fr slot = .ptr id 0) (hl : live σ.h id (.cells (cs.map .p)))
  (hc : Cn P nt D H0 m0 S0 w0 σ m S a w) : ∃ S', Stp P σ.h m S w (σ.h.set id none) m S' w /\ Cn P nt D H0 m0 S0 w0 ⟨aM σ.fr slot (.aN cs), σ.h.set id none⟩ m S' a w := by
 obtain ⟨b, T, us, h3, h4, h5, h6⟩ := hc.stp.hp.obj id _ hl
 have hst := Stp.dO hc.stp.hp hl (b := b) (by rw [h3]; rfl)
 refine ⟨fun c => S c \/ c = b, hst, hc.stp.trans hst, fun t => ?_, hc.sz, cE hc.stp.hp hst hc.nd⟩
 show Rd P _ m _ w (aM σ.fr slot (.aN cs) t) _
 unfold aM
 split
 ·rename_i he
  have he := Nat.eq_of_beq_eq_true he
  subst he
  have h7 := hc.fr t
  rw [hs] at h7
  generalize a.tmps.getD t undef = u at h7
  cases h7 with
  | ptr _ _ ad hid hpt =>
   obtain ⟨b', h8, rfl⟩ := hpt _ hl
   rw [h3] at h8
   injection h8 with h8; injection h8 with h8; injection h8 with h8
   subst h8
   refine .aN cs _ (fun k => us.getD k undef) (.inr rfl) (fun k c hk => ?_) fun k c hk => ?_
   ·have hkl : k < us.size := by rw [List.length_map] at h5; exact Nat.lt_of_lt_of_le (List.getElem?_eq_some_iff.1 hk).1 h5
    refine ⟨?_, (h6 k (.p c) (by simp [hk])).2⟩
    have h9 := fo (o := k) h4
    have h11 : (⟨b, 0, none⟩ : Addr).add k = ⟨b, k, none⟩ := by
     by_cases h0 : k = 0
     ·subst h0; rfl
     ·simp [Addr.add, h0]
    rw [h11, h9]
    simp [Array.getD, hkl]
   ·have h10 := (h6 k (.p c) (by simp [hk])).1
    generalize us.getD k undef = u at h10
    cases h10 with | p _ _ h => exact h.mono (fun _ _ => rfl) fun _ h => .inl h
 ·exact (hc.fr t).mono hst.keeps hst.sub hst.old
section
variable {P : Program} {ti : TypeId -> Option TI} {nt : Nat} {D : List Deferred} {H0 : AH} {m0 : Nat -> Value} {S0 : Nat -> Prop} {w0 : World} {m : Nat -> Value} {S : Nat -> Prop} {w : World} {σ : AS} {a : Act}
theorem Aw (hT : aK P ti) {p : TypeId × Nat} (h : Bz ti σ p) (hc : Cn P nt D H0 m0 S0 w0 σ m S a w) : ∃ m', Cn P nt D H0 m0 S0 w0 (tS σ p) m' S a w := by
 unfold Bz at h
 split at h
 ·rename_i k n by_ z hti
  obtain ⟨inf, d, hinf, _, _, hs, _⟩ := aE (hT.ok _ _ hti)
  simp only at hs
  have hv := hc.fr p.2
  rw [h] at hv
  have hv' := hv.ff
  have hst : Stp P σ.h m S w (σ.h ++ [some (.buf p.1 true [])]) (upd m σ.h.length (.slice none 0 0)) S w :=
   Stp.push hc.stp.hp rfl rfl rfl (Nat.le_refl _) (fun _ _ => rfl) (fun _ => ⟨inf, [], hinf, by omega, World.ownsRow_nil w 0 _ _, by simp, by simp [flat], by simp⟩) (fun b hb => by cases hb)
  refine ⟨_, hc.stp.trans hst, fun t => ?_, hc.sz, cE hc.stp.hp hst hc.nd⟩
  show Rd P _ _ S w (aM σ.fr p.2 (.buf σ.h.length) t) _
  unfold aM
  split
  ·rename_i hb
   rw [Nat.eq_of_beq_eq_true hb, hv']
   exact .buf _ _ _ _ (by show _ < (σ.h ++ _).length; simp) fun o hl => if_pos rfl
  ·exact (hc.fr t).mono hst.keeps hst.sub hst.old
 ·cases h
theorem tU (hT : aK P ti) {k : AS -> Prop} : ∀ (ad : List (TypeId × Nat)) (σ : AS) (m : Nat -> Value), Ax ti σ ad k -> Cn P nt D H0 m0 S0 w0 σ m S a w -> ∃ σ' m', k σ' /\ Cn P nt D H0 m0 S0 w0 σ' m' S a w
 | [], σ, m, h, hc => ⟨σ, m, h, hc⟩
 | p :: r, σ, m, h, hc => by
  obtain ⟨m1, hc1⟩ := Aw hT h.1 hc
  exact tU hT r _ m1 h.2 hc1
theorem aq.cn (hT : aK P ti) {L : LS} (h : aq ti H0.length L σ) : ∀ {m : Nat -> Value} {S : Nat -> Prop}, Cn P nt D H0 m0 S0 w0 σ m S a w -> ∃ m' S', Cn P nt D H0 m0 S0 w0 L.st m' S' a w := by
 induction h with
 | mk σ ad l h =>
  intro m S hc
  obtain ⟨σ, m, h, hc⟩ := tU hT ad _ _ h hc
  obtain ⟨hl, hf, hh, hi, hw⟩ := h
  simp only [Bool.and_eq_true] at hw
  have hsub := qN hl hh hi hw.2
  refine ⟨_, S, hc.stp.BZ hsub, fun t => ?_, hc.sz, hc.nd⟩
  rcases wh hf hw.1 t with h1 | ⟨h1, h2⟩
  ·show Rd P L.h _ S w (dQ L.fr t) _
   rw [h1]
   exact .dead _
  ·exact (hc.fr t).vI hsub.live h1 h2
 | ez σ fz slots h ih =>
  intro m S hc
  obtain ⟨S1, hst⟩ := Stp.aP (P := P) (m := m) (w := w) fz σ.h S hc.stp.hp
  refine ih (m := m) (S := S1) ⟨hc.stp.trans hst, fun t => ?_, hc.sz, hc.nd⟩
  have key : ∀ (l : List Nat) (t : Nat), Rd P (aP σ.h fz) m S1 w (uo (aP σ.h fz) l σ.fr t) (a.tmps.getD t undef) := by
   intro l
   induction l with
   | nil => exact fun t => (hc.fr t).mono hst.keeps hst.sub hst.old
   | cons s r ihr =>
    intro t
    show Rd P _ m S1 w (aM _ s _ t) _
    unfold aM
    split
    ·rename_i hb
     rw [Nat.eq_of_beq_eq_true hb]
     exact aG hst.hp ((hc.fr s).mono hst.keeps hst.sub hst.old)
    ·exact ihr t
  exact key slots t
 | Eh σ slot id e nl xs hs hl h ih =>
  intro m S hc
  refine ih (m := m) (S := S) ⟨hc.stp, fun t => ?_, hc.sz, hc.nd⟩
  show Rd P _ m S w (aM σ.fr slot _ t) _
  unfold aM
  split
  ·rename_i hb
   rw [Nat.eq_of_beq_eq_true hb]
   have := hc.fr slot
   rw [hs] at this
   exact Rd.r5 hc.stp.hp hl this
  ·exact hc.fr t
 | cells σ cs h ih =>
  intro m S hc
  have hst := Stp.jq (P := P) (m := m) (S := S) (w := w) cs σ.h hc.stp.hp
  exact ih (m := m) (S := S) ⟨hc.stp.trans hst, fun t => (hc.fr t).mono hst.keeps hst.sub hst.old, hc.sz, hc.nd⟩
 | ret σ slot id cs hs hl h ih =>
  intro m S hc
  obtain ⟨S2, _, hc2⟩ := la hs hl hc
  exact ih hc2
 | rows σ id j g e nl xs cs hl hj hg h0 h ih =>
  intro m S hc
  obtain ⟨v, hst⟩ := Stp.rows hc.stp.hp hl hj hg h0
  exact ih ⟨hc.stp.trans hst, fun t => (hc.fr t).mono hst.keeps hst.sub hst.old, hc.sz, cE hc.stp.hp hst hc.nd⟩
 | y_ σ id j g sz xs cs hl hj hg hz h0 h ih =>
  intro m S hc
  obtain ⟨S', hst⟩ := Stp.y_ hc.stp.hp hl hj hg hz h0
  exact ih ⟨hc.stp.trans hst, fun t => (hc.fr t).mono hst.keeps hst.sub hst.old, hc.sz, cE hc.stp.hp hst hc.nd⟩
 | qU σ slot g e nl xs hs hg h0 h ih =>
  intro m S hc
  obtain ⟨v, hst, hrd⟩ := Stp.Dh hc.stp.hp hg h0
  refine ih ⟨hc.stp.trans hst, fun t => ?_, hc.sz, cE hc.stp.hp hst hc.nd⟩
  show Rd P _ _ S w (aM σ.fr slot _ t) _
  unfold aM
  split
  ·rename_i hb
   rw [Nat.eq_of_beq_eq_true hb]
   have := hc.fr slot
   rw [hs] at this
   exact hrd _ this
  ·exact (hc.fr t).mono hst.keeps hst.sub hst.old
 | qM σ slot g sz xs hs hg hz h ih =>
  intro m S hc
  obtain ⟨S', hst, hrd⟩ := Stp.qM hc.stp.hp hg hz
  refine ih ⟨hc.stp.trans hst, fun t => ?_, hc.sz, cE hc.stp.hp hst hc.nd⟩
  show Rd P _ _ S' w (aM σ.fr slot _ t) _
  unfold aM
  split
  ·rename_i hb
   rw [Nat.eq_of_beq_eq_true hb]
   have := hc.fr slot
   rw [hs] at this
   exact hrd _ this
  ·exact (hc.fr t).mono hst.keeps hst.sub hst.old
 | CE σ id j g e nl xs cs hl hj hg h ih =>
  intro m S hc
  have hst := Stp.CE hc.stp.hp hl hj hg
  exact ih ⟨hc.stp.trans hst, fun t => (hc.fr t).mono hst.keeps hst.sub hst.old, hc.sz, cE hc.stp.hp hst hc.nd⟩
 | nM σ id j g e nl xs y cs hl hj hg h0 h ih =>
  intro m S hc
  have hst := Stp.nM hc.stp.hp hl hj hg h0
  exact ih ⟨hc.stp.trans hst, fun t => (hc.fr t).mono hst.keeps hst.sub hst.old, hc.sz, cE hc.stp.hp hst hc.nd⟩
 | ly σ id j g e xs ps l y cs hl hj hg hps hy h0 h ih =>
  intro m S hc
  have hst := Stp.ly hc.stp.hp hl hj hg hps hy h0
  exact ih ⟨hc.stp.trans hst, fun t => (hc.fr t).mono hst.keeps hst.sub hst.old, hc.sz, cE hc.stp.hp hst hc.nd⟩
 | An σ id q e e2 xs l k n b z hl hj hi h ih =>
  intro m S hc
  have hst := Stp.CU hT hc.stp.hp hl hj hi
  exact ih ⟨hc.stp.trans hst, fun t => (hc.fr t).mono hst.keeps hst.sub hst.old, hc.sz, cE hc.stp.hp hst hc.nd⟩
 | cell σ id j e cs k n b z hl hj hi h ih =>
  intro m S hc
  have hst := Stp.CV hT hc.stp.hp hl hj hi
  exact ih ⟨hc.stp.trans hst, fun t => (hc.fr t).mono hst.keeps hst.sub hst.old, hc.sz, cE hc.stp.hp hst hc.nd⟩
end
inductive ax (tl : Bool) (P : Program) (ti : TypeId -> Option TI) (nt k0 : Nat) (ops : List Oper) (K : AS -> Prop) : AS -> Prop
 | of {σ : AS} (h : dN tl P ti nt ops K σ) : ax tl P ti nt k0 ops K σ
 | meet {α : Type} {σ : AS} (st : α -> LS) (I : α -> Prop) (h : dN tl P ti nt ops (fun σ' => ∃ a, I a /\ aq ti k0 (st a) σ') σ) (hk : ∀ a, I a -> K (st a).st) : ax tl P ti nt k0 ops K σ
 | dO {σ : AS} (slot id : Nat) (cs : List PV) (hs : σ.fr slot = .ptr id 0) (hl : live σ.h id (.cells (cs.map .p))) (h : ax tl P ti nt k0 ops K ⟨aM σ.fr slot (.aN cs), σ.h.set id none⟩) : ax tl P ti nt k0 ops K σ
section
variable {tl : Bool} {P : Program} {ti : TypeId -> Option TI} {nt k0 : Nat} {ops : List Oper} {K : AS -> Prop} {σ : AS}
theorem ax.quiet (hm : P.follows .mixedOrders = true) (hB : Region.lexB .any ops.toArray = true) (h : cz P ti nt true ops ops K σ) : ax tl P ti nt k0 ops K σ := .of (.quiet hm hB h)
theorem ax.bA (sc : Sc) (hm : P.follows .mixedOrders = true) (hn : Region.noSelect ops.toArray = true) (hB : scB ops.toArray sc ops.length (Array.replicate ops.length false) = true) (h : cQ P ti nt ops sc [] K σ) : ax tl P ti nt k0 ops K σ := .of (.bA sc hm hn hB h)
theorem ax.lin (sc : Ln) (hm : P.follows .mixedOrders = true) (hB : lnB ops.toArray sc ops.length (Array.replicate ops.length false) [] = true) (h : dX P ti nt ops sc [] K σ) : ax tl P ti nt k0 ops K σ := .of (.lin sc hm hB h)
theorem ax.sound {D : List Deferred} {H0 : AH} {m0 : Nat -> Value} {S0 : Nat -> Prop} {w0 : World} {m : Nat -> Value} {S : Nat -> Prop} {w : World} {a : Act} (hT : aK P ti) (hc : Cn P nt D H0 m0 S0 w0 σ m S a w) {id : Nat} {Q : Exit -> Act -> World -> Prop} (h : ax tl P ti nt H0.length ops K σ)
  (hK : ∀ σ' m' S' a' w', Cn P nt D H0 m0 S0 w0 σ' m' S' a' w' -> K σ' -> Q .normal a' w') : (Code.region id ops.toArray true).wp P Q a w := by
 induction h generalizing S with
 | of h => exact h.sound hT hc hK
 | meet st I h hk =>
  refine h.sound hT hc fun σ' m' S' a' w' hc' ⟨t, h1, h2⟩ => ?_
  obtain ⟨m2, S2, hc2⟩ := h2.cn hT hc'
  exact hK _ m2 S2 a' w' hc2 (hk t h1)
 | dO slot id cs hs hl h ih =>
  obtain ⟨S2, _, hc2⟩ := la hs hl hc
  exact ih hc2
theorem ax.mF {l n : Nat} {D : List Deferred} {H0 : AH} {m0 : Nat -> Value} {S0 : Nat -> Prop} {w0 : World} {m : Nat -> Value} {S : Nat -> Prop} {w : World} {a : Act} (hT : aK P ti) (hc : Cn P nt D H0 m0 S0 w0 σ m S a w) {id : Nat} {Q : Exit -> Act -> World -> Prop} (hd : ∀ o ∈ ops, ∀ c, o.op ≠ .defer c) (h : ax false P ti nt H0.length ops K σ)
  (hK : ∀ σ' m' S' a' w', Cn P nt D H0 m0 S0 w0 σ' m' S' a' w' -> K σ' -> Q .normal a' w') : (Code.region id ops.toArray true).wpIn (Fence.wide.inRound l) n P Q a w := by
 induction h generalizing S with
 | of h => exact h.mF hT hc hd hK
 | meet st I h hk =>
  refine h.mF hT hc hd fun σ' m' S' a' w' hc' ⟨t, h1, h2⟩ => ?_
  obtain ⟨m2, S2, hc2⟩ := h2.cn hT hc'
  exact hK _ m2 S2 a' w' hc2 (hk t h1)
 | dO slot id cs hs hl h ih =>
  obtain ⟨S2, _, hc2⟩ := la hs hl hc
  exact ih hc2
end
def sy (X : AS -> Prop) (Q : Exit -> AS -> Prop) : Exit -> AS -> Prop
 | .normal, σ => X σ
 | .exit i, σ => Q (.exit i) σ
 | .goto l, σ => Q (.goto l) σ
 | .ret, σ => Q .ret σ
 | .panic c, σ => Q (.panic c) σ
 | .outgrown, σ => Q .outgrown σ
def kr (id : Nat) (Q : Exit -> AS -> Prop) : Exit -> AS -> Prop
 | .normal, σ => Q .normal σ
 | .exit i, σ => match Nat.beq i id with
  | true => Q .normal σ
  | false => Q (.exit i) σ
 | .goto l, σ => Q (.goto l) σ
 | .ret, σ => Q .ret σ
 | .panic c, σ => Q (.panic c) σ
 | .outgrown, σ => Q .outgrown σ
def A4 (Q : Exit -> AS -> Prop) : Exit -> AS -> Prop
 | .normal, σ => Q .normal σ
 | .exit i, σ => Q (.exit i) σ
 | .goto _, _ => False
 | .ret, σ => Q .ret σ
 | .panic c, σ => Q (.panic c) σ
 | .outgrown, σ => Q .outgrown σ
inductive cw (ti : TypeId -> Option TI) (k0 : Nat) (body : (Exit -> AS -> Prop) -> AS -> Prop) (Q : Exit -> AS -> Prop) : AS -> Prop
 | step (σ : AS) (L : LS) (hs : aq ti k0 L σ) (X : AS -> Prop) (h : body (sy X Q) L.st) (hX : ∀ σ', X σ' -> cw ti k0 body Q σ') : cw ti k0 body Q σ
 | here (σ : AS) (X : AS -> Prop) (h : body (sy X Q) σ) (hX : ∀ σ', X σ' -> cw ti k0 body Q σ') : cw ti k0 body Q σ
theorem cw.fu {ti : TypeId -> Option TI} {k0 : Nat} {body : (Exit -> AS -> Prop) -> AS -> Prop} {Q : Exit -> AS -> Prop} {σ : AS} (h : body (sy (cw ti k0 body Q) Q) σ) : cw ti k0 body Q σ := .here σ _ h fun _ h => h
theorem ai {α : Type} {ti : TypeId -> Option TI} {k0 : Nat} {body : (Exit -> AS -> Prop) -> AS -> Prop} {Q : Exit -> AS -> Prop} {σ : AS} (st : α -> LS) (I : α -> Prop) (μ : α -> Nat) (a0 : α) (h0 : aq ti k0 (st a0) σ) (hI : I a0)
  (round : ∀ a, I a -> body (sy (fun σ' => ∃ a', I a' /\ μ a' < μ a /\ aq ti k0 (st a') σ') Q) (st a).st) : cw ti k0 body Q σ := by
 have key : ∀ n a σ, μ a = n -> I a -> aq ti k0 (st a) σ -> cw ti k0 body Q σ := by
  intro n
  induction n using Nat.strongRecOn with
  | _ n ih =>
   intro a σ hn hI hs
   exact .step σ (st a) hs _ (round a hI) fun σ' ⟨a', hI', hlt, hs'⟩ => ih (μ a') (by omega) a' σ' rfl hI' hs'
 exact key _ a0 σ rfl hI h0
def vU (ti : TypeId -> Option TI) (k0 : Nat) {α : Type} (st : α -> LS) (I : α -> Prop) (Q : Exit -> AS -> Prop) : Exit -> AS -> Prop
 | .normal, σ => ∃ a, I a /\ aq ti k0 (st a) σ
 | .exit i, σ => Q (.exit i) σ
 | .goto l, σ => Q (.goto l) σ
 | .ret, σ => Q .ret σ
 | .panic c, σ => Q (.panic c) σ
 | .outgrown, σ => Q .outgrown σ
inductive aB (ti : TypeId -> Option TI) (k0 : Nat) (b : Bool) (x y : (Exit -> AS -> Prop) -> AS -> Prop) (Q : Exit -> AS -> Prop) (σ : AS) : Prop
 | plain (h : br b (x Q σ) (y Q σ)) : aB ti k0 b x y Q σ
 | meet {α : Type} (st : α -> LS) (I : α -> Prop) (h : br b (x (vU ti k0 st I Q) σ) (y (vU ti k0 st I Q) σ)) (hk : ∀ a, I a -> Q .normal (st a).st) : aB ti k0 b x y Q σ
def q8 (o : Oper) : Bool := match o.op with
 | .defer _ => false
 | _ => true
def cx : Code -> Bool
 | .skip => true
 | .region _ ops draw => match draw with
  | true => ops.toList.all q8
  | false => true
 | .seq x y => cx x && cx y
 | .cond _ x y => cx x && cx y
 | .block _ c => cx c
 | .exit _ => true
 | .ret => true
 | _ => false
def nn : List Nat -> List PV -> (Nat -> AV) -> Nat -> AV
 | p :: ps, y :: ys, fr => nn ps ys (aM fr p (.p y))
 | _, _, fr => fr
structure CX (P : Program) (gf : FuncId) (x : PV) {α : Type} (e : α -> List PV) (N : Nat) (xs : List α) : Prop where
 enter : ∀ args w, (callFunc gf args).run P w = .ok (.enter gf args) w
 stops : ∀ (n : Nat) (S : Nat -> Prop) (w : World) (ad : Addr) (u : Value), (∀ b, S b -> b < w.heap.size) -> Glb S w -> S ad.block -> w.cell? ad = some u -> RdP S w x u ->
  ∃ encs : α -> Array Value, (∀ y, (encs y).size = (e y).length /\ ∀ (j : Nat) (c : PV), (e y)[j]? = some c -> RdP S w c ((encs y).getD j undef)) /\
   SeqStopsK Fence.wide (n + 1) P gf #[.pointer (some ad)] encs (fun A B => ∀ c, S c -> B.heap[c]? = A.heap[c]?) (fun l => l = xs) (fun p => ∃ s, p ++ s = xs) N w
def BI (X : AS -> Prop) : Exit -> AS -> Prop
 | .normal, σ => X σ
 | _, _ => False
def zo (ti : TypeId -> Option TI) (k : Nat) (H : AH) (I Pf : Prop) (fr : Nat -> AV) (Q : Exit -> AS -> Prop) : Exit -> AS -> Prop
 | .normal, σ => aq ti k ⟨[], H⟩ σ /\ I
 | .exit i, σ => ∃ H', aq ti k ⟨[], H'⟩ σ /\ bJ H' = true /\ (Pf -> Q (.exit i) ⟨fr, H'⟩)
 | .ret, σ => ∃ H', aq ti k ⟨[], H'⟩ σ /\ bJ H' = true /\ (Pf -> Q .ret ⟨fr, H'⟩)
 | _, _ => False
inductive iw (ti : TypeId -> Option TI) (P : Program) (asg body : Nat -> (Exit -> AS -> Prop) -> AS -> Prop) (ps : List Nat) (Q : Exit -> AS -> Prop) (g : AV) (σ : AS) : Prop
 | mk {α : Type} (gf : FuncId) (id : Nat) (x : PV) (e : α -> List PV) (N : Nat) (xs : List α) (hp : List α -> AH) (I : List α -> Prop)
   (hg : g = .clo (.func gf) [.ptr id 0]) (hl : live σ.h id (.cells [.p x])) (hseq : CX P gf x e N xs) (hps : ∀ y, (e y).length = ps.length)
   (h0 : aq ti (σ.h.set id none).length ⟨[], hp []⟩ ⟨σ.fr, σ.h.set id none⟩) (hI : I [])
   (round : ∀ pre y, I pre -> pre.length < N -> asg (hp pre).length (BI fun σ1 => bJ σ1.h = true /\ body σ1.h.length (zo ti (σ.h.set id none).length (hp (pre ++ [y])) (I (pre ++ [y])) (∃ s, pre ++ [y] ++ s = xs) σ.fr Q) σ1) ⟨nn ps (e y) σ.fr, hp pre⟩)
   (hk : I xs -> Q .normal ⟨σ.fr, hp xs⟩) (hnm : ∀ pre, bJ (hp pre) = true := by exact fun _ => rfl) : iw ti P asg body ps Q g σ
theorem iw.plain {ti : TypeId -> Option TI} {P : Program} {asg body : Nat -> (Exit -> AS -> Prop) -> AS -> Prop} {ps : List Nat} {Q : Exit -> AS -> Prop} {g : AV} {σ : AS} {α : Type} (gf : FuncId) (id : Nat) (x : PV) (e : α -> List PV) (N : Nat) (xs : List α) (hp : List α -> AH)
   (hg : g = .clo (.func gf) [.ptr id 0]) (hl : live σ.h id (.cells [.p x])) (hseq : CX P gf x e N xs) (hps : ∀ y, (e y).length = ps.length)
   (h0 : aq ti (σ.h.set id none).length ⟨[], hp []⟩ ⟨σ.fr, σ.h.set id none⟩)
   (round : ∀ pre y, pre.length < N -> asg (hp pre).length (BI fun σ1 => bJ σ1.h = true /\ body σ1.h.length (zo ti (σ.h.set id none).length (hp (pre ++ [y])) True (∃ s, pre ++ [y] ++ s = xs) σ.fr Q) σ1) ⟨nn ps (e y) σ.fr, hp pre⟩)
   (hk : Q .normal ⟨σ.fr, hp xs⟩) (hnm : ∀ pre, bJ (hp pre) = true := by exact fun _ => rfl) : iw ti P asg body ps Q g σ :=
 .mk gf id x e N xs hp (fun _ => True) hg hl hseq hps h0 trivial (fun pre y _ => round pre y) (fun _ => hk) hnm
def wpG (tl : Bool) (P : Program) (ti : TypeId -> Option TI) (nt : Nat) : Nat -> Code -> (Exit -> AS -> Prop) -> AS -> Prop
 | _, .skip, Q, σ => Q .normal σ
 | k0, .region _ ops draw, Q, σ => match draw with
  | true => ax tl P ti nt k0 ops.toList (Q .normal) σ
  | false => wpOps P ti nt ops.toList ops.toList (Q .normal) σ
 | k0, .seq x y, Q, σ => wpG tl P ti nt k0 x (sy (wpG tl P ti nt k0 y Q) Q) σ
 | k0, .cond c x y, Q, σ => match σ.ev c with
  | .p (.v (.bool b)) => aB ti k0 b (wpG tl P ti nt k0 x) (wpG tl P ti nt k0 y) Q σ
  | _ => False
 | k0, .block id c, Q, σ => wpG tl P ti nt k0 c (kr id Q) σ
 | k0, .loop c, Q, σ => cw ti k0 (wpG tl P ti nt k0 c) Q σ
 | _, .exit id, Q, σ => Q (.exit id) σ
 | k0, .scope c, Q, σ => wpG tl P ti nt k0 c (A4 Q) σ
 | _, .label _, Q, σ => Q .normal σ
 | _, .ret, Q, σ => Q .ret σ
 | _, .rangeFunc g ps x y, Q, σ => match cx x && cx y && (ps.toList.all fun p => Nat.blt p nt) with
  | true => iw ti P (fun k Q σ => wpG false P ti nt k x Q σ) (fun k Q σ => wpG false P ti nt k y Q σ) ps.toList Q (σ.ev g) σ
  | false => False
 | _, .goto _, _, _ => False
 | _, .refuse _, _, _ => False
abbrev wpA (P : Program) (ti : TypeId -> Option TI) (nt : Nat) : Nat -> Code -> (Exit -> AS -> Prop) -> AS -> Prop := wpG true P ti nt
section
variable {P : Program} {ti : TypeId -> Option TI} {nt : Nat} {D : List Deferred} {H0 : AH} {m0 : Nat -> Value} {S0 : Nat -> Prop} {w0 : World}
def QQ (P : Program) (nt : Nat) (D : List Deferred) (H0 : AH) (m0 : Nat -> Value) (S0 : Nat -> Prop) (w0 : World) (Q : Exit -> AS -> Prop) (e : Exit) (a : Act) (w : World) : Prop :=
 ∃ σ m S, Cn P nt D H0 m0 S0 w0 σ m S a w /\ Q e σ
theorem mN {c : Code} {Q : Exit -> Act -> World -> Prop} {a : Act} {w : World}
  (h : ∀ (b : Frame) (k : List Item) (cs : List Frame), ∃ e a' w', Q e a' w' /\ Arrives P (lone (b.at a (.code c :: .inLoop c :: k)) cs w) b k cs e a' w') : (Code.loop c).wp P Q a w := by
 intro b k cs
 obtain ⟨e, a', w', hq, harr⟩ := h b k cs
 exact ⟨e, a', w', hq, .of_steps (.one step_loop) harr⟩
theorem mP {fr : Nat -> AV} {H : AH} {op : Op} {k : AV -> AH -> Prop} (h : wpOp P ti fr H op k) : ∀ c, op ≠ .defer c := by
 rintro c rfl
 exact h
theorem qD {m : Nat -> Value} {S : Nat -> Prop} {w : World} {σ : AS} {a : Act} {l n : Nat} (hT : aK P ti) (hc : Cn P nt D H0 m0 S0 w0 σ m S a w) {o : Oper} {k : AV -> AH -> Prop} {next : Act -> World -> Prop} {Q : Exit -> Act -> World -> Prop} (h : wpOp P ti σ.fr σ.h o.op k)
  (hn : ∀ av H' m' S' v w', k av H' -> Stp P σ.h m S w H' m' S' w' -> Rd P H' m' S' w' av v -> next (a.put o.dst v) w') : o.wpIn (Fence.wide.inRound l) n P a w next Q := by
 refine ⟨fun _ _ => trivial, ?_⟩
 rw [Oper.semAt_eq _ _ _ (mP h)]
 unfold wpOp at h
 split at h
 ·obtain ⟨av, v, h1, h2, h3⟩ := eg hT hc.stp.hp hc.fr h
  rw [h3 w (Ag.refl w), Oper.uponIn_value]
  exact hn _ _ _ _ _ _ h1 (Stp.refl hc.stp.hp) h2
 ·obtain ⟨av, H', m', S', v, w', h1, h2, h3, h4⟩ := pV hT hc.stp.hp hc.fr h
  rcases h2 with h2 | ⟨h2, rfl⟩
  ·rw [h2, Oper.uponIn_value]
   exact hn _ _ _ _ _ _ h1 h3 h4
  ·rw [h2, Oper.uponIn_skip]
   exact hn _ _ _ _ _ _ h1 h3 h4
 ·generalize ho : o.op = op at h
  unfold gK at h
  split at h
  ·rename_i c
   obtain ⟨callee, args, ats⟩ := c
   simp only at h
   split at h
   ·rename_i f
    split at h
    ·rename_i g caps hf
     rw [di] at h
     have hE := bZ (P := P) hc.stp.hp.glb hc.fr f
     rw [hf] at hE
     generalize hv : a.eval f = fv at hE
     cases hE with
     | clo _ _ vs hl hr =>
      have hargs : ∀ (j : Nat) (x : AV), (args.toList.map σ.ev ++ caps)[j]? = some x -> Rd P σ.h m S w x ((args.map a.eval ++ vs).getD j undef) := fun j x hj => by
       by_cases hlt : j < args.size
       ·rw [List.getElem?_append_left (by simpa using hlt)] at hj
        have := iH (P := P) hc.stp.hp.glb hc.fr args.toList j x hj
        have e : (args.map a.eval ++ vs).getD j undef = (args.toList.map a.eval).getD j undef := by
         simp [Array.getD_eq_getD_getElem?, Array.getElem?_append_left, hlt]
        rw [e]
        exact this
       ·rw [List.getElem?_append_right (by simpa using hlt)] at hj
        have := hr _ x hj
        have e : (args.map a.eval ++ vs).getD j undef = vs.getD (j - (args.toList.map σ.ev).length) undef := by
         simp only [Array.getD_eq_getD_getElem?]
         rw [Array.getElem?_append_right (by simp; omega)]
         simp
        rw [e]
        exact this
      rcases h.BU with ⟨v, hx, hk⟩ | h
      ·obtain ⟨u, hu, hrd⟩ := hx.run σ.h m S w (args.map a.eval ++ vs) hc.stp.hp (by simp [hl]) hargs
       have hrun : (execOp a.eval o).run P w = .ok (.value u) w := by
        simp only [execOp, ho, resolve, hv, Deferred.ofValue]
        simp only [Sem.run_bind, Sem.run_pure, Result.andThen_ok, invoke]
        simpa using hu
       rw [hrun, Oper.uponIn_value]
       exact hn _ _ _ _ _ _ hk (Stp.refl hc.stp.hp) hrd
      obtain ⟨fn, hfn, hbody, hname⟩ := h.enter
      have hbn : fn.body.isNone = false := by cases hb : fn.body with
       | none => rw [hb] at hbody; cases hbody
       | some c => rfl
      have hrun : (execOp a.eval o).run P w = .ok (.enter g (args.map a.eval ++ vs)) w := by
       simp only [execOp, ho, resolve, hv, Deferred.ofValue]
       simp only [Sem.run_bind, Sem.run_pure, Result.andThen_ok, invoke, callFunc, run_program, hfn, hname, hbn, Bool.false_eq_true, if_false]
       simp
      rw [hrun, Oper.uponIn_enter]
      refine ⟨fun h => (by cases h), ?_⟩
      show CallsIn Fence.wide _ P g _ w _
      refine callsIn_wide.2 ((h.calls m S w (args.map a.eval ++ vs) hc.stp.hp (by simp [hl]) hargs).mono fun e w' ⟨v, r, H', m', S', he, hK, hs, hrd⟩ => ?_)
      subst he
      exact hn _ _ _ _ _ _ hK hs hrd
    ·cases h
   ·cases h
  ·cases h
theorem fp {l n : Nat} (hT : aK P ti) {ops : List Oper} {Q : Exit -> Act -> World -> Prop} : ∀ (rest : List Oper) (K : AS -> Prop) (σ : AS) (m : Nat -> Value) (S : Nat -> Prop) (a : Act) (w : World), Cn P nt D H0 m0 S0 w0 σ m S a w -> wpOps P ti nt ops rest K σ ->
  (∀ σ' m' S' a' w', Cn P nt D H0 m0 S0 w0 σ' m' S' a' w' -> K σ' -> Q .normal a' w') -> wpListIn (Fence.wide.inRound l) n P ops.toArray Q rest a w
 | [], K, σ, m, S, a, w, hc, h, hK => wpListIn_nil (hK _ _ _ _ _ hc h)
 | o :: rest, K, ⟨fr, H⟩, m, S, a, w, hc, h, hK => by
  refine wpListIn_step fun K' hK' => ?_
  unfold wpOps at h
  rcases bz hc h with ⟨hw, σ', hy, hc'⟩ | ⟨hw, σ', hno, hc'⟩
  ·rw [if_pos hw]
   refine qD hT hc' hy fun av H' m' S' v w' hk hs hrd => hK' _ _ ?_
   obtain ⟨σ2, h2, hc2⟩ := b_ hc' hs hrd hk
   exact fp hT rest K σ2 m' S' _ w' hc2 h2 hK
  ·rw [if_neg (by rw [hw]; simp)]
   refine ⟨fun _ _ => trivial, hK' _ _ ?_⟩
   obtain ⟨σ2, h2, hc2⟩ := b_ (vv := undef) hc' (Stp.refl hc'.stp.hp) cu hno
   exact fp hT rest K σ2 m S _ w hc2 h2 hK
theorem lK {l n : Nat} (hT : aK P ti) : ∀ (c : Code), cx c = true -> ∀ (Q : Exit -> AS -> Prop) (σ : AS) (m : Nat -> Value) (S : Nat -> Prop) (a : Act) (w : World), Cn P nt D H0 m0 S0 w0 σ m S a w -> wpG false P ti nt H0.length c Q σ ->
  c.wpIn (Fence.wide.inRound l) n P (QQ P nt D H0 m0 S0 w0 Q) a w := by
 intro c
 induction c with
 | skip => exact fun _ Q σ m S a w hc h => wpIn_skip ⟨σ, m, S, hc, h⟩
 | region id ops draw =>
  intro hs Q σ m S a w hc h
  cases draw with
  | false =>
   refine wpIn_region_list ?_
   have := fp (l := l) (n := n) (Q := QQ P nt D H0 m0 S0 w0 Q) hT ops.toList _ σ m S a w hc h fun σ' m' S' a' w' hc' hk => ⟨σ', m', S', hc', hk⟩
   simpa using this
  | true =>
   have hd : ∀ o ∈ ops.toList, ∀ c, o.op ≠ .defer c := fun o ho c he => by
    have := List.all_eq_true.1 (show ops.toList.all q8 = true from hs) o ho
    unfold q8 at this
    rw [he] at this
    cases this
   have := ax.mF (id := id) (l := l) (n := n) hT hc (Q := QQ P nt D H0 m0 S0 w0 Q) hd h fun σ' m' S' a' w' hc' hk => ⟨σ', m', S', hc', hk⟩
   simpa using this
 | seq x y ihx ihy =>
  intro hs Q σ m S a w hc h
  simp only [cx, Bool.and_eq_true] at hs
  refine wpIn_seq (Go.wpIn_mono (ihx hs.1 _ σ m S a w hc h) fun e a' w' ⟨σ', m', S', hc', hq⟩ => ?_)
  cases e with
  | normal => exact ihy hs.2 Q σ' m' S' a' w' hc' hq
  | exit i => exact ⟨σ', m', S', hc', hq⟩
  | goto l => exact ⟨σ', m', S', hc', hq⟩
  | ret => exact ⟨σ', m', S', hc', hq⟩
  | panic c => exact ⟨σ', m', S', hc', hq⟩
  | outgrown => exact ⟨σ', m', S', hc', hq⟩
 | cond c x y ihx ihy =>
  intro hs Q σ m S a w hc h
  simp only [cx, Bool.and_eq_true] at hs
  unfold wpG at h
  split at h
  ·rename_i b hb
   have hE := bZ (P := P) hc.stp.hp.glb hc.fr c
   rw [hb] at hE
   cases h with
   | plain h =>
    cases b with
    | true => exact wpIn_cond hE.pv.1 (ihx hs.1 Q σ m S a w hc h)
    | false => exact wpIn_cond hE.pv.1 (ihy hs.2 Q σ m S a w hc h)
   | meet st I h hk =>
    have fin : ∀ e a' w', QQ P nt D H0 m0 S0 w0 (vU ti H0.length st I Q) e a' w' -> QQ P nt D H0 m0 S0 w0 Q e a' w' := by
     intro e a' w' ⟨σ', m', S', hc', hq⟩
     cases e with
     | normal =>
      obtain ⟨t, h1, h2⟩ := hq
      obtain ⟨m2, S2, hc2⟩ := h2.cn hT hc'
      exact ⟨_, m2, S2, hc2, hk t h1⟩
     | exit i => exact ⟨σ', m', S', hc', hq⟩
     | goto l => exact ⟨σ', m', S', hc', hq⟩
     | ret => exact ⟨σ', m', S', hc', hq⟩
     | panic c => exact ⟨σ', m', S', hc', hq⟩
     | outgrown => exact ⟨σ', m', S', hc', hq⟩
    cases b with
    | true => exact Go.wpIn_mono (wpIn_cond hE.pv.1 (ihx hs.1 _ σ m S a w hc h)) fin
    | false => exact Go.wpIn_mono (wpIn_cond hE.pv.1 (ihy hs.2 _ σ m S a w hc h)) fin
  ·cases h
 | block id c ih =>
  intro hs Q σ m S a w hc h
  refine wpIn_block (Go.wpIn_mono (ih hs _ σ m S a w hc h) fun e a' w' ⟨σ', m', S', hc', hq⟩ => ?_)
  cases e with
  | exit i =>
   simp only [kr] at hq
   simp only [Exit.inBlock]
   split at hq
   ·rename_i hb
    rw [if_pos (Nat.eq_of_beq_eq_true hb)]
    exact ⟨σ', m', S', hc', hq⟩
   ·rename_i hb
    rw [if_neg (fun e => by subst e; simp at hb)]
    exact ⟨σ', m', S', hc', hq⟩
  | normal => exact ⟨σ', m', S', hc', hq⟩
  | goto l => exact ⟨σ', m', S', hc', hq⟩
  | ret => exact ⟨σ', m', S', hc', hq⟩
  | panic c => exact ⟨σ', m', S', hc', hq⟩
  | outgrown => exact ⟨σ', m', S', hc', hq⟩
 | exit id => exact fun _ Q σ m S a w hc h => wpIn_exit ⟨σ, m, S, hc, h⟩
 | ret => exact fun _ Q σ m S a w hc h => wpIn_ret ⟨σ, m, S, hc, h⟩
 | _ => intro hs; cases hs
def qR (ps : List Nat) (vs : List Value) (t : Array Value) : Array Value := (ps.zip vs).foldl (fun t (p : Nat × Value) => t.setIfInBounds p.1 p.2) t
theorem p0 : ∀ (ps : List Nat) (vs : List Value) (t : Array Value), (qR ps vs t).size = t.size
 | [], _, _ => by simp [qR]
 | _ :: _, [], _ => by simp [qR]
 | p :: ps, v :: vs, t => by
  have := p0 ps vs (t.setIfInBounds p v)
  simp [qR] at this ⊢
  rw [this]
theorem lP {m : Nat -> Value} {S : Nat -> Prop} {w : World} {h : AH} : ∀ (ps : List Nat) (ys : List PV) (vs : List Value) (fr : Nat -> AV) (t : Array Value), (ps.all fun p => Nat.blt p nt) = true -> t.size = nt -> ys.length = ps.length -> vs.length = ys.length ->
  (∀ (j : Nat) (c : PV), ys[j]? = some c -> RdP S w c (vs.getD j undef)) -> (∀ i, Rd P h m S w (fr i) (t.getD i undef)) -> ∀ i, Rd P h m S w (nn ps ys fr i) ((qR ps vs t).getD i undef)
 | [], ys, vs, fr, t, _, _, _, _, _, hf => by
  simpa [nn, qR] using hf
 | p :: ps, [], _, _, _, _, _, hl, _, _, _ => by simp at hl
 | p :: ps, y :: ys, [], _, _, _, _, _, hl, _, _ => by simp at hl
 | p :: ps, y :: ys, v :: vs, fr, t, hp, hs, hl, hv, hr, hf => by
  simp only [List.all_cons, Bool.and_eq_true] at hp
  have h1 : ∀ i, Rd P h m S w (aM fr p (.p y) i) ((t.setIfInBounds p v).getD i undef) :=
   qX (a := { tmps := t, defers := [] }) hf hs (bU hp.1) (.p _ _ (by simpa using hr 0 y rfl))
  have := lP ps ys vs (aM fr p (.p y)) (t.setIfInBounds p v) hp.2 (by simp [hs]) (by simpa using hl) (by simpa using hv) (fun j c hj => by simpa using hr (j + 1) c (by simpa using hj)) h1
  simpa [nn, qR] using this
theorem Stp.mm {H H' : AH} {m m' : Nat -> Value} {S S' : Nat -> Prop} {w W W' : World} {row : Option Nat} (h : Stp P H m S w H' m' S' W) (hp : Hp P H m S w) (hg : W.grownBy W' row) (hr : ∀ r, row = some r -> w.heap.size <= r /\ ¬ isC W r) (hq : bJ H' = true \/ ∀ r, row = some r -> ¬ isS W r) : Stp P H m S w H' m' S' W' := by
 have hnr : ∀ b, isC W b -> some b ≠ row := fun b hc he => (hr b he.symm).2 hc
 have hlt : ∀ b, isC W b -> b < W.heap.size := fun b ⟨_, _, _, hc⟩ => (Array.getElem?_eq_some_iff.1 hc).1
 have hk : b8 S' W W' := fun b hb => by
  refine hg.block b (h.hp.sub b hb) fun he => ?_
  obtain ⟨h1, h2⟩ := hr b he.symm
  rcases h.sM b hb with h3 | h3
  ·have := hp.sub b h3; omega
  ·exact h2 h3
 have hob : ∀ j o b, live H' j o -> Abs.blk (m' j) o = some b -> W'.heap[b]? = W.heap[b]? := fun j o b hl hb => hg.block b ((h.hp.obj j o hl).bE hb) <| by
  rcases hq with hq | hq
  ·exact hnr b ((h.hp.obj j o hl).isC hb (qg hq hl))
  ·exact fun he => hq b he.symm ((h.hp.obj j o hl).isS hb)
 refine ⟨h.old, ⟨fun j o hl => OK.mono hk (fun _ h => h) (aW.refl _ _) (h.hp.obj j o hl) (hob j o · hl), h.hp.inj, fun b hb => Nat.lt_of_lt_of_le (h.hp.sub b hb) hg.size, h.hp.out, h.hp.glb.mono hk fun _ h => h⟩,
  fun b hb => (hk b (h.sub b hb)).trans (h.keeps b hb), h.sub, hg.os.trans h.os, hg.tape.trans h.tape, hg.output.trans h.output, Nat.le_trans h.size hg.size, fun b hlt hn => ?_, h.wX, h.own, fun b hb => ?_⟩
 ·refine (hg.block b (Nat.lt_of_lt_of_le hlt h.size) fun he => ?_).trans (h.blk b hlt hn)
  have := (hr b he.symm).1
  omega
 ·rcases h.sM b hb with h1 | ⟨vs, T, f, h1⟩
  ·exact .inl h1
  ·exact .inr ⟨vs, T, f, (hg.block b (hlt b ⟨vs, T, f, h1⟩) (hnr b ⟨vs, T, f, h1⟩)).trans h1⟩
theorem Bh {w : World} {b : Nat} {o : Obj} (h : w.heap[b]? = some o) (ho : zk o = false) : ¬ isS w b := by
 rintro ⟨o', h', h2⟩
 rw [h] at h'
 injection h' with h'
 subst h'
 rw [ho] at h2; cases h2
theorem gg {w : World} {b : Nat} {o : Obj} (h : w.heap[b]? = some o) (ho : o.isCells = false) : ¬ isC w b := by
 rintro ⟨vs, T, f, h'⟩
 rw [h] at h'
 injection h' with h'
 subst h'
 cases ho
def Bk (d : Nat) (r : Loop) (W : World) : Prop := W.heap[d + 1]? = some (.loop r) /\ W.heap[d]? = some (.deferred (some []))
theorem Bk.mm {d : Nat} {r : Loop} {W W' : World} {row : Option Nat} (h : Bk d r W) (hg : W.grownBy W' row) (hr : ∀ j, row = some j -> d + 2 <= j) : Bk d r W' := by
 have h1 := (Array.getElem?_eq_some_iff.1 h.1).1
 have h2 := (Array.getElem?_eq_some_iff.1 h.2).1
 exact ⟨(hg.block _ h1 fun he => by have := hr _ he.symm; omega).trans h.1, (hg.block _ h2 fun he => by have := hr _ he.symm; omega).trans h.2⟩
theorem Bk.put {d : Nat} {r : Loop} {W : World} (h : Bk d r W) (r' : Loop) : Bk d r' (W.putObj (d + 1) (.loop r')) :=
 ⟨World.putObj_heap_same (Array.getElem?_eq_some_iff.1 h.1).1, (World.putObj_heap_other (by omega)).trans h.2⟩
theorem Bk.stp {d : Nat} {r : Loop} {H H' : AH} {m m' : Nat -> Value} {S S' : Nat -> Prop} {W W' : World} (h : Bk d r W) (hp : Hp P H m S W) (hn : bJ H = true) (hs : Stp P H m S W H' m' S' W') : Bk d r W' :=
 ⟨(hs.blk _ (Array.getElem?_eq_some_iff.1 h.1).1 fun ho => gg h.1 rfl (vR hp hn ho)).trans h.1, (hs.blk _ (Array.getElem?_eq_some_iff.1 h.2).1 fun ho => gg h.2 rfl (vR hp hn ho)).trans h.2⟩
def Gd (P : Program) (H1 : AH) (m : Nat -> Value) (S1 : Nat -> Prop) (w : World) (H' : AH) (W : World) : Prop := ∃ m' S', Stp P H1 m S1 w H' m' S' W
theorem Gd.mm {H1 H' : AH} {S1 : Nat -> Prop} {m : Nat -> Value} {w W W' : World} {row : Option Nat} (h : Gd P H1 m S1 w H' W) (hn : bJ H' = true) (hp : Hp P H1 m S1 w) (hg : W.grownBy W' row) (hr : ∀ r, row = some r -> w.heap.size <= r /\ ¬ isC W r) : Gd P H1 m S1 w H' W' := by
 obtain ⟨m', S', h⟩ := h
 exact ⟨m', S', h.mm hp hg hr (.inl hn)⟩
theorem Gd.put {H1 H' : AH} {S1 : Nat -> Prop} {m : Nat -> Value} {w W : World} {r : Loop} (h : Gd P H1 m S1 w H' W) (hn : bJ H' = true) (hp : Hp P H1 m S1 w) (hb : Bk w.heap.size r W) (r' : Loop) : Gd P H1 m S1 w H' (W.putObj (w.heap.size + 1) (.loop r')) :=
 h.mm hn hp (grownBy_putObj' _ _ _) fun j hj => by
  injection hj with hj
  subst hj
  exact ⟨by omega, gg hb.1 rfl⟩
def qm : Code -> Exit
 | .ret => .ret
 | .exit i => .exit i
 | _ => .normal
theorem sS (hT : aK P ti) {g : Operand} {ps : Array Tmp} {x y : Code} {Q : Exit -> AS -> Prop} {σ : AS} {m : Nat -> Value} {S : Nat -> Prop} {a : Act} {w : World} (hc : Cn P nt D H0 m0 S0 w0 σ m S a w) (hx : cx x = true) (hy : cx y = true)
  (hps' : (ps.toList.all fun p => Nat.blt p nt) = true) (h : iw ti P (fun k Q σ => wpG false P ti nt k x Q σ) (fun k Q σ => wpG false P ti nt k y Q σ) ps.toList Q (σ.ev g) σ) :
  (Code.rangeFunc g ps x y).wp P (QQ P nt D H0 m0 S0 w0 Q) a w := by
 obtain ⟨gf, id, xv, e, N, xs, hp, I, hg, hl, hseq, hpl, h0, hI, round, hk, hnm⟩ := h
 -- the closure, and its box
 have hE := bZ (P := P) hc.stp.hp.glb hc.fr g
 rw [hg] at hE
 obtain ⟨b, ad, hag, hmb, hadb, hcell, hbS⟩ : ∃ (b : Nat) (ad : Addr), a.eval g = .func (.func gf) #[] #[.pointer (some ad)] /\ Abs.blk (m id) (.cells [.p xv]) = some b /\ ad.block = b /\
   ∃ u : Value, w.cell? ad = some u /\ RdP S w xv u := by
  generalize hv : a.eval g = gv at hE
  cases hE with
  | clo _ _ vs hvl hr =>
   have h1 := hr 0 _ rfl
   have hvs : vs = #[vs.getD 0 undef] := by
    apply Array.ext
    ·simpa using hvl
    ·intro i h1 h2
     have : i = 0 := by simp at h2; exact h2
     subst this
     simp [Array.getD, h1]
   generalize hu : vs.getD 0 undef = u at h1 hvs
   subst hvs
   cases h1 with
   | ptr _ _ ad hid hpt =>
    obtain ⟨b, h2, rfl⟩ := hpt _ hl
    obtain ⟨b', T, us, h3, h4, h5, h6⟩ := hc.stp.hp.obj id _ hl
    rw [h2] at h3
    injection h3 with h3; injection h3 with h3; injection h3 with h3
    subst h3
    have h7 := h6 0 _ rfl
    have h8 : us[0]? = some (us.getD 0 undef) := by
     have : 0 < us.size := by
      have h5 : 1 <= us.size := h5
      omega
     simp [Array.getD, this]
    refine ⟨b, ⟨b, 0, none⟩, rfl, by rw [h2]; rfl, rfl, us.getD 0 undef, (fo h4).trans h8, ?_⟩
    cases h7.1 with | p _ _ h => exact h
 obtain ⟨hcu, hru⟩ := hbS
 have hst1 := Stp.dO hc.stp.hp hl hmb
 obtain ⟨H1, hH1⟩ : ∃ H1, σ.h.set id none = H1 := ⟨_, rfl⟩
 obtain ⟨S1, hS1⟩ : ∃ S1 : Nat -> Prop, (fun c => S c \/ c = b) = S1 := ⟨_, rfl⟩
 rw [hS1] at hst1
 rw [hH1] at hst1 h0
 simp only [hH1] at round
 have hsubS : ∀ c, S c -> S1 c := fun c hc' => by rw [<- hS1]; exact .inl hc'
 have hfr1 : ∀ t, Rd P H1 m S1 w (σ.fr t) (a.tmps.getD t undef) := fun t => (hc.fr t).mono hst1.keeps hst1.sub hst1.old
 have hp1 := hst1.hp
 obtain ⟨encs, henc, hstop⟩ := hseq.stops 1 S1 w ad hcell hp1.sub hp1.glb (by rw [<- hS1]; exact .inr hadb) hcu (hru.mono (fun _ _ => rfl) hsubS)
 have hsize : ∀ z, (encs z).size = ps.size := fun z => by rw [(henc z).1, hpl z, Array.length_toList]
 have hzip : ∀ z, (ps.zip (encs z)).foldl (fun t (p, v) => t.setIfInBounds p v) a.tmps = qR ps.toList (encs z).toList a.tmps := fun z => by
  unfold qR
  rw [<- Array.foldl_toList, Array.toList_zip]
 have hcE : Cn P nt [] H1 m S1 w ⟨σ.fr, H1⟩ m S1 { tmps := a.tmps, defers := [] } w := ⟨Stp.refl hp1, hfr1, hc.sz, gX⟩
 have hI0 : Gd P H1 m S1 w (hp []) w := by
  obtain ⟨m', S', h1⟩ := h0.cn hT hcE
  exact ⟨m', S', h1.stp⟩
 refine wpIn_wide.1 (wpIn_rangeFunc (n := 3) (F := Fence.wide) fun fn _ => ?_)
 obtain ⟨rc, hrc⟩ : ∃ rc : LoopState -> Option Code -> Loop, rc = fun st pe => { state := st, pending := pe, fn, tmps := a.tmps, params := ps, assign := x, body := y, defers := w.heap.size } := ⟨_, rfl⟩
 obtain ⟨W1, hW1⟩ : ∃ W1, (w.alloc (.deferred (some []))).alloc (.loop (rc .ready none)) = W1 := ⟨_, rfl⟩
 have hz1 : W1.heap.size = w.heap.size + 2 := by rw [<- hW1]; simp
 have hB1 : Bk w.heap.size (rc .ready none) W1 := by
  rw [<- hW1]
  have h1 := World.alloc_heap_new (w.alloc (.deferred (some []))) (.loop (rc .ready none))
  rw [World.size_alloc] at h1
  exact ⟨h1, (Below.heap_alloc _ _ _ (by simp)).trans (World.alloc_heap_new w _)⟩
 have hg1 : Gd P H1 m S1 w (hp []) W1 := by
  rw [<- hW1]
  exact (hI0.mm (hnm _) hp1 (World.grownBy_alloc _ _ none) (fun _ h => by cases h)).mm (hnm _) hp1 (World.grownBy_alloc _ _ none) (fun _ h => by cases h)
 refine ⟨w.heap.size + 1, [{ target := .collected w.heap.size, args := #[] }], W1, { target := .fn (.func gf) #[.pointer (some ad)], args := #[.func (.yield (w.heap.size + 1)) #[] #[]] }, W1, gf,
  #[.func (.yield (w.heap.size + 1)) #[] #[]] ++ #[.pointer (some ad)], W1, ?_, ?_, fun _ _ => trivial, ?_, fun h => (by cases h), ?_⟩
 ·rw [<- hW1, hrc]; exact run_enterLoop_outer _ _ _ _ _
 ·simp only [resolve, hag]
  simp [go_sem]
 ·simp [invoke, go_sem, hseq.enter]
 have walk : ∀ {A : World} {row : Option Nat}, (∀ r, row = some r -> W1.heap.size <= r /\ ∃ o : Obj, A.heap[r]? = some o /\ o.isWalk = true) -> ∀ r, row = some r -> w.heap.size + 2 <= r /\ w.heap.size <= r /\ ¬ isC A r := fun hr r he => by
  obtain ⟨h1, o, h2, h3⟩ := hr r he
  exact ⟨by omega, by omega, gg h2 (Obj.not_cells_of_walk h3)⟩
 refine (hstop (w.heap.size + 1) (fun pre W => (Gd P H1 m S1 w (hp pre) W /\ I pre) /\ Bk w.heap.size (rc .ready none) W)
  (fun pre W => ∃ c H', (qm c = .ret /\ c = .ret \/ ∃ i, c = .exit i) /\ bJ H' = true /\ Gd P H1 m S1 w H' W /\ ((∃ s, pre ++ s = xs) -> Q (qm c) ⟨σ.fr, H'⟩) /\ Bk w.heap.size (rc .done (some c)) W) W1 ?_ ?_ ?_ ?_ ⟨⟨hg1, hI⟩, hB1⟩).mono ?_
 ·rw [<- hW1]
  exact ((Below.refl _ w).alloc (Nat.le_refl _) _).alloc (by simp) _
 ·rintro pre A B row ⟨⟨h1, hIp⟩, h2⟩ hgr hr
  have hr' := walk hr
  exact ⟨⟨h1.mm (hnm _) hp1 hgr fun r he => (hr' r he).2, hIp⟩, h2.mm hgr fun r he => (hr' r he).1⟩
 ·rintro pre A B row ⟨c, H', h0, hn, h1, hq, h2⟩ hgr hr
  have hr' := walk hr
  exact ⟨c, H', h0, hn, h1.mm hn hp1 hgr fun r he => (hr' r he).2, hq, h2.mm hgr fun r he => (hr' r he).1⟩
 ·
  rintro pre z W ⟨⟨⟨m', S', hst⟩, hIp⟩, hb⟩ hlt
  have hyl := run_yield (P := P) (args := encs z) hb.1 (by rw [hrc]; exact hsize z)
  rw [hrc] at hyl
  refine ⟨fn, _, x, y, hyl, roundIn_of_wpIn (F := Fence.wide) trivial ?_⟩
  have hcA : Cn P nt [] (hp pre) m' S' W ⟨nn ps.toList (e z) σ.fr, hp pre⟩ m' S' { tmps := (ps.zip (encs z)).foldl (fun t (p, v) => t.setIfInBounds p v) a.tmps, defers := [] } W := by
   refine ⟨Stp.refl hst.hp, ?_, ?_, gX⟩
   ·show ∀ t, Rd P (hp pre) m' S' W _ (((ps.zip (encs z)).foldl _ a.tmps).getD t undef)
    rw [hzip]
    refine lP ps.toList (e z) (encs z).toList σ.fr a.tmps hps' hc.sz (hpl z) (by rw [Array.length_toList]; exact (henc z).1) (fun j c hj => ?_) fun t => (hfr1 t).mono hst.keeps hst.sub hst.old
    have := ((henc z).2 j c hj).mono hst.keeps hst.sub
    simpa [Array.getD_eq_getD_getElem?, List.getD_eq_getElem?_getD] using this
   ·show ((ps.zip (encs z)).foldl _ a.tmps).size = nt
    rw [hzip, p0]; exact hc.sz
  refine Go.wpIn_mono (lK hT x hx _ _ m' S' _ W hcA (round pre z hIp hlt)) ?_
  rintro ex a2 W2 ⟨σ1, m1, S1', hc1, hq⟩
  cases ex with
  | exit i => exact hq.elim
  | goto l => exact hq.elim
  | ret => exact hq.elim
  | panic c => exact hq.elim
  | outgrown => exact hq.elim
  | normal =>
   obtain ⟨hn1, hq⟩ := hq
   have hb2 := hb.stp hst.hp (hnm pre) hc1.stp
   have hst1 := hst.trans hc1.stp
   refine ⟨_, run_beginRound hb2.1 (by rw [hrc]), ?_⟩
   obtain ⟨W3, hW3⟩ : ∃ W3, W2.putObj (w.heap.size + 1) (.loop { rc .ready none with state := .busy }) = W3 := ⟨_, rfl⟩
   rw [hW3]
   have hb3 : Bk w.heap.size { rc .ready none with state := .busy } W3 := by rw [<- hW3]; exact hb2.put _
   have hgr3 : W2.grownBy W3 (some (w.heap.size + 1)) := by rw [<- hW3]; exact grownBy_putObj' _ _ _
   have hrow3 : ∀ r, some (w.heap.size + 1) = some r -> w.heap.size <= r /\ ¬ isC W2 r := fun r he => by
    injection he with he
    subst he
    exact ⟨by omega, gg hb2.1 rfl⟩
   have hst3 := hst1.mm hp1 hgr3 hrow3 (.inl hn1)
   have hk3 : b8 S1' W2 W3 := fun b hbS => by
    refine hgr3.block b (hc1.stp.hp.sub b hbS) fun he => ?_
    injection he with he
    subst he
    rcases hst1.sM _ hbS with h3 | h3
    ·have := hp1.sub _ h3; omega
    ·exact gg hb2.1 rfl h3
   have hcB : Cn P nt a2.defers σ1.h m1 S1' W3 ⟨σ1.fr, σ1.h⟩ m1 S1' a2 W3 := ⟨Stp.refl hst3.hp, fun t => (hc1.fr t).mono hk3 (fun _ h => h) (aW.refl _ _), hc1.sz, [], rfl, List.nodup_nil, by simp⟩
   refine Go.wpIn_mono (lK hT y hy _ _ m1 S1' a2 W3 hcB hq) ?_
   rintro ex a4 W4 ⟨σ', m2, S2, hc2, hq⟩
   have hb4 := hb3.stp hst3.hp hn1 hc2.stp
   have hst4 := hst3.trans hc2.stp
   have hcF : Cn P nt a4.defers H1 m S1 w σ' m2 S2 a4 W4 := ⟨hst4, hc2.fr, hc2.sz, [], rfl, List.nodup_nil, by simp⟩
   have hend : ∀ j : Option Code, ∃ W5, (Instr.endRound (w.heap.size + 1) j).run P W4 = .ok (.bool j.isNone) W5 /\ W5 = W4.putObj (w.heap.size + 1) (.loop (rc (if j.isNone then .ready else .done) j)) := fun j => by
    have := run_endRound (P := P) j hb4.1
    rw [hrc] at this ⊢
    exact ⟨_, this, rfl⟩
   have jump : ∀ (c : Code), (qm c = .ret /\ c = .ret \/ ∃ i, c = .exit i) -> (∃ H', aq ti H1.length ⟨[], H'⟩ σ' /\ bJ H' = true /\ ((∃ s, pre ++ [z] ++ s = xs) -> Q (qm c) ⟨σ.fr, H'⟩)) -> ∃ v w', (Instr.endRound (w.heap.size + 1) (some c)).run P W4 = .ok v w' /\
     ∃ c' H', (qm c' = .ret /\ c' = .ret \/ ∃ i, c' = .exit i) /\ bJ H' = true /\ Gd P H1 m S1 w H' w' /\ ((∃ s, pre ++ [z] ++ s = xs) -> Q (qm c') ⟨σ.fr, H'⟩) /\ Bk w.heap.size (rc .done (some c')) w' /\ v = .bool false := fun c h0 ⟨H', h1, h2, h3⟩ => by
    obtain ⟨m5, S5, hc5⟩ := aq.cn hT h1 hcF
    obtain ⟨W5, h5, rfl⟩ := hend (some c)
    exact ⟨_, _, h5, c, H', h0, h2, Gd.put (H' := H') ⟨m5, S5, hc5.stp⟩ h2 hp1 hb4 _, h3, hb4.put _, rfl⟩
   cases ex with
   | normal =>
    obtain ⟨m5, S5, hc5⟩ := aq.cn hT hq.1 hcF
    obtain ⟨W5, h5, rfl⟩ := hend none
    refine ⟨_, _, h5, .inl ⟨rfl, ⟨⟨Gd.put ⟨m5, S5, hc5.stp⟩ (hnm _) hp1 hb4 _, hq.2⟩, hb4.put _⟩, fun c hcS => ?_⟩⟩
    have hlt := hp1.sub c hcS
    rw [World.putObj_heap_other (by omega)]
    exact (hst4.keeps c hcS).trans (hst.keeps c hcS).symm
   | exit i =>
    obtain ⟨v, w', h5, c', H', k1, k2, k3, k4, k5, rfl⟩ := jump (.exit i) (.inr ⟨i, rfl⟩) hq
    exact ⟨_, _, h5, .inr ⟨rfl, c', H', k1, k2, k3, k4, k5⟩⟩
   | ret =>
    obtain ⟨v, w', h5, c', H', k1, k2, k3, k4, k5, rfl⟩ := jump .ret (.inl ⟨rfl, rfl⟩) hq
    exact ⟨_, _, h5, .inr ⟨rfl, c', H', k1, k2, k3, k4, k5⟩⟩
   | goto l => exact hq.elim
   | panic c => exact hq.elim
   | outgrown => exact hq.elim
 ·
  have fin : ∀ (H' : AH) (W : World) (st : LoopState) (pe : Option Code) (e : Exit), Gd P H1 m S1 w H' W -> bJ H' = true -> Bk w.heap.size (rc st pe) W -> Q e ⟨σ.fr, H'⟩ ->
    QQ P nt D H0 m0 S0 w0 Q e { a with defers := [{ target := .collected w.heap.size, args := #[] }] ++ a.defers } (W.putObj (w.heap.size + 1) (.loop { rc st pe with state := .exhausted })) := by
   intro H' W st pe e hg hn hb hk
   obtain ⟨m', S', hst⟩ := hg.put hn hp1 hb { rc st pe with state := .exhausted }
   have hb' := hb.put { rc st pe with state := .exhausted }
   have hst2 := hst1.trans hst
   obtain ⟨ms, h1, h2⟩ := hc.nd
   refine ⟨⟨σ.fr, H'⟩, m', S', ⟨hc.stp.trans hst2, fun t => (hc.fr t).mono hst2.keeps hst2.sub hst2.old, hc.sz, w.heap.size :: ms, ?_, ?_, fun c hc' => ?_⟩, hk⟩
   ·show _ :: a.defers = _
    rw [h1]; rfl
   ·refine List.nodup_cons.2 ⟨fun hm => ?_, h2.1⟩
    have := (Array.getElem?_eq_some_iff.1 (h2.2 _ hm).2).1
    omega
   ·rcases List.mem_cons.1 hc' with rfl | hc'
    ·exact ⟨hc.stp.size, hb'.2⟩
    ·exact (h2.stp hc.stp.hp hst2).2 c hc'
  have hel : ∀ (st : LoopState) (pe : Option Code) (W : World), st ≠ .busy -> Bk w.heap.size (rc st pe) W -> (Instr.endLoop (w.heap.size + 1)).run P W = .ok pe (W.putObj (w.heap.size + 1) (.loop { rc st pe with state := .exhausted })) := fun st pe W hs hb => by
   have := run_endLoop (P := P) hb.1 (by rw [hrc]; exact hs)
   rw [this, hrc]
  rintro e2 W2 ⟨⟨v, rfl⟩, (⟨xs', hxs, ⟨hg, hIx⟩, hb⟩ | ⟨pre, hpf, c, H', h0, hn, hg, hq, hb⟩)⟩
  ·subst hxs
   refine ⟨none, _, hel _ _ _ (by simp) hb, ?_⟩
   exact fin _ _ _ _ _ hg (hnm _) hb (hk hIx)
  ·refine ⟨some c, _, hel _ _ _ (by simp) hb, ?_⟩
   rcases h0 with ⟨_, rfl⟩ | ⟨i, rfl⟩
   ·exact wpIn_ret (fin _ _ _ _ _ hg hn hb (hq hpf))
   ·exact wpIn_exit (fin _ _ _ _ _ hg hn hb (hq hpf))
theorem wL (hT : aK P ti) : ∀ (c : Code) (Q : Exit -> AS -> Prop) (σ : AS) (m : Nat -> Value) (S : Nat -> Prop) (a : Act) (w : World), Cn P nt D H0 m0 S0 w0 σ m S a w -> wpA P ti nt H0.length c Q σ ->
  c.wp P (QQ P nt D H0 m0 S0 w0 Q) a w := by
 intro c
 induction c with
 | skip => exact fun Q σ m S a w hc h => wp_skip ⟨σ, m, S, hc, h⟩
 | region id ops draw =>
  intro Q σ m S a w hc h
  unfold wpG at h
  split at h
  ·have := h.sound (id := id) hT hc (Q := QQ P nt D H0 m0 S0 w0 Q) fun σ' m' S' a' w' hc' hk => ⟨σ', m', S', hc', hk⟩
   simpa using this
  ·refine wp_region_list ?_
   have := eX (Q := QQ P nt D H0 m0 S0 w0 Q) hT ops.toList _ σ m S a w hc h fun σ' m' S' a' w' hc' hk => ⟨σ', m', S', hc', hk⟩
   simpa using this
 | seq x y ihx ihy =>
  intro Q σ m S a w hc h
  refine wp_seq (wp_mono (ihx _ σ m S a w hc h) fun e a' w' ⟨σ', m', S', hc', hq⟩ => ?_)
  cases e with
  | normal => exact ihy Q σ' m' S' a' w' hc' hq
  | exit i => exact ⟨σ', m', S', hc', hq⟩
  | goto l => exact ⟨σ', m', S', hc', hq⟩
  | ret => exact ⟨σ', m', S', hc', hq⟩
  | panic c => exact ⟨σ', m', S', hc', hq⟩
  | outgrown => exact ⟨σ', m', S', hc', hq⟩
 | cond c x y ihx ihy =>
  intro Q σ m S a w hc h
  unfold wpG at h
  split at h
  ·rename_i b hb
   have hE := bZ (P := P) hc.stp.hp.glb hc.fr c
   rw [hb] at hE
   cases h with
   | plain h =>
    cases b with
    | true => exact wp_cond hE.pv.1 (ihx Q σ m S a w hc h)
    | false => exact wp_cond hE.pv.1 (ihy Q σ m S a w hc h)
   | meet st I h hk =>
    have fin : ∀ e a' w', QQ P nt D H0 m0 S0 w0 (vU ti H0.length st I Q) e a' w' -> QQ P nt D H0 m0 S0 w0 Q e a' w' := by
     intro e a' w' ⟨σ', m', S', hc', hq⟩
     cases e with
     | normal =>
      obtain ⟨t, h1, h2⟩ := hq
      obtain ⟨m2, S2, hc2⟩ := h2.cn hT hc'
      exact ⟨_, m2, S2, hc2, hk t h1⟩
     | exit i => exact ⟨σ', m', S', hc', hq⟩
     | goto l => exact ⟨σ', m', S', hc', hq⟩
     | ret => exact ⟨σ', m', S', hc', hq⟩
     | panic c => exact ⟨σ', m', S', hc', hq⟩
     | outgrown => exact ⟨σ', m', S', hc', hq⟩
    cases b with
    | true => exact wp_mono (wp_cond hE.pv.1 (ihx _ σ m S a w hc h)) fin
    | false => exact wp_mono (wp_cond hE.pv.1 (ihy _ σ m S a w hc h)) fin
  ·cases h
 | block id c ih =>
  intro Q σ m S a w hc h
  refine wp_block (wp_mono (ih _ σ m S a w hc h) fun e a' w' ⟨σ', m', S', hc', hq⟩ => ?_)
  cases e with
  | exit i =>
   simp only [kr] at hq
   simp only [Exit.inBlock]
   split at hq
   ·rename_i hb
    rw [if_pos (Nat.eq_of_beq_eq_true hb)]
    exact ⟨σ', m', S', hc', hq⟩
   ·rename_i hb
    rw [if_neg (fun e => by subst e; simp at hb)]
    exact ⟨σ', m', S', hc', hq⟩
  | normal => exact ⟨σ', m', S', hc', hq⟩
  | goto l => exact ⟨σ', m', S', hc', hq⟩
  | ret => exact ⟨σ', m', S', hc', hq⟩
  | panic c => exact ⟨σ', m', S', hc', hq⟩
  | outgrown => exact ⟨σ', m', S', hc', hq⟩
 | loop c ih =>
  intro Q σ m S a w hc h
  refine mN ?_
  have key : ∀ σ, cw ti H0.length (wpA P ti nt H0.length c) Q σ -> ∀ m S a w, Cn P nt D H0 m0 S0 w0 σ m S a w -> ∀ (b : Frame) (k : List Item) (cs : List Frame),
    ∃ e a' w', QQ P nt D H0 m0 S0 w0 Q e a' w' /\ Arrives P (lone (b.at a (.code c :: .inLoop c :: k)) cs w) b k cs e a' w' := by
   intro σ h
   induction h with
   | step σ L hs X h hX ihX =>
    intro m S a w hc b k cs
    obtain ⟨m1, S1, hc1⟩ := hs.cn hT hc
    obtain ⟨e, a1, w1, ⟨σ1, m2, S2, hc2, hq⟩, harr⟩ := ih _ _ m1 S1 a w hc1 h b (.inLoop c :: k) cs
    cases e with
    | normal =>
     obtain ⟨e2, a2, w2, hq2, harr2⟩ := ihX σ1 hq m2 S2 a1 w1 hc2 b k cs
     exact ⟨e2, a2, w2, hq2, .of_steps (Steps.trans harr (.one step_inLoop)) harr2⟩
    | exit id => exact ⟨_, a1, w1, ⟨σ1, m2, S2, hc2, hq⟩, .pass (x := .inLoop c) rfl (fun _ _ => .inl (by simp)) harr⟩
    | goto l => exact ⟨_, a1, w1, ⟨σ1, m2, S2, hc2, hq⟩, .pass (x := .inLoop c) rfl (fun _ _ => .inl (by simp)) harr⟩
    | ret => exact ⟨_, a1, w1, ⟨σ1, m2, S2, hc2, hq⟩, .pass (x := .inLoop c) rfl (fun _ _ => .inl (by simp)) harr⟩
    | panic ch => exact ⟨_, a1, w1, ⟨σ1, m2, S2, hc2, hq⟩, .pass (x := .inLoop c) rfl (fun _ _ => .inl (by simp)) harr⟩
    | outgrown => exact ⟨_, a1, w1, ⟨σ1, m2, S2, hc2, hq⟩, .pass (x := .inLoop c) rfl (fun _ _ => .inl (by simp)) harr⟩
   | here σ X h hX ihX =>
    intro m S a w hc b k cs
    obtain ⟨e, a1, w1, ⟨σ1, m2, S2, hc2, hq⟩, harr⟩ := ih _ _ m S a w hc h b (.inLoop c :: k) cs
    cases e with
    | normal =>
     obtain ⟨e2, a2, w2, hq2, harr2⟩ := ihX σ1 hq m2 S2 a1 w1 hc2 b k cs
     exact ⟨e2, a2, w2, hq2, .of_steps (Steps.trans harr (.one step_inLoop)) harr2⟩
    | exit id => exact ⟨_, a1, w1, ⟨σ1, m2, S2, hc2, hq⟩, .pass (x := .inLoop c) rfl (fun _ _ => .inl (by simp)) harr⟩
    | goto l => exact ⟨_, a1, w1, ⟨σ1, m2, S2, hc2, hq⟩, .pass (x := .inLoop c) rfl (fun _ _ => .inl (by simp)) harr⟩
    | ret => exact ⟨_, a1, w1, ⟨σ1, m2, S2, hc2, hq⟩, .pass (x := .inLoop c) rfl (fun _ _ => .inl (by simp)) harr⟩
    | panic ch => exact ⟨_, a1, w1, ⟨σ1, m2, S2, hc2, hq⟩, .pass (x := .inLoop c) rfl (fun _ _ => .inl (by simp)) harr⟩
    | outgrown => exact ⟨_, a1, w1, ⟨σ1, m2, S2, hc2, hq⟩, .pass (x := .inLoop c) rfl (fun _ _ => .inl (by simp)) harr⟩
  exact key σ h m S a w hc
 | exit id => exact fun Q σ m S a w hc h => wp_exit ⟨σ, m, S, hc, h⟩
 | scope c ih =>
  intro Q σ m S a w hc h
  refine wp_scope_straight (wp_mono (ih _ σ m S a w hc h) fun e a' w' ⟨σ', m', S', hc', hq⟩ => ?_)
  cases e with
  | goto l => exact hq.elim
  | normal => exact ⟨σ', m', S', hc', hq⟩
  | exit i => exact ⟨σ', m', S', hc', hq⟩
  | ret => exact ⟨σ', m', S', hc', hq⟩
  | panic c => exact ⟨σ', m', S', hc', hq⟩
  | outgrown => exact ⟨σ', m', S', hc', hq⟩
 | label l => exact fun Q σ m S a w hc h => wp_label ⟨σ, m, S, hc, h⟩
 | ret => exact fun Q σ m S a w hc h => wp_ret ⟨σ, m, S, hc, h⟩
 | rangeFunc g ps x y _ _ =>
  intro Q σ m S a w hc h
  unfold wpG at h
  split at h
  ·rename_i hb
   simp only [Bool.and_eq_true] at hb
   exact sS hT hc hb.1.1 hb.1.2 hb.2 h
  ·cases h
 | goto l => exact fun Q σ m S a w hc h => h.elim
 | refuse why => exact fun Q σ m S a w hc h => h.elim
end
end Go.Abs
namespace Go.Abs
open Go.RowKit
section
variable {P : Program} {ti : TypeId -> Option TI} {nt : Nat} {D : List Deferred} {H0 : AH} {m0 : Nat -> Value} {S0 : Nat -> Prop} {w0 : World} {m : Nat -> Value} {S : Nat -> Prop} {w : World}
theorem Hp.nil (h : ∀ b, S b -> b < w.heap.size) (hG : Glb S w) : Hp P [] m S w :=
 ⟨fun id o hl => by simp [live] at hl, fun i j oi oj b hi => by simp [live] at hi, h, fun i o b hi => by simp [live] at hi, hG⟩
theorem rY {g : FuncId} {fn : Func} (hf : P.funcs[g]? = some fn) (hb : fn.body.isSome = true) (hn : (fn.name == "runtime.NumGoroutine") = false) (args : Array Value) (w : World) : (callFunc g args).run P w = .ok (.enter g args) w := by
 have hbn : fn.body.isNone = false := by cases h : fn.body with
  | none => rw [h] at hb; cases hb
  | some c => rfl
 simp only [callFunc, Sem.run_bind, run_program, Result.andThen_ok, hf, hn, hbn, Bool.false_eq_true, if_false]
 rfl
theorem vW {n : Nat} (hT : aK P ti) {ops : List Oper} {Q : Exit -> Act -> World -> Prop} : ∀ (l1 l2 : List Oper) (K : AS -> Prop) (σ : AS) (a : Act), Cn P nt D H0 m0 S0 w0 σ m S a w -> cz P ti nt false ops l1 K σ ->
  (∀ σ' a', Cn P nt D H0 m0 S0 w0 σ' m S a' w -> K σ' -> wpListIn Fence.wide n P ops.toArray Q l2 a' w) -> wpListIn Fence.wide n P ops.toArray Q (l1 ++ l2) a w
 | [], l2, K, σ, a, hc, h, hK => hK _ _ hc h
 | o :: l, l2, K, ⟨fr, H⟩, a, hc, h, hK => by
  refine wpListIn_step fun K' hK' => ?_
  unfold cz at h
  rcases bz hc h with ⟨hw, σ', hy, hc'⟩ | ⟨hw, σ', hno, hc'⟩
  ·rw [if_pos hw]
   obtain ⟨av, v, hk, hrd, _, hs⟩ := gI hT hc' hy
   obtain ⟨σ2, h2, hc2⟩ := gU hc' hrd hk
   refine ⟨fun _ _ => trivial, ?_⟩
   rw [show Fence.wide.round = none from rfl, Oper.semAt_none, hs rfl w (Ag.refl w), Oper.uponIn_value]
   exact hK' _ _ (vW hT l l2 K σ2 _ hc2 h2 hK)
  ·rw [if_neg (by rw [hw]; simp)]
   obtain ⟨σ2, h2, hc2⟩ := gU (vv := undef) hc' cu hno
   exact ⟨fun _ _ => trivial, hK' _ _ (vW hT l l2 K σ2 _ hc2 h2 hK)⟩
theorem BW {n l : Nat} {ops : List Oper} {Q : Exit -> Act -> World -> Prop} {rest : List Oper} {o : Oper} {a : Act} {f : Operand} {args : Array Operand} {ats : Array TypeId} {R : Ending -> World -> Prop}
  (hg : o.guard = none) (ho : o.op = .call { callee := .value f, args := args, argTypes := ats }) (hf : a.eval f = .func (.yield l) #[] #[]) (hy : YieldAt Fence.wide (n - 1) P l (args.map a.eval) w R)
  (hK : ∀ e w', R e w' -> ∃ v, e = .returned v /\ wpListIn Fence.wide n P ops.toArray Q rest (a.put o.dst v) w') : wpListIn Fence.wide n P ops.toArray Q (o :: rest) a w := by
 refine wpListIn_plain hg fun K hK' => ⟨fun _ _ => trivial, ?_⟩
 obtain ⟨fn, tmps, as_, body, h1, h2⟩ := hy
 have hrun : (execOp a.eval o).run P w = .ok (.round l fn tmps as_ body) w := by
  simp only [execOp, ho, resolve, hf, Deferred.ofValue]
  simp only [Sem.run_bind, Sem.run_pure, Result.andThen_ok, invoke]
  simpa using h1
 rw [show Fence.wide.round = none from rfl, Oper.semAt_none, hrun, Oper.uponIn_round]
 refine ⟨fun h => (by cases h), h2.mono fun e w' hr => ?_⟩
 obtain ⟨v, rfl, hk⟩ := hK e w' hr
 exact hK' _ _ hk
structure ItS (P : Program) (nt : Nat) (S : Nat -> Prop) (fr : List (Nat × AV)) (a : Act) (w : World) : Prop where
 lt : ∀ b, S b -> b < w.heap.size
 glb : Glb S w
 fr : ∀ t, Rd P [] (fun _ => undef) S w (dQ fr t) (a.tmps.getD t undef)
 sz : a.tmps.size = nt
 nd : a.defers = []
theorem ItS.cn {fr : List (Nat × AV)} {a : Act} (h : ItS P nt S fr a w) : Cn P nt [] [] (fun _ => undef) S w ⟨dQ fr, []⟩ (fun _ => undef) S a w :=
 ⟨Stp.refl (Hp.nil h.lt h.glb), h.fr, h.sz, by rw [h.nd]; exact gX⟩
theorem ItS.of {fr : List (Nat × AV)} {σ : AS} {a : Act} {w0 : World} {S0 : Nat -> Prop} {m0 : Nat -> Value} {H0 : AH} (hc : Cn P nt [] H0 m0 S0 w0 σ (fun _ => undef) S a w) (hd : a.defers = []) (hh : σ.h = []) (hf : ∀ t, dQ fr t = .dead \/ dQ fr t = σ.fr t) : ItS P nt S fr a w := by
 refine ⟨hc.stp.hp.sub, hc.stp.hp.glb, fun t => ?_, hc.sz, hd⟩
 rcases hf t with h | h
 ·rw [h]; exact .dead _
 ·rw [h, <- hh]; exact hc.fr t
theorem ItS.world {fr : List (Nat × AV)} {a : Act} {w' : World} (h : ItS P nt S fr a w) (hk : ∀ c, S c -> w'.heap[c]? = w.heap[c]?) : ItS P nt S fr a w' := by
 refine ⟨fun b hb => ?_, h.glb.mono hk fun _ h => h, fun t => (h.fr t).mono hk (fun _ h => h) (aW.refl _ _), h.sz, h.nd⟩
 have h1 := h.lt b hb
 have := (hk b hb).trans (Array.getElem?_eq_getElem h1)
 exact (Array.getElem?_eq_some_iff.1 this).1
theorem put_defers (a : Act) (d : Option Tmp) (v : Value) : (a.put d v).defers = a.defers := by cases d <;> rfl
theorem ItS.put {fr : List (Nat × AV)} {a : Act} {d : Nat} {v : Value} {x : AV} (h : ItS P nt S fr a w) (hd : d < nt) (hv : Rd P [] (fun _ => undef) S w x v) : ItS P nt S ((d, x) :: fr) (a.put (some d) v) w := by
 refine ⟨h.lt, h.glb, fun t => ?_, by simp [Act.put, h.sz], by rw [put_defers]; exact h.nd⟩
 have := qX h.fr h.sz hd hv t
 exact this
def tV : List (Nat × AV) -> (Nat -> AV) -> Prop
 | [], _ => True
 | (t, x) :: r, fr => fr t = x /\ tV r fr
theorem tV.at_ : ∀ {l : List (Nat × AV)} {fr : Nat -> AV}, tV l fr -> ∀ t, dQ l t = .dead \/ dQ l t = fr t
 | [], _, _, _ => .inl rfl
 | (u, x) :: r, fr, h, t => by
  unfold dQ
  split
  ·rename_i hb
   obtain rfl := Nat.eq_of_beq_eq_true hb
   exact .inr h.1.symm
  ·exact h.2.at_ t
theorem kh {w : World} {ds : List Deferred} (h : ∃ bs, ds = bs.map kj ++ [] /\ Marks w w bs) : ds = [] := by
 obtain ⟨bs, hb, hm⟩ := h
 rcases bs with _ | ⟨b, bs⟩
 ·exact hb
 ·obtain ⟨h1, h2⟩ := hm.2 b (List.mem_cons_self ..)
  have := (Array.getElem?_eq_some_iff.1 h2).1
  omega
theorem ItS.list {n : Nat} (hT : aK P ti) (k : Nat) {fr fr' : List (Nat × AV)} {a : Act} {ops l : List Oper} {Q : Exit -> Act -> World -> Prop} (h : ItS P nt S fr a w)
  (hw : cz P ti nt false ops (l.take k) (fun σ => σ.h = [] /\ tV fr' σ.fr) ⟨dQ fr, []⟩) (hK : ∀ a', ItS P nt S fr' a' w -> wpListIn Fence.wide n P ops.toArray Q (l.drop k) a' w) : wpListIn Fence.wide n P ops.toArray Q l a w := by
 have := vW (n := n) (ops := ops) (Q := Q) hT (l.take k) (l.drop k) _ _ _ h.cn hw fun σ' a' hc ⟨h1, h2⟩ => hK a' (ItS.of hc (kh hc.nd) h1 h2.at_)
 rwa [List.take_append_drop] at this
theorem ItS.region {n id : Nat} (hT : aK P ti) {fr fr' : List (Nat × AV)} {a : Act} {ops : Array Oper} {Q : Exit -> Act -> World -> Prop} (h : ItS P nt S fr a w)
  (hw : cz P ti nt false ops.toList ops.toList (fun σ => σ.h = [] /\ tV fr' σ.fr) ⟨dQ fr, []⟩) (hK : ∀ a', ItS P nt S fr' a' w -> Q .normal a' w) : (Code.region id ops false).wpIn Fence.wide n P Q a w := by
 refine wpIn_region_list ?_
 have := vW (n := n) (ops := ops.toList) (Q := Q) hT ops.toList [] _ _ _ h.cn hw fun σ' a' hc ⟨h1, h2⟩ => wpListIn_nil (hK a' (ItS.of hc (kh hc.nd) h1 h2.at_))
 simpa using this
theorem ItS.CA {x y : AV} {vx vy : Value} {k : Nat} (h : ∀ b, S b -> b < w.heap.size) (hG : Glb S w) (hx : Rd P [] (fun _ => undef) S w x vx) (hy : Rd P [] (fun _ => undef) S w y vy) (hk : 2 + k = nt) :
  ItS P nt S [(0, x), (1, y)] { tmps := #[vx, vy] ++ Array.replicate k undef, defers := [] } w := by
 refine ⟨h, hG, fun t => ?_, by simp [<- hk], rfl⟩
 match t with
 | 0 => simpa [dQ, Array.getD_eq_getD_getElem?, Array.getElem?_append] using hx
 | 1 => simpa [dQ, Array.getD_eq_getD_getElem?, Array.getElem?_append] using hy
 | t + 2 => exact .dead _
theorem RdP.vX {nl : Bool} {xs : List PV} {v : Value} (h : RdP S w (.list nl xs) v) : xs.length <= maxLen /\ v.oneCell' = true := by
 cases h with
 | nil => exact ⟨by simp [maxLen], rfl⟩
 | list _ a cap sz us hS hc hm => exact ⟨Nat.le_trans hc hm, rfl⟩
theorem Rd.Dg {H : AH} {m : Nat -> Value} {x : PV} {ad : Addr} {u : Value} (hS : S ad.block) (hc : w.cell? ad = some u) (hr : RdP S w x u) (ho : u.oneCell' = true) : Rd P H m S w (.aN [x]) (.pointer (some ad)) := by
 refine .aN _ ad (fun _ => u) hS (fun k c hk => ?_) fun k c hk => ?_
 ·cases k with
  | zero => exact ⟨by rw [show ad.add 0 = ad by simp [Addr.add]]; exact hc, ho⟩
  | succ k => simp at hk
 ·cases k with
  | zero => cases hk; exact hr
  | succ k => simp at hk
theorem lF {n : Nat} {ops l2 : List Oper} {o : Oper} {a : Act} {v : Value} {Q : Exit -> Act -> World -> Prop} (hg : o.guard = none) (hrun : (execOp a.eval o).run P w = .ok (.value v) w)
  (hK : wpListIn Fence.wide n P ops.toArray Q l2 (a.put o.dst v) w) : wpListIn Fence.wide n P ops.toArray Q (o :: l2) a w := by
 refine wpListIn_plain hg fun K' hK' => ⟨fun _ _ => trivial, ?_⟩
 rw [show Fence.wide.round = none from rfl, Oper.semAt_none, hrun, Oper.uponIn_value]
 exact hK' _ _ hK
theorem Ca {a : Act} {d : Nat} {v : Value} (h : d < a.tmps.size) : (a.put (some d) v).tmps.getD d undef = v := by
 simp [Act.put, Array.getD_eq_getD_getElem?, h]
theorem ItS.int {fr : List (Nat × AV)} {a : Act} {t : Nat} {kd : IntKind} {v : Int} (h : ItS P nt S fr a w) (e : dQ fr t = .p (.v (.int kd v))) : a.tmps.getD t undef = .int kd v := by
 have := h.fr t
 rw [e] at this
 exact this.pv.1
theorem ItS.bool {fr : List (Nat × AV)} {a : Act} {t : Nat} {b : Bool} (h : ItS P nt S fr a w) (e : dQ fr t = .p (.v (.bool b))) : a.tmps.getD t undef = .bool b := by
 have := h.fr t
 rw [e] at this
 exact this.pv.1
theorem ItS.yield {fr : List (Nat × AV)} {a : Act} {t l : Nat} (h : ItS P nt S fr a w) (e : dQ fr t = .clo (.yield l) []) : a.tmps.getD t undef = .func (.yield l) #[] #[] := by
 have h1 := h.fr t
 rw [e] at h1
 generalize hv : a.tmps.getD t undef = v at h1
 cases h1 with
 | clo _ _ vs hl hr =>
  rw [Array.eq_empty_of_size_eq_zero hl]
end
end Go.Abs
namespace Go.Abs
open Go.RowKit
def mr (ti : TypeId -> Option TI) : List ResultVar -> AS -> (List AV -> Prop) -> Prop
 | [], _, k => k []
 | .tmp t :: r, σ, k => frc (σ.fr t) fun v => mr ti r σ fun l => k (v :: l)
 | .cell a t :: r, σ, k => de ti σ.h t (σ.fr a) fun x => frc x fun x => mr ti r σ fun l => k (x :: l)
def lN : List AV -> AV
 | [x] => x
 | l => .tup l
def sB (H : AH) : AV -> AV
 | .tup l => .tup (l.map (jV H))
 | x => jV H x
inductive ay (ti : TypeId -> Option TI) (k0 : Nat) : AS -> AV -> (AV -> AH -> Prop) -> Prop
 | raw (σ : AS) (r : AV) (K : AV -> AH -> Prop) (hK : K r σ.h) : ay ti k0 σ r K
 | frz (σ : AS) (r : AV) (K : AV -> AH -> Prop) (ids : List Nat) (h : ay ti k0 ⟨σ.fr, aP σ.h ids⟩ (sB (aP σ.h ids) r) K) : ay ti k0 σ r K
 | Dt (σ : AS) (K : AV -> AH -> Prop) (e : TypeId) (k : TK) (n b : Nat) (z : Value) (hi : ti e = some ⟨k, n + 1, b, z⟩) (h : ay ti k0 ⟨σ.fr, σ.h ++ [some (.buf e true [])]⟩ (.buf σ.h.length) K) : ay ti k0 σ (.p (.list true [])) K
 | Df (σ : AS) (id lo hi : Nat) (e : TypeId) (nl : Bool) (xs : List PV) (K : AV -> AH -> Prop) (hl : live σ.h id (.buf e nl xs)) (h : ay ti k0 ⟨σ.fr, iY σ.h id⟩ (.p (.list nl ((xs.take hi).drop lo))) K) : ay ti k0 σ (.sub id lo hi) K
 | mk (σ : AS) (r : AV) (K : AV -> AH -> Prop) (l : List Nat) (r' : AV) (H' : AH) (hl : k0 + l.length = H'.length) (hr : r = r'.ren (ρf k0 l)) (hh : jg (ρf k0 l) 0 H' σ.h) (hi : nodupB (liveρ (ρf k0 l) 0 H') = true) (hw : (r'.wf H'.length && wfH H'.length H') = true) (hK : K r' H') : ay ti k0 σ r K
def BE (ti : TypeId -> Option TI) (rs : List ResultVar) (k0 : Nat) (K : AV -> AH -> Prop) : Exit -> AS -> Prop
 | .normal, σ => mr ti rs σ fun l => ay ti k0 σ (lN l) K
 | .ret, σ => mr ti rs σ fun l => ay ti k0 σ (lN l) K
 | _, _ => False
def eM (args : List AV) (t : Nat) : AV := match args[t]? with
 | some x => x
 | none => .dead
section
variable {P : Program} {ti : TypeId -> Option TI} {H : AH} {m : Nat -> Value} {S : Nat -> Prop} {w : World} {σ : AS} {a : Act}
theorem ug {t : TypeId} {x : AV} {vx : Value} {k : AV -> Prop} (h : de ti H t x k) (hx : Rd P H m S w x vx) : ∃ ad, vx = .pointer (some ad) := by
 unfold de at h
 split at h
 ·cases h
 ·split at h
  ·cases hx with | aN _ a us hS hu hr => exact ⟨_, rfl⟩
  ·cases hx with | ptr _ _ a hid hb => exact ⟨_, rfl⟩
  ·cases hx with | bp _ _ _ a hid hb => exact ⟨_, rfl⟩
  ·cases hx with | bN _ _ a hid hb => exact ⟨_, rfl⟩
  ·cases h
theorem js (hT : aK P ti) (hp : Hp P σ.h m S w) (hf : ∀ t, Rd P σ.h m S w (σ.fr t) (a.tmps.getD t undef)) : ∀ (rs : List ResultVar) (k : List AV -> Prop), mr ti rs σ k ->
  ∃ (l : List AV) (vs : List Value), k l /\ vs.length = l.length /\ (∀ (j : Nat) (x : AV), l[j]? = some x -> Rd P σ.h m S w x (vs.getD j undef)) /\
   (rs.mapM fun | .tmp t => pure (a.tmps.getD t undef) | .cell ad t => do loadVar t (<- asAddr (a.tmps.getD ad undef)) : Sem (List Value)).run P w = .ok vs w
 | [], k, h => ⟨[], [], h, rfl, by simp, by simp⟩
 | .tmp t :: rs, k, h => by
  unfold mr at h
  rw [eL] at h
  obtain ⟨l, vs, h1, h2, h3, h4⟩ := js hT hp hf rs _ h
  refine ⟨_, a.tmps.getD t undef :: vs, h1, by simp [h2], fun j x hj => ?_, ?_⟩
  ·cases j with
   | zero => simp at hj; subst hj; exact hf t
   | succ j => simpa using h3 j x (by simpa using hj)
  ·simp only [List.mapM_cons, Sem.run_bind, Sem.run_pure, Result.andThen_ok]
   rw [h4]
   rfl
 | .cell ad t :: rs, k, h => by
  have h0 : de ti σ.h t (σ.fr ad) fun x => frc x fun x => mr ti rs σ fun l => k (x :: l) := h
  simp only [eL] at h0
  obtain ⟨p, hp'⟩ := ug h0 (hf ad)
  obtain ⟨x, v, h5, h6, h7⟩ := jO hT hp h0 (hf ad)
  obtain ⟨l, vs, h1, h2, h3, h4⟩ := js hT hp hf rs _ h5
  refine ⟨_, v :: vs, h1, by simp [h2], fun j y hj => ?_, ?_⟩
  ·cases j with
   | zero => simp at hj; subst hj; exact h6
   | succ j => simpa using h3 j y (by simpa using hj)
  ·have h8 := h7 w (Ag.refl w)
   rw [hp'] at h8
   simp only [Instr.loadAt, Instr.sureAddr, Sem.run_bind, Sem.run_pure, Result.andThen_ok] at h8
   have hA : (asAddr (.pointer (some p)) : Sem Addr) = pure p := rfl
   simp only [List.mapM_cons, Sem.run_bind, Sem.run_pure, Result.andThen_ok, hp', hA, h8]
   rw [h4]
   rfl
theorem ay.sound (hT : aK P ti) {k0 : Nat} {r : AV} {K : AV -> AH -> Prop} (h : ay ti k0 σ r K) : ∀ {H0 : AH} {m0 m : Nat -> Value} {S0 S : Nat -> Prop} {w0 w : World} {v : Value}, k0 = H0.length -> Stp P H0 m0 S0 w0 σ.h m S w -> Rd P σ.h m S w r v ->
  ∃ r' H' m' S', K r' H' /\ Stp P H0 m0 S0 w0 H' m' S' w /\ Rd P H' m' S' w r' v := by
 induction h with
 | raw σ r K hK => intro H0 m0 m S0 S w0 w v _ hs hr; exact ⟨r, _, m, S, hK, hs, hr⟩
 | frz σ r K ids h ih =>
  intro H0 m0 m S0 S w0 w v he hs hr
  obtain ⟨S1, hst⟩ := Stp.aP (P := P) (m := m) (w := w) ids σ.h S hs.hp
  refine ih he (hs.trans hst) ?_
  have hr' := hr.mono hst.keeps hst.sub hst.old
  cases r with
  | tup l =>
   cases hr' with
   | tup _ vs hl hrr =>
    refine .tup _ vs (by rw [hl, List.length_map]) fun k c hk => ?_
    rw [List.getElem?_map, Option.map_eq_some_iff] at hk
    obtain ⟨y, hy, rfl⟩ := hk
    exact aG hst.hp (hrr k y hy)
  | p => exact aG hst.hp hr'
  | ptr => exact aG hst.hp hr'
  | bN => exact aG hst.hp hr'
  | buf => exact aG hst.hp hr'
  | sub => exact aG hst.hp hr'
  | bp => exact aG hst.hp hr'
  | aN => exact aG hst.hp hr'
  | agg => exact aG hst.hp hr'
  | clo => exact aG hst.hp hr'
  | mp => exact aG hst.hp hr'
  | cap => exact aG hst.hp hr'
  | dead => exact aG hst.hp hr'
 | Dt σ K e k n b z hti h ih =>
  intro H0 m0 m S0 S w0 w v he hs hr
  obtain ⟨inf, d, hinf, _, _, hsz, _⟩ := aE (hT.ok _ _ hti)
  simp only at hsz
  have hv := hr.ff
  have hst : Stp P σ.h m S w (σ.h ++ [some (.buf e true [])]) (upd m σ.h.length (.slice none 0 0)) S w :=
   Stp.push hs.hp rfl rfl rfl (Nat.le_refl _) (fun _ _ => rfl) (fun _ => ⟨inf, [], hinf, by omega, World.ownsRow_nil w 0 _ _, by simp, by simp [flat], by simp⟩) (fun b hb => by cases hb)
  refine ih he (hs.trans hst) ?_
  rw [hv]
  exact .buf _ _ _ _ (by show _ < (σ.h ++ _).length; simp) fun o hl => if_pos rfl
 | Df σ id lo hi e nl xs K hlv h ih =>
  intro H0 m0 m S0 S w0 w v he hs hr
  obtain ⟨S1, hst⟩ := Stp.iY hs.hp id
  have hfz : iY σ.h id = σ.h.set id (some (.frz nl xs)) := by
   unfold Abs.iY
   rw [show σ.h[id]? = some (some (.buf e nl xs)) from hlv]
  have hok := hst.hp.obj id (.frz nl xs) (by rw [hfz]; unfold Abs.live; rw [List.getElem?_set_self (by exact (List.getElem?_eq_some_iff.1 hlv).1)])
  obtain ⟨inf, us, hinf, _, ho, hz, _, _⟩ := hs.hp.obj id _ hlv
  refine ih he (hs.trans hst) (.p _ _ ?_)
  cases hr with
  | sub _ _ _ a l c hid h =>
   obtain ⟨i2, a0, l0, c0, g1, g2, g3, g4, rfl, rfl, hgn, hga⟩ := h _ _ _ hlv
   rw [hinf] at g1
   injection g1 with g1
   subst g1
   have h2 : RdP S1 w (.list nl xs) (m id) := hok
   rw [g2] at h2
   exact h2.D9 g3 g4 hz hinf hgn hga
 | mk σ r K l r' H' hl hr0 hh hi hw hK =>
  intro H0 m0 m S0 S w0 w v he hs hr
  simp only [Bool.and_eq_true] at hw
  subst he
  have hsub := qN hl hh hi hw.2
  exact ⟨r', H', _, S, hK, hs.BZ hsub, hr.vI hsub.live hr0.symm hw.1⟩
theorem Stp.C7 {H H' : AH} {m m' : Nat -> Value} {S S' : Nat -> Prop} {w W W' : World} {row : Option Nat} (h : Stp P H m S w H' m' S' W) (hp : Hp P H m S w) (hg : W.grownBy W' row) (hr : ∀ r, row = some r -> w.heap.size <= r /\ ¬ isC W r) : b8 S' W W' := fun b hb => by
 refine hg.block b (h.hp.sub b hb) fun he => ?_
 obtain ⟨h1, h2⟩ := hr b he.symm
 rcases h.sM b hb with h3 | h3
 ·have := hp.sub b h3; omega
 ·exact h2 h3
theorem kp {fn : Func} {tmps : Array Value} {R : Ending -> World -> Prop} {n : Nat} {H' : AH} {m' : Nat -> Value} {S' : Nat -> Prop} {fr : Nat -> AV} {w0 : World} {D : List Deferred} (hp : Hp P H m S w0) : ∀ (bs : List Nat) (W : World), Stp P H m S w0 H' m' S' W -> Marks w0 W bs ->
  (∀ t, Rd P H' m' S' W (fr t) (tmps.getD t undef)) ->
  (∀ W', Stp P H m S w0 H' m' S' W' -> (∀ t, Rd P H' m' S' W' (fr t) (tmps.getD t undef)) -> LeavesInM Fence.wide n P fn tmps R D .returning W') ->
  LeavesInM Fence.wide n P fn tmps R (bs.map kj ++ D) .returning W
 | [], W, hs, _, hf, hK => hK W hs hf
 | b :: bs, W, hs, hm, hf, hK => by
  obtain ⟨h1, h2⟩ := hm.2 b (List.mem_cons_self ..)
  have hnd := List.nodup_cons.1 hm.1
  have hg := grownBy_putObj' W b (.deferred none)
  have hr : ∀ r, some b = some r -> w0.heap.size <= r /\ ¬ isC W r := fun r he => by cases he; exact ⟨h1, gg h2 rfl⟩
  have hs' := hs.mm hp hg hr (.inr fun r he => by cases he; exact Bh h2 rfl)
  have hk := hs.C7 hp hg hr
  refine ⟨by simp, .inl ⟨b, _, rfl, run_takeDeferred h2, ?_⟩⟩
  refine kp hp bs _ hs' ⟨hnd.2, fun c hc => ?_⟩ (fun t => (hf t).mono hk (fun _ h => h) (aW.refl _ _)) hK
  obtain ⟨h3, h4⟩ := hm.2 c (List.mem_cons_of_mem _ hc)
  exact ⟨h3, (World.putObj_heap_other (fun e => by subst e; exact hnd.1 hc)).trans h4⟩
theorem aa {f : FuncId} {fn : Func} {c : Code} (hf : P.funcs[f]? = some fn) (hb : fn.body = some c) (hname : (fn.name == "runtime.NumGoroutine") = false) (hT : aK P ti) {args : List AV} {K : AV -> AH -> Prop}
  (hn : Nat.ble args.length fn.ntmps = true) (h : wpA P ti fn.ntmps H.length c (BE ti fn.results.toList H.length K) ⟨eM args, H⟩) : ao P f args H K := by
 have hn := Nat.le_of_ble_eq_true hn
 refine ⟨⟨fn, hf, by rw [hb]; rfl, hname⟩, fun m S w vals hp hl hr => callsIn_wide.1 (callsIn_of_wp_marks (F := Fence.wide) (n := 0) hf hb trivial (wpIn_wide.2 ?_))⟩
 have hc : Cn P fn.ntmps [] H m S w ⟨eM args, H⟩ m S { tmps := vals ++ Array.replicate (fn.ntmps - vals.size) undef, defers := [] } w := by
  refine ⟨Stp.refl hp, fun t => ?_, by simp; omega, gX⟩
  show Rd P H m S w (eM args t) _
  unfold eM
  split
  ·rename_i x hx
   have hlt : t < vals.size := by rw [hl]; exact (List.getElem?_eq_some_iff.1 hx).1
   have e : (vals ++ Array.replicate (fn.ntmps - vals.size) undef).getD t undef = vals.getD t undef := by
    simp [Array.getD_eq_getD_getElem?, Array.getElem?_append_left, hlt]
   show Rd P H m S w x ((vals ++ Array.replicate (fn.ntmps - vals.size) undef).getD t undef)
   rw [e]
   exact hr t x hx
  ·exact .dead _
 refine wp_mono (wL hT c _ _ m S _ w hc h) fun e a' w' ⟨σ', m', S', hc', hq⟩ => ?_
 have fin : (mr ti fn.results.toList σ' fun l => ay ti H.length σ' (lN l) K) -> LeavesInM Fence.wide 0 P fn a'.tmps (fun e w' => ∃ v r H' m' S', e = .returned v /\ K r H' /\ Stp P H m S w H' m' S' w' /\ Rd P H' m' S' w' r v) a'.defers .returning w' := by
  intro hq
  obtain ⟨bs, hds, hmk⟩ := hc'.nd
  rw [hds]
  refine kp hp bs w' hc'.stp hmk hc'.fr fun W hsW hfW => ?_
  obtain ⟨l, vs, hk, h1, h2, h3⟩ := js hT hsW.hp hfW _ _ hq
  have hres : (results fn a'.tmps).run P W = .ok (if h : vs.length = 1 then vs[0] else .tuple vs.toArray) W := by
   unfold results
   rw [Array.mapM_eq_mapM_toList]
   simp only [Sem.run_bind, Sem.run_map]
   refine (congrArg (fun r : Result (List Value) => (r.andThen fun a w' => Result.ok a.toArray w').andThen fun a w' => (pure (if h : a.size = 1 then a[0] else Value.tuple a) : Sem Value).run P w') h3).trans ?_
   simp
  have hrd : Rd P σ'.h m' S' W (lN l) (if h : vs.length = 1 then vs[0] else .tuple vs.toArray) := by
   split
   ·rename_i h1'
    rcases l with _ | ⟨x, _ | ⟨y, r⟩⟩
    ·exact absurd (h1.symm.trans h1') (by simp)
    ·have := h2 0 x rfl
     simpa [lN, List.getD, List.getElem?_eq_getElem (show 0 < vs.length by omega)] using this
    ·exact absurd (h1.symm.trans h1') (by simp)
   ·rename_i h1'
    have : lN l = .tup l := by
     rcases l with _ | ⟨x, _ | ⟨y, r⟩⟩
     ·rfl
     ·simp at h1; exact absurd h1 h1'
     ·rfl
    rw [this]
    refine .tup _ _ (by simp [h1]) fun j x hj => ?_
    have := h2 j x hj
    have e : vs.toArray.getD j undef = vs.getD j undef := by simp [Array.getD_eq_getD_getElem?]
    rw [e]
    exact this
  let ⟨r2, H2, m2, S2, h5, h6, h7⟩ := ay.sound (P := P) hT hk rfl hsW hrd
  exact ⟨_, hres, _, r2, H2, m2, S2, rfl, h5, h6, h7⟩
 cases e with
 | normal => exact fin hq
 | ret => exact fin hq
 | exit i => exact hq.elim
 | goto l => exact hq.elim
 | panic c => exact hq.elim
 | outgrown => exact hq.elim
end
end Go.Abs
namespace Go.Abs
open Go.RowKit
def pI (n : Int) : PV := .v (.int .i64 n)
def pB (b : Bool) : PV := .v (.bool b)
theorem oQ {p : Prop} [Decidable p] {X Y : Prop} (h1 : p -> X) (h2 : ¬ p -> Y) : br (decide p) X Y :=
 fK (fun h => h1 (of_decide_eq_true h)) (fun h => h2 (of_decide_eq_false h))
theorem vm {a b : Int} {X Y : Prop} (h1 : a ≠ b -> X) (h2 : a = b -> Y) : br (a != b) X Y :=
 fK (fun h => h1 (by simpa using h)) (fun h => h2 (by simpa using h))
theorem vi {b : Bool} {X Y : Prop} (h1 : b = false -> X) (h2 : b = true -> Y) : br (!b) X Y :=
 fK (fun h => h1 (by simpa using h)) (fun h => h2 (by simpa using h))
theorem wrap64 {n : Int} (h1 : -9223372036854775808 <= n) (h2 : n <= 9223372036854775807) : IntKind.i64.wrap n = n := by
 rw [IntKind.wrap_i64]; omega
theorem NW.i64 {n : Int} {k : Int -> Prop} (h : -9223372036854775808 <= n /\ n <= 9223372036854775807) (hk : k n) : NW .i64 n k := ⟨n, wrap64 h.1 h.2, hk⟩
theorem NW.u32 {n : Int} {k : Int -> Prop} (h : 0 <= n /\ n <= 4294967295) (hk : k n) : NW .u32 n k := ⟨n, by rw [IntKind.wrap_u32]; omega, hk⟩
theorem NW.u64 {n : Int} {k : Int -> Prop} (h : 0 <= n /\ n <= 18446744073709551615) (hk : k n) : NW .u64 n k := ⟨n, by rw [IntKind.wrap_u64]; omega, hk⟩
theorem NW.u8 {n : Int} {k : Int -> Prop} (h : 0 <= n /\ n <= 255) (hk : k n) : NW .u8 n k := ⟨n, by rw [IntKind.wrap_u8]; omega, hk⟩
theorem bO.of_map {α : Type} {f : α -> PV} {l : List α} {i : Int} {k : PV -> Prop} (h0 : 0 <= i) (h1 : i.toNat < l.length) (hk : k (f l[i.toNat])) : bO (l.map f) i k :=
 ⟨_, h0, by simp [h1], hk⟩
theorem bO.Cd {α : Type} {f : α -> PV} {l : List α} {i : Nat} {k : PV -> Prop} (h1 : i < l.length) (hk : k (f l[i])) : bO (l.map f) (i : Int) k :=
 ⟨_, by omega, by simp [h1], hk⟩
section
variable {P : Program} {f : FuncId} {args : List AV} {H : AH} {K : AV -> AH -> Prop} {σ : AS} {k0 : Nat}
theorem ay.p {ti : TypeId -> Option TI} {x : PV} (hk : K (.p x) []) : ay ti 0 σ (.p x) K := .mk _ _ _ [] (.p x) [] rfl rfl trivial rfl rfl hk
theorem ab.scalar {x : Value} (h : ao P f (bo H [] true args) [] fun r H' => r = .p (.v x) /\ H' = []) (hk : K (.p (.v x)) H) : ab P f args H K :=
 .s9 (h.mono fun r H' ⟨h1, h2⟩ => by subst h1; subst h2; exact ⟨trivial, trivial, by simpa [db, AV.ren] using hk⟩)
theorem ab.pure {R : AV -> AH -> Prop} (h : ao P f (bo H [] true args) [] R) (hk : ∀ r H', R r H' -> r.flat /\ oe H' /\ K (r.ren (backρ [] H.length)) (H ++ db (backρ [] H.length) H')) : ab P f args H K :=
 .s9 (h.mono hk)
theorem gD.mk' {x : Value} {k : AV -> Prop} (h : ao P f (bo H [] true args) [] fun r H' => r = .p (.v x) /\ H' = []) (hk : k (.p (.v x))) : gD P f args H k := ⟨x, h, hk⟩
end
end Go.Abs
namespace Go.Abs
theorem wC {e : TypeId} {nl : Bool} {xs ys : List PV} (h : xs = ys) : some (some (AO.buf e nl xs)) = some (some (.buf e nl ys)) := by rw [h]
theorem zL {α : Type} {l : List α} (h : l.length <= maxLen) : (l.length : Int) <= 9223372036854775807 := by simp only [maxLen] at h; omega
theorem Dq {a b : Int} (h : a = b) : AV.p (.v (.int .i64 a)) = .p (.v (.int .i64 b)) := by rw [h]
end Go.Abs
namespace Go.Abs
open Go.RowKit
def prV : AV -> AV -> List (Nat × Nat)
 | .ptr j _, .ptr i _ => [(j, i)]
 | .bN j _, .bN i _ => [(j, i)]
 | .buf j, .buf i => [(j, i)]
 | .sub j _ _, .sub i _ _ => [(j, i)]
 | .bp j _ _, .bp i _ _ => [(j, i)]
 | .mp j, .mp i => [(j, i)]
 | _, _ => []
def prL : List AV -> List AV -> List (Nat × Nat)
 | x :: r, y :: s => prV x y ++ prL r s
 | _, _ => []
def Eo : AV -> AV -> List (Nat × Nat)
 | .agg l, .agg m => prL l m
 | x, y => prV x y
def Dk : List AV -> List AV -> List (Nat × Nat)
 | x :: r, y :: s => Eo x y ++ Dk r s
 | _, _ => []
def prW : AV -> AV -> List (Nat × Nat)
 | .tup l, .tup m => Dk l m
 | .agg l, .agg m => prL l m
 | .clo _ l, .clo _ m => prL l m
 | x, y => prV x y
def prF : List (Nat × AV) -> (Nat -> AV) -> List (Nat × Nat)
 | [], _ => []
 | (t, x) :: r, fr => prW x (fr t) ++ prF r fr
def prO (H H' : AH) : List (Nat × Nat) -> List (Nat × Nat)
 | [] => []
 | (j, i) :: r => match H'[j]?, H[i]? with
  | some (some (.cells l)), some (some (.cells m)) => prL l m ++ prO H H' r
  | some (some (.bn _ _ l)), some (some (.bn _ _ m)) => prL l m ++ prO H H' r
  | _, _ => prO H H' r
def lkp (l : List (Nat × Nat)) (k : Nat) : Nat := match l with
 | [] => 0
 | (j, i) :: r => match Nat.beq j k with
  | true => i
  | false => lkp r k
def zT (l : List (Nat × Nat)) : Nat -> Nat -> List Nat
 | _, 0 => []
 | k, n + 1 => lkp l k :: zT l (k + 1) n
def zP (k0 : Nat) (L : LS) (σ : AS) : List Nat :=
 let l := prF L.fr σ.fr
 zT (l ++ prO σ.h L.h l) k0 (L.h.length - k0)
def Ct (k0 : Nat) (r' r : AV) (H' : AH) (σ : AS) : List Nat :=
 let l := prW r' r
 zT (l ++ prO σ.h H' l) k0 (H'.length - k0)
theorem aq.auto {ti : TypeId -> Option TI} {k0 : Nat} {L : LS} {σ : AS} {l : List Nat} (_hl : zP k0 L σ = l) (hl : k0 + l.length = L.h.length) (hi : nodupB (liveρ (ρf k0 l) 0 L.h) = true) (hw : (uj L.h.length L.fr && wfH L.h.length L.h) = true)
  (hf : yO (ρf k0 l) L.fr σ.fr) (hh : jg (ρf k0 l) 0 L.h σ.h) : aq ti k0 L σ :=
 aq.of l hl hf hh hi hw
theorem aq.kM {ti : TypeId -> Option TI} {k0 : Nat} {L : LS} {σ : AS} {l : List Nat} (p : TypeId × Nat) (h : Bz ti σ p) (_hl : zP k0 L (tS σ p) = l) (hl : k0 + l.length = L.h.length) (hi : nodupB (liveρ (ρf k0 l) 0 L.h) = true) (hw : (uj L.h.length L.fr && wfH L.h.length L.h) = true)
  (hf : yO (ρf k0 l) L.fr (tS σ p).fr) (hh : jg (ρf k0 l) 0 L.h (tS σ p).h) : aq ti k0 L σ :=
 .mk _ [p] l ⟨h, ⟨hl, hf, hh, hi, hw⟩⟩
theorem ay.auto {ti : TypeId -> Option TI} {k0 : Nat} {σ : AS} {r : AV} {K : AV -> AH -> Prop} (r' : AV) (H' : AH) {l : List Nat} (_hl : Ct k0 r' r H' σ = l) (hl : k0 + l.length = H'.length) (hi : nodupB (liveρ (ρf k0 l) 0 H') = true) (hw : (r'.wf H'.length && wfH H'.length H') = true)
  (hr : r = r'.ren (ρf k0 l)) (hh : jg (ρf k0 l) 0 H' σ.h) (hK : K r' H') : ay ti k0 σ r K :=
 .mk _ _ _ l r' H' hl hr hh hi hw hK
theorem sf.as {b v n : Int} {k : Int -> Prop} (e : v = n) (h : b ≠ 0) (hk : k n) : sf b v k := ⟨n, h, e, hk⟩
theorem sf.self {b v : Int} {k : Int -> Prop} (h : b ≠ 0) (hk : k v) : sf b v k := ⟨v, h, rfl, hk⟩
theorem fA.as {v n : Int} {k : Int -> Prop} (e : v = n) (hk : k n) : fA v k := ⟨n, e, hk⟩
theorem fA.self {v : Int} {k : Int -> Prop} (hk : k v) : fA v k := ⟨v, rfl, hk⟩
theorem NW.as {kd : IntKind} {n m : Int} {k : Int -> Prop} (e : kd.wrap n = m) (hk : k m) : NW kd n k := ⟨m, e, hk⟩
theorem vj {a b : Int} {X Y : Prop} (h1 : a < b -> X) (h2 : b <= a -> Y) : br (decide (a < b)) X Y := oQ h1 fun h => h2 (by omega)
theorem vk {a b : Int} {X Y : Prop} (h1 : a <= b -> X) (h2 : b < a -> Y) : br (decide (a <= b)) X Y := oQ h1 fun h => h2 (by omega)
theorem bO.lit {xs : List PV} {i : Int} {k : PV -> Prop} (x : PV) (h0 : 0 <= i) (h : xs[i.toNat]? = some x) (hk : k x) : bO xs i k := ⟨x, h0, h, hk⟩
section
variable {α : Type} {f : α -> PV} {l : List α} {k : PV -> Prop}
end
theorem CM {α : Type} {f : α -> PV} {e : TypeId} {nl : Bool} {l m : List α} (h : l = m) : some (some (AO.buf e nl (l.map f))) = some (some (.buf e nl (m.map f))) := by rw [h]
section
variable {α : Type} {f : α -> PV} {l m : List α} {k : List PV -> Prop}
theorem cq.map {k : Nat -> Prop} (h : (l.length : Int) <= 9223372036854775807 -> k l.length) : cq (l.map f) k := ⟨_, rfl, fun hm => by
 rw [List.length_map] at hm ⊢
 exact h (zL hm)⟩
theorem cq.lit {xs : List PV} {k : Nat -> Prop} (n : Nat) (h : xs.length = n) (hk : k n) : cq xs k := ⟨n, h, fun _ => hk⟩
theorem InA.map {i : Int} {k : Nat -> Prop} (h : 0 <= i /\ i < l.length) (hk : k i.toNat) : InA (l.map f) i k := ⟨i.toNat, by omega, by rw [List.length_map]; omega, hk⟩
theorem InA.nat {i : Nat} {k : Nat -> Prop} (h : i < l.length) (hk : k i) : InA (l.map f) (i : Int) k := ⟨i, rfl, by rw [List.length_map]; exact h, hk⟩
theorem oZ.map {nl : Bool} {k : Prop} (h : (nl = true -> l = []) -> k) : oZ nl (l.map f) k := ⟨fun h' => h fun e => List.map_eq_nil_iff.1 (h' e)⟩
theorem SzA.map {n : Nat} {k : Prop} (h : ∀ a, (f a).cells.length = n) (hk : k) : SzA (l.map f) n k := ⟨fun x hx => by
 obtain ⟨a, _, rfl⟩ := List.mem_map.1 hx
 exact h a, hk⟩
theorem IsL.set {i : Nat} {y : PV} {a : α} (h : y = f a) (hk : k ((l.set i a).map f)) : IsL ((l.map f).set i y) k := ⟨_, by rw [h, List.map_set], hk⟩
theorem IsL.rep {n : Nat} {y : PV} {a : α} (h : y = f a) (hk : k ((List.replicate n a).map f)) : IsL (List.replicate n y) k := ⟨_, by rw [h, List.map_replicate], hk⟩
theorem IsL.lit {xs : List PV} (l : List α) (h : xs = l.map f) (hk : k (l.map f)) : IsL xs k := ⟨_, h, hk⟩
theorem bx.snoc {ys : List PV} {b : Nat} {a : α} (h : ys = [f a]) (hb : (l.length : Int) + 1 <= 9223372036854775807 /\ (l.length + 1) * b <= 140737488355328) (hk : k ((l ++ [a]).map f)) : bx (l.map f) ys b k := by
 subst h
 exact ⟨_, by simp, ⟨by simp [maxLen]; omega, by simpa using hb.2⟩, hk⟩
theorem bx.map {b : Nat} (hb : (l.length : Int) + m.length <= 9223372036854775807 /\ (l.length + m.length) * b <= 140737488355328) (hk : k ((l ++ m).map f)) : bx (l.map f) (m.map f) b k :=
 ⟨_, by simp, ⟨by simp [maxLen]; omega, by simpa using hb.2⟩, hk⟩
theorem bx.nil {b : Nat} (hb : (m.length : Int) <= 9223372036854775807 /\ m.length * b <= 140737488355328) (hk : k (m.map f)) : bx [] (m.map f) b k :=
 ⟨_, rfl, ⟨by simp [maxLen]; omega, by simpa using hb.2⟩, hk⟩
theorem aX.lo {i : Int} (hb : 0 <= i /\ i <= l.length) (hk : k ((l.drop i.toNat).map f)) : aX (l.map f) i none k :=
 ⟨_, by simp; omega, by rw [Option.getD_none, Int.toNat_natCast, List.take_length, List.map_drop], hk⟩
theorem aX.hi {i j : Int} (hb : 0 <= i /\ i <= j /\ j <= l.length) (hk : k (((l.take j.toNat).drop i.toNat).map f)) : aX (l.map f) i (some j) k :=
 ⟨_, by simp; omega, by simp, hk⟩
end
theorem all_succ {n c : Nat} {P : ∀ j : Nat, j < n -> Prop} (h : ∀ (j : Nat) (h : j < n), j < c -> P j h) (hc : ∀ h : c < n, P c h) : ∀ (j : Nat) (h : j < n), j < c + 1 -> P j h := by
 intro j hj hjc
 rcases Nat.lt_or_ge j c with h1 | h1
 ·exact h j hj h1
 ·obtain rfl : j = c := by omega
  exact hc hj
theorem pC : (∀ {α β : Type} (f : α -> β) (l : List α), (l.map f).length = l.length) /\ (∀ {α : Type} (l m : List α), (l ++ m).length = l.length + m.length) /\ (∀ {α : Type} (l : List α) (i : Nat) (a : α), (l.set i a).length = l.length) /\ (∀ {α : Type} (n : Nat) (a : α), (List.replicate n a).length = n) /\ (∀ {α : Type} (a : α) (l : List α), (a :: l).length = l.length + 1) /\ (∀ {α : Type}, ([] : List α).length = 0) /\ (∀ {α : Type} (i : Nat) (l : List α), (l.take i).length = min i l.length) /\ (∀ {α : Type} (i : Nat) (l : List α), (l.drop i).length = l.length - i) /\ (∀ n : Nat, (List.range n).length = n) :=
 ⟨fun _ _ => List.length_map .., fun _ _ => List.length_append, fun _ _ _ => List.length_set .., fun _ _ => List.length_replicate .., fun _ _ => rfl, rfl, fun _ _ => List.length_take .., fun _ _ => List.length_drop .., fun _ => List.length_range ..⟩
theorem tf {b : Bool} (h : b = true) (k : b = false) : False := by rw [h] at k; cases k
theorem Et {a b : Bool} (h : a = b) : AV.p (.v (.bool a)) = .p (.v (.bool b)) := by rw [h]
theorem CL {α : Type} {f : α -> PV} {e : TypeId} {nl : Bool} {m : List α} (h : [] = m) : some (some (AO.buf e nl [])) = some (some (.buf e nl (m.map f))) := by rw [<- h]; rfl
end Go.Abs
namespace Go.Abs
open Go.RowKit
section
variable {ti : TypeId -> Option TI} {α : Type} {f : α -> PV} {xs ys : List α} {e e' n n' : Int} {k0 : Nat} {σ : AS} {j : Nat} {ty : TypeId} {nl : Bool}
def PV.Cu : PV -> Bool
 | .v _ => true
 | .list nl _ => nl
 | .agg _ => false
def PV.wi : PV -> Bool
 | .agg cs => cs.all PV.Cu
 | .v _ => true
 | .list nl _ => nl
theorem tu {x : PV} (h : x.wi = true) : x.flat := by
 cases x with
 | v => trivial
 | list => exact h
 | agg cs =>
  intro c hc
  have := List.all_eq_true.1 h c hc
  cases c with
  | v => trivial
  | list => exact this
  | agg => cases this
theorem ay.nil {K : AV -> AH -> Prop} {e : TypeId} {k : TK} {m b : Nat} {z : Value} (hi : ti e = some ⟨k, m + 1, b, z⟩) (h : ay ti k0 ⟨σ.fr, σ.h ++ [some (.buf e true [])]⟩ (.buf σ.h.length) K) : ay ti k0 σ (.p (.list true [])) K :=
 .Dt σ K e k m b z hi h
end
section
variable {P : Program}
theorem sA {H : AH} {m : Nat -> Value} {S : Nat -> Prop} {w : World} (hp : Hp P H m S w) {x : AV} {v : Value} (hr : Rd P H m S w x v) : Rd P H m S w (sB H x) v := by
 cases x with
 | tup l =>
  cases hr with
  | tup _ vs hl hrr =>
   refine .tup _ vs (by rw [hl, List.length_map]) fun k c hk => ?_
   rw [List.getElem?_map, Option.map_eq_some_iff] at hk
   obtain ⟨y, hy, rfl⟩ := hk
   exact aG hp (hrr k y hy)
 | p => exact aG hp hr
 | ptr => exact aG hp hr
 | bN => exact aG hp hr
 | buf => exact aG hp hr
 | sub => exact aG hp hr
 | bp => exact aG hp hr
 | aN => exact aG hp hr
 | agg => exact aG hp hr
 | clo => exact aG hp hr
 | mp => exact aG hp hr
 | cap => exact aG hp hr
 | dead => exact aG hp hr
theorem ao.frz {f : FuncId} {args : List AV} {H : AH} {K K' : AV -> AH -> Prop} (ids : List Nat) (h : ao P f args H K) (hk : ∀ r H', K r H' -> K' (sB (aP H' ids) r) (aP H' ids)) : ao P f args H K' :=
 ⟨h.enter, fun m S w vals hp hl hr => (h.calls m S w vals hp hl hr).mono fun e w' ⟨v, r, H', m', S', he, hK, hs, hrd⟩ =>
  let ⟨S1, hst⟩ := Stp.aP (P := P) (m := m') (w := w') ids H' S' hs.hp
  ⟨v, _, _, m', S1, he, hk r H' hK, hs.trans hst, sA hst.hp (hrd.mono hst.keeps hst.sub hst.old)⟩⟩
end
section
variable {P : Program} {f : FuncId} {args : List AV} {H : AH} {K : AV -> AH -> Prop}
theorem ab.qS {x y : Value} (h : ao P f (bo H [] true args) [] fun r H' => r = .tup [.p (.v x), .p (.v y)] /\ H' = []) (hk : K (.tup [.p (.v x), .p (.v y)]) H) : ab P f args H K :=
 .s9 (h.mono fun r H' ⟨h1, h2⟩ => by subst h1; subst h2; exact ⟨⟨trivial, trivial, trivial⟩, trivial, by simpa [db, AV.ren, dP] using hk⟩)
end
end Go.Abs
namespace Go.Abs
open Go.RowKit Go.ChangeShapes Go.WideShapes
inductive Sh where
 | int (k : IntKind)
 | bool
 | str
 | slice (agg : Bool) (cs : List Sh)
mutual
def Sh.fit : Sh -> PV -> Prop
 | .int k, x => ∃ n, x = .v (.int k n) /\ k.min <= n /\ n <= k.max
 | .bool, x => ∃ b, x = .v (.bool b)
 | .str, x => ∃ s, x = .v (.string s) /\ s.size <= maxLen
 | .slice true shs, x => ∃ nl xs, x = .list nl xs /\ (nl = true -> xs = []) /\ xs.length <= maxLen /\ ∀ y ∈ xs, ∃ cs, y = .agg cs /\ mz shs cs
 | .slice false shs, x => ∃ nl xs, x = .list nl xs /\ (nl = true -> xs = []) /\ xs.length <= maxLen /\ ∀ y ∈ xs, mz shs [y]
def mz : List Sh -> List PV -> Prop
 | [], [] => True
 | s :: ss, x :: xs => s.fit x /\ mz ss xs
 | _, _ => False
end
theorem fh : ∀ {ss : List Sh} {xs : List PV}, mz ss xs -> xs.length = ss.length
 | [], [], _ => rfl
 | _ :: _, _ :: _, h => by simp [fh h.2]
 | [], _ :: _, h => h.elim
 | _ :: _, [], h => h.elim
theorem me : ∀ {ss ts : List Sh} {xs ys : List PV}, mz ss xs -> mz ts ys -> mz (ss ++ ts) (xs ++ ys)
 | [], _, [], _, _, k => k
 | _ :: _, _, _ :: _, _, h, k => ⟨h.1, me h.2 k⟩
 | [], _, _ :: _, _, h, _ => h.elim
 | _ :: _, _, [], _, h, _ => h.elim
def nk (P : Program) : Nat -> TypeId -> Option (Bool × List Sh)
 | 0, _ => none
 | n + 1, t => match P.underlying t with
  | some (.int k) => some (false, [.int k])
  | some .bool => some (false, [.bool])
  | some .string => some (false, [.str])
  | some (.slice e) => match nk P n e with
   | some (a, c :: cs) => if (c :: cs).length == P.cellsOf e then some (false, [.slice a (c :: cs)]) else none
   | _ => none
  | some (.struct fs) => (fs.toList.foldr (fun f r => match r, nk P n f.type with
   | some (off, shs), some (_, cs) => if f.offset + cs.length == off && cs.length == P.cellsOf f.type then some (f.offset, cs ++ shs) else none
   | _, _ => none) (some (P.cellsOf t, []))).bind fun x => if x.1 == 0 && x.2.length == P.cellsOf t then some (true, x.2) else none
  | _ => none
def Reads (w : World) (xs : List PV) (cs : List Value) : Prop := xs.length = cs.length /\ ∀ (k : Nat) (x : PV), xs[k]? = some x -> ∃ u : Value, cs[k]? = some u /\ RdP (fun b => b < w.heap.size) w x u /\ u.oneCell' = true
theorem Reads.one {w : World} {x : PV} {u : Value} (h : RdP (fun b => b < w.heap.size) w x u) (h1 : u.oneCell' = true) : Reads w [x] [u] :=
 ⟨rfl, fun k y hy => by
  cases k with
  | zero => simp at hy; subst hy; exact ⟨u, rfl, h, h1⟩
  | succ k => simp at hy⟩
theorem Reads.append {w : World} {xs ys : List PV} {cs ds : List Value} (h : Reads w xs cs) (k : Reads w ys ds) : Reads w (xs ++ ys) (cs ++ ds) := by
 refine ⟨by simp [h.1, k.1], fun j x hx => ?_⟩
 rcases Nat.lt_or_ge j xs.length with hj | hj
 ·rw [List.getElem?_append_left hj] at hx
  rw [List.getElem?_append_left (by rw [<- h.1]; exact hj)]
  exact h.2 j x hx
 ·rw [List.getElem?_append_right hj] at hx
  rw [List.getElem?_append_right (by rw [<- h.1]; exact hj), <- h.1]
  exact k.2 _ x hx
theorem rW : ∀ {s : Sh} {x : PV}, s.fit x -> x.cells = [x] := by
 intro s x h
 cases s with
 | int k => obtain ⟨n, rfl, _⟩ := h; rfl
 | bool => obtain ⟨n, rfl⟩ := h; rfl
 | str => obtain ⟨n, rfl, _⟩ := h; rfl
 | slice a cs =>
  cases a with
  | true => obtain ⟨nl, xs, rfl, _⟩ := h; rfl
  | false => obtain ⟨nl, xs, rfl, _⟩ := h; rfl
def eh : Bool -> List PV -> PV
 | true, cs => .agg cs
 | false, c :: _ => c
 | false, [] => .agg []
section
variable {H : Type} {enc : TypeId × Value -> H} {P : Program} {w : World}
theorem Bu {a : Addr} {v : Value} (h : w.cell? a = some v) : a.block < w.heap.size := by
 unfold World.cell? at h
 rcases Nat.lt_or_ge a.block w.heap.size with h1 | h1
 ·exact h1
 ·rw [Array.getElem?_eq_none h1] at h
  cases h
theorem nj {n : Nat} {t : TypeId} {cs : List Sh} (h : nk P n t = some (false, cs)) : cs.length = 1 := by
 cases n with
 | zero => cases h
 | succ n =>
  unfold nk at h
  split at h
  ·cases h; rfl
  ·cases h; rfl
  ·cases h; rfl
  ·split at h
   ·split at h
    ·cases h; rfl
    ·cases h
   ·cases h
  ·rename_i fs _
   simp only [Option.bind_eq_some_iff] at h
   obtain ⟨x, _, h⟩ := h
   split at h <;> cases h
  ·cases h
theorem mu {a : Bool} {shs : List Sh} {xs : List PV} (h : mz shs xs) (h1 : a = false -> shs.length = 1) : (eh a xs).cells = xs := by
 cases a with
 | true => rfl
 | false =>
  obtain ⟨s, rfl⟩ : ∃ s, shs = [s] := by
   have := h1 rfl
   cases shs with
   | nil => simp at this
   | cons s r => cases r with
    | nil => exact ⟨s, rfl⟩
    | cons => simp at this
  cases xs with
  | nil => exact h.elim
  | cons x r => cases r with
   | nil => exact rW h.1
   | cons => exact h.2.elim
theorem pj : ∀ (n : Nat) (t : TypeId) (a : Bool) (shs : List Sh) (fuel : Nat) (cs : List Value) (y : DataW H × List MemPlace), nk P n t = some (a, shs) ->
  DataW.trod enc P w 0 (fun _ => true) true fuel t cs = some y -> ∃ xs, mz shs xs /\ Reads w xs cs := by
 intro n
 induction n with
 | zero => intro t a shs fuel cs y h; cases h
 | succ n ih =>
  intro t a shs fuel cs y h hd
  unfold nk at h
  split at h
  ·rename_i k ht
   cases h
   obtain ⟨m, rfl, _, hw⟩ := DataW.trod_int ht hd
   simp only [Lit.wf, Bool.and_eq_true, decide_eq_true_eq] at hw
   exact ⟨[.v (.int k m)], ⟨⟨m, rfl, hw⟩, trivial⟩, .one (.v _ rfl) rfl⟩
  ·rename_i ht
   cases h
   obtain ⟨b, rfl, _⟩ := DataW.trod_bool ht hd
   exact ⟨[.v (.bool b)], ⟨⟨b, rfl⟩, trivial⟩, .one (.v _ rfl) rfl⟩
  ·rename_i ht
   cases h
   obtain ⟨s, rfl, _, hs⟩ := DataW.trod_string ht hd
   exact ⟨[.v (.string s)], ⟨⟨s, rfl, hs⟩, trivial⟩, .one (.v _ rfl) rfl⟩
  ·rename_i e ht
   split at h
   ·rename_i ae c cse he
    split at h
    ·rename_i hsz
     cases h
     have hsz' : P.cellsOf e = (c :: cse).length := (eq_of_beq hsz).symm
     rcases DataW.trod_slice ht hd with ⟨rfl, _⟩ | ⟨ad, len, cap, elems, rest, m, _, rfl, _, _, hl, hm, hlen, hel, _, _⟩
     ·refine ⟨[.list true []], ⟨?_, trivial⟩, .one .nil rfl⟩
      cases ae with
      | true => exact ⟨true, [], rfl, fun _ => rfl, Nat.zero_le _, by simp⟩
      | false => exact ⟨true, [], rfl, fun _ => rfl, Nat.zero_le _, by simp⟩
     ·have each : ∀ i : Nat, ∃ xs, i < len -> mz (c :: cse) xs /\ ∃ vs, w.cells? 0 (ad.add (i * P.cellsOf e)) (P.cellsOf e) = some vs /\ Reads w xs vs := by
       intro i
       by_cases hi : i < len
       ·have hsome := hel i hi
        rw [List.getElem?_eq_getElem (by omega)] at hsome
        obtain ⟨vs, h1, h2⟩ := Option.bind_eq_some_iff.1 hsome
        obtain ⟨xs, h3, h4⟩ := ih e ae (c :: cse) m vs _ he h2
        exact ⟨xs, fun _ => ⟨h3, vs, h1, h4⟩⟩
       ·exact ⟨[], fun h => absurd h hi⟩
      obtain ⟨X, hX⟩ := Classical.axiomOfChoice each
      let xs : List PV := (List.range len).map fun i => eh ae (X i)
      have hlen2 : xs.length = len := by simp [xs]
      have hmem : ∀ y ∈ xs, ∃ i, i < len /\ y = eh ae (X i) := by
       intro y hy
       obtain ⟨i, hi, rfl⟩ := List.mem_map.1 hy
       exact ⟨i, List.mem_range.1 hi, rfl⟩
      have hcells : ∀ i, i < len -> (eh ae (X i)).cells = X i := fun i hi => mu (hX i hi).1 (fun h => nj (by rw [h] at he; exact he))
      have hz : ∀ y ∈ xs, y.cells.length = (c :: cse).length := by
       intro y hy
       obtain ⟨i, hi, rfl⟩ := hmem y hy
       rw [hcells i hi]
       exact fh (hX i hi).1
      have hat : ∀ k z, (flat xs)[k]? = some z -> ∃ u : Value, w.cell? (ad.add k) = some u /\ RdP (fun b => b < w.heap.size) w z u /\ u.oneCell' = true := by
       intro k z hk
       obtain ⟨i, j, x, rfl, hj, hi, hc⟩ := ib hz hk
       have hi' : i < len := by have := (List.getElem?_eq_some_iff.1 hi).1; omega
       have hx : x = eh ae (X i) := by simpa [xs, hi'] using hi.symm
       subst hx
       rw [hcells i hi'] at hc
       obtain ⟨_, vs, h1, h2⟩ := hX i hi'
       obtain ⟨u, hu, hr, h3⟩ := h2.2 j z hc
       obtain ⟨_, h4, h5⟩ := World.cells?_some h1
       refine ⟨u, ?_, hr, h3⟩
       rw [<- hsz', <- add_add, h5 j (by rw [hsz']; exact hj)]
       exact hu
      have ex : ∀ k : Nat, ∃ u : Value, ∀ z, (flat xs)[k]? = some z -> w.cell? (ad.add k) = some u /\ RdP (fun b => b < w.heap.size) w z u /\ u.oneCell' = true := by
       intro k
       cases hk : (flat xs)[k]? with
       | none => exact ⟨undef, fun z hz => by cases hz⟩
       | some z =>
        obtain ⟨u, hu⟩ := hat k z hk
        exact ⟨u, fun z' hz' => by cases hz'; exact hu⟩
      obtain ⟨us, hus⟩ := Classical.axiomOfChoice ex
      have hfit : (Sh.slice ae (c :: cse)).fit (.list false xs) := by
       cases ae with
       | true =>
        refine ⟨false, xs, rfl, fun h => (by cases h), by omega, fun y hy => ?_⟩
        obtain ⟨i, hi, rfl⟩ := hmem y hy
        exact ⟨X i, rfl, (hX i hi).1⟩
       | false =>
        refine ⟨false, xs, rfl, fun h => (by cases h), by omega, fun y hy => ?_⟩
        obtain ⟨i, hi, rfl⟩ := hmem y hy
        have h1 := nj he
        have h2 := (hX i hi).1
        have h3 := fh h2
        obtain ⟨x, hx⟩ : ∃ x, X i = [x] := by
         cases hXi : X i with
         | nil => rw [hXi, h1] at h3; cases h3
         | cons x r => cases r with
          | nil => exact ⟨x, rfl⟩
          | cons => rw [hXi, h1] at h3; simp at h3
        rw [hx] at h2 ⊢
        exact h2
      refine ⟨[.list false xs], ⟨hfit, trivial⟩, .one ?_ rfl⟩
      rw [<- hlen2]
      refine .list xs ad cap (c :: cse).length us (fun hne => ?_) (by omega) hm hz (fun k z hk => ⟨(hus k z hk).1, (hus k z hk).2.2⟩) fun k z hk => (hus k z hk).2.1
      have h0 : 0 < xs.length := List.length_pos_iff.2 hne
      have hfl : 0 < (flat xs).length := by
       rw [aJ hz]
       exact Nat.mul_pos h0 (Nat.succ_pos _)
      have := (hus 0 _ (List.getElem?_eq_getElem hfl)).1
      have hb := Bu this
      rwa [cm] at hb
    ·cases h
   ·cases h
  ·rename_i fs ht
   simp only [Option.bind_eq_some_iff] at h
   obtain ⟨⟨off0, shs0⟩, hf, h⟩ := h
   split at h
   ·rename_i hc
    cases h
    simp only [Bool.and_eq_true, beq_iff_eq] at hc
    obtain ⟨ys, m, _, _, hlc, _, hy⟩ := DataW.trod_struct ht hd
    have key : ∀ (l : List Field) (off : Nat) (shs : List Sh), (∀ f ∈ l, f ∈ fs.toList) ->
      l.foldr (fun f r => match r, nk P n f.type with
       | some (off, shs), some (_, cs) => if f.offset + cs.length == off && cs.length == P.cellsOf f.type then some (f.offset, cs ++ shs) else none
       | _, _ => none) (some (P.cellsOf t, [])) = some (off, shs) -> ∃ xs, mz shs xs /\ Reads w xs (cs.drop off) := by
     intro l
     induction l with
     | nil =>
      intro off shs _ hl
      cases hl
      exact ⟨[], trivial, by rw [List.drop_eq_nil_of_le (by omega)]; exact ⟨rfl, by simp⟩⟩
     | cons f l ihl =>
      intro off shs hsub hl
      rw [List.foldr_cons] at hl
      split at hl
      ·rename_i off1 shs1 af cf h1 h2
       split at hl
       ·rename_i hcond
        cases hl
        simp only [Bool.and_eq_true, beq_iff_eq] at hcond
        obtain ⟨xs1, h3, h4⟩ := ihl off1 shs1 (fun g hg => hsub g (List.mem_cons_of_mem _ hg)) h1
        obtain ⟨i, hi⟩ := List.getElem?_of_mem (hsub f (List.mem_cons_self ..))
        have hfi : fs[i]? = some f := by simpa using hi
        have hyi := hy i f hfi
        have hlt : i < ys.length := by
         have := (Array.getElem?_eq_some_iff.1 hfi).1
         omega
        rw [List.getElem?_eq_getElem hlt] at hyi
        obtain ⟨xs2, h5, h6⟩ := ih f.type af cf m _ _ h2 hyi
        refine ⟨xs2 ++ xs1, me h5 h3, ?_⟩
        have e : cs.drop f.offset = (cs.drop f.offset).take (P.cellsOf f.type) ++ cs.drop off1 := by
         conv => lhs; rw [<- List.take_append_drop (P.cellsOf f.type) (cs.drop f.offset)]
         rw [List.drop_drop, <- hcond.2, hcond.1]
        rw [e]
        exact h6.append h4
       ·cases hl
      ·cases hl
    obtain ⟨xs, h1, h2⟩ := key fs.toList off0 _ (fun f hf => hf) hf
    rw [hc.1, List.drop_zero] at h2
    exact ⟨xs, h1, h2⟩
   ·cases h
  ·cases h
def Cv (a : Bool) (shs : List Sh) (x : PV) : Prop := ∃ xs, mz shs xs /\ x = eh a xs
theorem rq {n : Nat} {t : TypeId} {a : Bool} {shs : List Sh} {v : Value} {d : DataW H} {ps : List MemPlace} (hs : nk P n t = some (a, shs)) (hd : DataW.Trod enc P w 0 (fun _ => true) true t v d ps)
  {base : Nat} (hv : Value.okWide P w .any base t v) : ∃ x, Cv a shs x /\ RdP (fun b => b < w.heap.size) w x v := by
 obtain ⟨fuel, hd⟩ := hd
 obtain ⟨xs, h1, h2⟩ := pj n t a shs fuel _ _ hs hd
 refine ⟨_, ⟨xs, h1, rfl⟩, ?_⟩
 cases a with
 | false =>
  have h3 := nj hs
  have h4 := fh h1
  obtain ⟨x, rfl⟩ : ∃ x, xs = [x] := by
   cases xs with
   | nil => rw [h3] at h4; cases h4
   | cons x r => cases r with
    | nil => exact ⟨x, rfl⟩
    | cons => rw [h3] at h4; simp at h4
  obtain ⟨u, hu, hr, ho⟩ := h2.2 0 x rfl
  have hvu : v = u := by
   have key : v.oneCell' = true := by
    unfold nk at hs
    unfold Value.okWide at hv
    cases n with
    | zero => cases hs
    | succ n =>
     simp only at hs
     split at hs
     ·rename_i ht; rw [ht] at hv; simp only [Cell.okWide, ht, Cell.ok] at hv; split at hv <;> simp_all [Value.oneCell']
     ·rename_i ht; rw [ht] at hv; simp only [Cell.okWide, ht, Cell.ok] at hv; split at hv <;> simp_all [Value.oneCell']
     ·rename_i ht; rw [ht] at hv; simp only [Cell.okWide, ht, Cell.ok] at hv; split at hv <;> simp_all [Value.oneCell']
     ·rename_i ht; rw [ht] at hv; simp only [Cell.okWide, ht, Cell.ok] at hv; split at hv <;> simp_all [Value.oneCell']
     ·simp only [Option.bind_eq_some_iff] at hs
      obtain ⟨x, _, h⟩ := hs
      split at h <;> cases h
     ·cases hs
   rw [iW key] at hu
   simpa using hu
  rw [hvu]
  exact hr
 | true =>
  have hva : ∃ cs, v = .agg cs := by
   unfold nk at hs
   unfold Value.okWide at hv
   cases n with
   | zero => cases hs
   | succ n =>
    simp only at hs
    split at hs
    ·cases hs
    ·cases hs
    ·cases hs
    ·split at hs
     ·split at hs <;> cases hs
     ·cases hs
    ·rename_i ht
     rw [ht] at hv
     obtain ⟨cs, rfl, _⟩ := hv
     exact ⟨cs, rfl⟩
    ·cases hs
  obtain ⟨cs, rfl⟩ := hva
  have e : ∀ (k : Nat) (u : Value), (Value.agg cs).cells.toList[k]? = some u -> cs.getD k undef = u := by
   intro k u hu
   have : cs[k]? = some u := by simpa [Value.cells] using hu
   simp [this]
  refine .agg xs cs (by have := h2.1; simpa [Value.cells] using this.symm) (fun k c hc => ?_) fun k c hc => ?_
  ·obtain ⟨u, hu, _, ho⟩ := h2.2 k c hc
   rw [e k u hu]
   exact ho
  ·obtain ⟨u, hu, hr, _⟩ := h2.2 k c hc
   rw [e k u hu]
   exact hr
def Cw : List (Bool × List Sh) -> List PV -> Prop
 | [], [] => True
 | (a, s) :: ss, x :: xs => Cv a s x /\ Cw ss xs
 | _, _ => False
def qQ (P : Program) : List TypeId -> Option (List (Bool × List Sh))
 | [] => some []
 | t :: ts => match nk P 9 t, qQ P ts with
  | some s, some ss => some (s :: ss)
  | _, _ => none
theorem r_ : ∀ (ts : List TypeId) (shs : List (Bool × List Sh)) (vs : List Value) (ds : List (DataW H)) (ps : List MemPlace), qQ P ts = some shs ->
  DataW.TrodAll enc P w 0 (fun _ => true) true ts vs ds ps -> (∀ (j : Nat) (t : TypeId) (v : Value), ts[j]? = some t -> vs[j]? = some v -> ∃ base, Value.okWide P w .any base t v) ->
  ∃ xs, Cw shs xs /\ xs.length = vs.length /\ ds.length = ts.length /\ ∀ (j : Nat) (x : PV), xs[j]? = some x -> ∃ v, vs[j]? = some v /\ RdP (fun b => b < w.heap.size) w x v := by
 intro ts
 induction ts with
 | nil =>
  intro shs vs ds ps hs ht hv
  cases hs
  cases vs with
  | cons => cases ds <;> exact ht.elim
  | nil =>
   cases ds with
   | cons => exact ht.elim
   | nil => exact ⟨[], trivial, rfl, rfl, by simp⟩
 | cons t ts ih =>
  intro shs vs ds ps hs ht hv
  unfold qQ at hs
  split at hs
  ·rename_i s ss h1 h2
   cases hs
   cases vs with
   | nil => cases ds <;> exact ht.elim
   | cons v vs =>
    cases ds with
    | nil => exact ht.elim
    | cons d ds =>
     obtain ⟨p, q, h3, h4, _⟩ := ht
     obtain ⟨xs, h5, h6, h6', h7⟩ := ih ss vs ds q h2 h4 fun j t' v' hj hj' => hv (j + 1) t' v' (by simpa using hj) (by simpa using hj')
     obtain ⟨base, hb⟩ := hv 0 t v rfl rfl
     obtain ⟨a, shs⟩ := s
     obtain ⟨x, h8, h9⟩ := rq h1 h3 hb
     refine ⟨x :: xs, ⟨h8, h5⟩, by simp [h6], by simp [h6'], fun j y hy => ?_⟩
     cases j with
     | zero => simp at hy; subst hy; exact ⟨v, rfl, h9⟩
     | succ j => exact h7 j y (by simpa using hy)
  ·cases hs
theorem pg (hl : laidOutB P = true) {W W' : World} (hb : Below W.heap.size W W') : ∀ (ts : List TypeId) (vs : List Value) (ds : List (DataW H)) (ps : List MemPlace) (sp : Nat -> Bool),
  ts.all (fun t => P.readableRec t && decide (t < P.types.size)) = true -> DataW.TrodAll enc P W 0 (fun _ => true) true ts vs ds ps -> (∀ p ∈ ps, p.block < W.heap.size) -> (∀ p ∈ ps, sp p.block = true) ->
  DataW.TrodAll enc P W' 0 sp true ts vs ds ps := by
 intro ts
 induction ts with
 | nil => intro vs ds ps sp _ h _ _; cases vs <;> cases ds <;> exact h
 | cons t ts ih =>
  intro vs ds ps sp hr h hlt hsp
  cases vs with
  | nil => cases ds <;> exact h.elim
  | cons v vs =>
   cases ds with
   | nil => exact h.elim
   | cons d ds =>
    obtain ⟨p, q, h1, h2, rfl⟩ := h
    simp only [List.all_cons, Bool.and_eq_true, decide_eq_true_eq] at hr
    refine ⟨p, q, WideElems.Trod_stays hl hr.1.1 hr.1.2 h1 (fun x hx => hb.same (hlt x (List.mem_append_left _ hx))) (fun x hx => hsp x (List.mem_append_left _ hx)), ?_, rfl⟩
    exact ih vs ds q sp hr.2 h2 (fun x hx => hlt x (List.mem_append_right _ hx)) fun x hx => hsp x (List.mem_append_right _ hx)
theorem ye {f : Func} {s : ChangeSpec} {W W' : World} {args : Array Value} {ds gs : List (DataW H)} {before : List MemPlace} {tb : TypeId} (hl : laidOutB P = true)
  (hr : f.params.toList.all (fun t => P.readableRec t && decide (t < P.types.size)) = true) (hres : f.resultTypes = #[tb]) (htb : P.underlying tb = some .bool) (hvars : s.vars = [])
  (hs : (s.fn H ds).results = [.lit (.bool true)] /\ (s.fn H ds).args = ds /\ (s.fn H ds).vars = [])
  (hW : DataW.Whole enc P f.params.toList s.vars false W args.toList ds gs before) (hb : Below W.heap.size W W') : s.post enc P f false true false false W args (.bool true) W' := by
 have hlt := hW.lt
 obtain ⟨p, q, hA, hV, rfl, hz, hn⟩ := id hW
 rw [hvars] at hV
 obtain ⟨rfl, rfl⟩ := trodVars_none hV
 rw [List.append_nil] at hlt hW hz
 have hresults : ∀ (b : Nat) (sp : Nat -> Bool) (hd : Bool), DataW.TrodAll enc P W' b sp hd f.resultTypes.toList ((Value.bool true).resultList f.resultTypes.size) (s.fn H (ds ++ [])).results [] := by
  intro b sp hd
  rw [hres, List.append_nil, hs.1]
  exact trodAll_mk1 (shut_bool htb true)
 have hargs : ∀ sp : Nat -> Bool, (∀ x ∈ p, sp x.block = true) -> DataW.TrodAll enc P W' 0 sp true f.params.toList args.toList (s.fn H (ds ++ [])).args p := by
  intro sp hsp
  rw [List.append_nil, hs.2.1]
  exact pg hl hb _ _ _ _ _ hr hA hlt hsp
 refine ⟨ds, [], p, [], p, [], hW, hresults _ _ _, hargs _ (fun x hx => by simpa using hlt x hx), ?_, hb.frame _, fun h => by cases h⟩
 rw [hvars, List.append_nil, hs.2.2]
 exact rfl
end
end Go.Abs
namespace Go.Abs
open Go.RowKit Go.ChangeShapes Go.WideShapes
theorem r9 {P : Program} {m m' : Nat -> Value} {S S' : Nat -> Prop} {w w' : World} {H' : AH} (h : Stp P [] m S w H' m' S' w') : Below w.heap.size w w' :=
 ⟨h.os, h.tape, h.output, h.size, fun k hk => h.blk k hk fun ⟨i, _, hl, _⟩ => by simp [live] at hl⟩
theorem s7 {α : Type} (g : α -> PV) : ∀ (xs : List PV), (∀ x ∈ xs, ∃ a, x = g a) -> ∃ l : List α, xs = l.map g
 | [], _ => ⟨[], rfl⟩
 | x :: xs, h => by
  obtain ⟨a, ha⟩ := h x (List.mem_cons_self ..)
  obtain ⟨l, hl⟩ := s7 g xs fun y hy => h y (List.mem_cons_of_mem _ hy)
  exact ⟨a :: l, by rw [ha, hl]; rfl⟩
theorem zX {x : PV} (h : Cv false [.slice false [.int .i64]] x) : ∃ (nl : Bool) (ts : List Int), x = .list nl (ts.map pI) := by
 obtain ⟨xs, h1, rfl⟩ := h
 match xs, h1 with
 | [y], h1 =>
  obtain ⟨⟨nl, l, rfl, _, _, h2⟩, _⟩ := h1
  obtain ⟨ts, rfl⟩ := s7 pI l fun y hy => by
   obtain ⟨⟨n, rfl, _⟩, _⟩ := h2 y hy
   exact ⟨n, rfl⟩
  exact ⟨nl, ts, rfl⟩
end Go.Abs
namespace Go.Abs
end Go.Abs
namespace Go.Proofs.YtaocnijlcgohnaaGreatDoor
open Go.Abs
def tab : List (TypeId × TI) := [
 (1, ⟨.other, 1, 8, .nilFunc⟩),
 (2, ⟨.int .i64, 1, 8, .int .i64 0⟩),
 (3, ⟨.int .i64, 1, 8, .int .i64 0⟩),
 (4, ⟨.bool, 1, 1, .bool false⟩),
 (5, ⟨.int .u8, 1, 1, .int .u8 0⟩),
 (6, ⟨.int .u8, 1, 1, .int .u8 0⟩),
 (7, ⟨.st [(2, 0), (3, 1), (4, 2), (6, 3)], 4, 24, .agg #[.int .i64 0, .int .i64 0, .bool false, .int .u8 0]⟩),
 (8, ⟨.st [(2, 0), (3, 1), (4, 2), (6, 3)], 4, 24, .agg #[.int .i64 0, .int .i64 0, .bool false, .int .u8 0]⟩),
 (9, ⟨.str, 1, 16, .string ⟨#[]⟩⟩),
 (10, ⟨.str, 1, 16, .string ⟨#[]⟩⟩),
 (11, ⟨.str, 1, 16, .string ⟨#[]⟩⟩),
 (12, ⟨.int .u64, 1, 8, .int .u64 0⟩),
 (15, ⟨.other, 1, 8, .pointer none⟩),
 (16, ⟨.other, 1, 8, .pointer none⟩),
 (17, ⟨.other, 1, 8, .pointer none⟩),
 (20, ⟨.other, 1, 16, .nilIface⟩),
 (21, ⟨.int .i32, 1, 4, .int .i32 0⟩),
 (22, ⟨.sl 3, 1, 24, .slice none 0 0⟩),
 (23, ⟨.other, 1, 8, .pointer none⟩),
 (24, ⟨.other, 1, 8, .nilFunc⟩),
 (25, ⟨.sl 64, 1, 24, .slice none 0 0⟩),
 (26, ⟨.st [(25, 0)], 1, 24, .agg #[.slice none 0 0]⟩),
 (27, ⟨.st [(25, 0)], 1, 24, .agg #[.slice none 0 0]⟩),
 (28, ⟨.other, 1, 8, .nilFunc⟩),
 (29, ⟨.sl 70, 1, 24, .slice none 0 0⟩),
 (30, ⟨.other, 1, 8, .nilFunc⟩),
 (31, ⟨.sl 5, 1, 24, .slice none 0 0⟩),
 (32, ⟨.int .i64, 1, 8, .int .i64 0⟩),
 (34, ⟨.other, 1, 8, .nilFunc⟩),
 (36, ⟨.other, 1, 8, .nilFunc⟩),
 (38, ⟨.other, 1, 8, .nilFunc⟩),
 (39, ⟨.other, 1, 8, .nilFunc⟩),
 (40, ⟨.other, 1, 8, .nilFunc⟩),
 (41, ⟨.other, 1, 8, .nilFunc⟩),
 (42, ⟨.sl 103, 1, 24, .slice none 0 0⟩),
 (43, ⟨.other, 1, 8, .nilFunc⟩),
 (44, ⟨.sl 4, 1, 24, .slice none 0 0⟩),
 (45, ⟨.st [(44, 0), (22, 1)], 2, 48, .agg #[.slice none 0 0, .slice none 0 0]⟩),
 (46, ⟨.st [(44, 0), (22, 1)], 2, 48, .agg #[.slice none 0 0, .slice none 0 0]⟩),
 (48, ⟨.other, 1, 8, .nilFunc⟩),
 (49, ⟨.st [(4, 0), (22, 1), (3, 2), (3, 3)], 4, 48, .agg #[.bool false, .slice none 0 0, .int .i64 0, .int .i64 0]⟩),
 (50, ⟨.st [(4, 0), (22, 1), (3, 2), (3, 3)], 4, 48, .agg #[.bool false, .slice none 0 0, .int .i64 0, .int .i64 0]⟩),
 (52, ⟨.other, 1, 8, .nilFunc⟩),
 (53, ⟨.other, 1, 8, .nilFunc⟩),
 (54, ⟨.sl 199, 1, 24, .slice none 0 0⟩),
 (56, ⟨.other, 1, 8, .nilFunc⟩),
 (57, ⟨.other, 1, 8, .nilFunc⟩),
 (58, ⟨.other, 1, 8, .nilFunc⟩),
 (59, ⟨.other, 1, 8, .nilFunc⟩),
 (60, ⟨.st [(22, 0), (3, 1)], 2, 32, .agg #[.slice none 0 0, .int .i64 0]⟩),
 (61, ⟨.st [(22, 0), (3, 1)], 2, 32, .agg #[.slice none 0 0, .int .i64 0]⟩),
 (62, ⟨.sl 97, 1, 24, .slice none 0 0⟩),
 (63, ⟨.st [(3, 0), (9, 1), (62, 2)], 3, 48, .agg #[.int .i64 0, .string ⟨#[]⟩, .slice none 0 0]⟩),
 (64, ⟨.st [(3, 0), (9, 1), (62, 2)], 3, 48, .agg #[.int .i64 0, .string ⟨#[]⟩, .slice none 0 0]⟩),
 (65, ⟨.other, 1, 8, .nilFunc⟩),
 (67, ⟨.other, 1, 8, .nilFunc⟩),
 (68, ⟨.other, 1, 8, .nilFunc⟩),
 (69, ⟨.st [(3, 0), (22, 1), (3, 2), (3, 3), (4, 4)], 5, 56, .agg #[.int .i64 0, .slice none 0 0, .int .i64 0, .int .i64 0, .bool false]⟩),
 (70, ⟨.st [(3, 0), (22, 1), (3, 2), (3, 3), (4, 4)], 5, 56, .agg #[.int .i64 0, .slice none 0 0, .int .i64 0, .int .i64 0, .bool false]⟩),
 (71, ⟨.other, 1, 8, .nilFunc⟩),
 (72, ⟨.other, 1, 8, .nilFunc⟩),
 (73, ⟨.other, 1, 8, .nilFunc⟩),
 (74, ⟨.sl 9, 1, 24, .slice none 0 0⟩),
 (75, ⟨.other, 1, 8, .nilFunc⟩),
 (76, ⟨.other, 1, 8, .nilFunc⟩),
 (77, ⟨.other, 1, 8, .nilFunc⟩),
 (78, ⟨.other, 1, 8, .nilFunc⟩),
 (80, ⟨.other, 1, 8, .nilFunc⟩),
 (81, ⟨.other, 1, 8, .pointer none⟩),
 (82, ⟨.st [(31, 0), (31, 1), (3, 2), (27, 3), (22, 4), (44, 5), (3, 6), (32, 7)], 8, 144, .agg #[.slice none 0 0, .slice none 0 0, .int .i64 0, .slice none 0 0, .slice none 0 0, .slice none 0 0, .int .i64 0, .int .i64 0]⟩),
 (83, ⟨.st [(31, 0), (31, 1), (3, 2), (27, 3), (22, 4), (44, 5), (3, 6), (32, 7)], 8, 144, .agg #[.slice none 0 0, .slice none 0 0, .int .i64 0, .slice none 0 0, .slice none 0 0, .slice none 0 0, .int .i64 0, .int .i64 0]⟩),
 (85, ⟨.other, 1, 8, .nilFunc⟩),
 (87, ⟨.other, 1, 8, .nilFunc⟩),
 (88, ⟨.other, 1, 8, .nilFunc⟩),
 (89, ⟨.other, 1, 8, .nilFunc⟩),
 (91, ⟨.other, 1, 8, .nilFunc⟩),
 (92, ⟨.other, 1, 8, .nilFunc⟩),
 (93, ⟨.sl 177, 1, 24, .slice none 0 0⟩),
 (95, ⟨.other, 1, 8, .nilFunc⟩),
 (96, ⟨.st [(9, 0), (9, 1)], 2, 32, .agg #[.string ⟨#[]⟩, .string ⟨#[]⟩]⟩),
 (97, ⟨.st [(9, 0), (9, 1)], 2, 32, .agg #[.string ⟨#[]⟩, .string ⟨#[]⟩]⟩),
 (98, ⟨.other, 1, 8, .nilFunc⟩),
 (99, ⟨.st [(3, 0), (3, 1), (3, 2)], 3, 24, .agg #[.int .i64 0, .int .i64 0, .int .i64 0]⟩),
 (100, ⟨.st [(3, 0), (3, 1), (3, 2)], 3, 24, .agg #[.int .i64 0, .int .i64 0, .int .i64 0]⟩),
 (101, ⟨.sl 100, 1, 24, .slice none 0 0⟩),
 (102, ⟨.st [(3, 0), (3, 1), (3, 2), (3, 3)], 4, 32, .agg #[.int .i64 0, .int .i64 0, .int .i64 0, .int .i64 0]⟩),
 (103, ⟨.st [(3, 0), (3, 1), (3, 2), (3, 3)], 4, 32, .agg #[.int .i64 0, .int .i64 0, .int .i64 0, .int .i64 0]⟩),
 (104, ⟨.other, 1, 8, .nilFunc⟩),
 (105, ⟨.other, 1, 8, .nilFunc⟩),
 (106, ⟨.sl 188, 1, 24, .slice none 0 0⟩),
 (108, ⟨.other, 1, 8, .nilFunc⟩),
 (109, ⟨.other, 1, 8, .nilFunc⟩),
 (110, ⟨.other, 1, 8, .nilFunc⟩),
 (111, ⟨.other, 1, 8, .nilFunc⟩),
 (112, ⟨.other, 1, 8, .nilFunc⟩),
 (113, ⟨.other, 1, 8, .nilFunc⟩),
 (114, ⟨.other, 1, 8, .nilFunc⟩),
 (115, ⟨.other, 1, 8, .nilFunc⟩),
 (116, ⟨.other, 1, 8, .pointer none⟩),
 (117, ⟨.other, 1, 8, .nilFunc⟩),
 (118, ⟨.st [(46, 0), (54, 2)], 3, 72, .agg #[.slice none 0 0, .slice none 0 0, .slice none 0 0]⟩),
 (119, ⟨.st [(46, 0), (54, 2)], 3, 72, .agg #[.slice none 0 0, .slice none 0 0, .slice none 0 0]⟩),
 (120, ⟨.other, 1, 8, .nilFunc⟩),
 (121, ⟨.other, 1, 8, .nilFunc⟩),
 (122, ⟨.sl 46, 1, 24, .slice none 0 0⟩),
 (124, ⟨.other, 1, 8, .nilFunc⟩),
 (125, ⟨.other, 1, 8, .nilFunc⟩),
 (126, ⟨.other, 1, 8, .nilFunc⟩),
 (127, ⟨.other, 1, 8, .nilFunc⟩),
 (129, ⟨.other, 1, 8, .nilFunc⟩),
 (130, ⟨.other, 1, 8, .nilFunc⟩),
 (131, ⟨.other, 1, 8, .nilFunc⟩),
 (132, ⟨.other, 1, 8, .nilFunc⟩),
 (133, ⟨.other, 1, 8, .nilFunc⟩),
 (134, ⟨.int .u64, 1, 8, .int .u64 0⟩),
 (135, ⟨.other, 1, 8, .nilFunc⟩),
 (136, ⟨.other, 1, 8, .nilFunc⟩),
 (137, ⟨.other, 1, 8, .nilFunc⟩),
 (138, ⟨.other, 1, 8, .nilFunc⟩),
 (139, ⟨.map 141 4, 1, 8, .map none⟩),
 (140, ⟨.st [(9, 0), (3, 1)], 2, 24, .agg #[.string ⟨#[]⟩, .int .i64 0]⟩),
 (141, ⟨.st [(9, 0), (3, 1)], 2, 24, .agg #[.string ⟨#[]⟩, .int .i64 0]⟩),
 (142, ⟨.other, 1, 8, .pointer none⟩),
 (143, ⟨.map 9 3, 1, 8, .map none⟩),
 (144, ⟨.st [(31, 0), (31, 1), (143, 2)], 3, 56, .agg #[.slice none 0 0, .slice none 0 0, .map none]⟩),
 (145, ⟨.st [(31, 0), (31, 1), (143, 2)], 3, 56, .agg #[.slice none 0 0, .slice none 0 0, .map none]⟩),
 (146, ⟨.other, 1, 8, .nilFunc⟩),
 (147, ⟨.other, 1, 8, .nilFunc⟩),
 (148, ⟨.other, 1, 8, .nilFunc⟩),
 (149, ⟨.other, 1, 8, .nilFunc⟩),
 (150, ⟨.other, 1, 8, .nilFunc⟩),
 (151, ⟨.other, 1, 8, .nilFunc⟩),
 (153, ⟨.other, 1, 8, .nilFunc⟩),
 (154, ⟨.other, 1, 8, .nilFunc⟩),
 (155, ⟨.sl 22, 1, 24, .slice none 0 0⟩),
 (157, ⟨.other, 1, 8, .nilFunc⟩),
 (158, ⟨.other, 1, 8, .nilFunc⟩),
 (159, ⟨.other, 1, 8, .nilFunc⟩),
 (161, ⟨.other, 1, 8, .nilFunc⟩),
 (162, ⟨.other, 1, 8, .nilFunc⟩),
 (163, ⟨.sl 167, 1, 24, .slice none 0 0⟩),
 (165, ⟨.other, 1, 8, .nilFunc⟩),
 (166, ⟨.st [(3, 0), (3, 1), (9, 2), (3, 3), (22, 4)], 5, 64, .agg #[.int .i64 0, .int .i64 0, .string ⟨#[]⟩, .int .i64 0, .slice none 0 0]⟩),
 (167, ⟨.st [(3, 0), (3, 1), (9, 2), (3, 3), (22, 4)], 5, 64, .agg #[.int .i64 0, .int .i64 0, .string ⟨#[]⟩, .int .i64 0, .slice none 0 0]⟩),
 (169, ⟨.other, 1, 8, .nilFunc⟩),
 (171, ⟨.other, 1, 8, .nilFunc⟩),
 (172, ⟨.other, 1, 8, .nilFunc⟩),
 (173, ⟨.other, 1, 8, .nilFunc⟩),
 (174, ⟨.other, 1, 8, .nilFunc⟩),
 (175, ⟨.other, 1, 8, .nilFunc⟩),
 (176, ⟨.st [(3, 0), (22, 1), (22, 2), (3, 3), (3, 4)], 5, 72, .agg #[.int .i64 0, .slice none 0 0, .slice none 0 0, .int .i64 0, .int .i64 0]⟩),
 (177, ⟨.st [(3, 0), (22, 1), (22, 2), (3, 3), (3, 4)], 5, 72, .agg #[.int .i64 0, .slice none 0 0, .slice none 0 0, .int .i64 0, .int .i64 0]⟩),
 (179, ⟨.other, 1, 8, .nilFunc⟩),
 (180, ⟨.other, 1, 8, .nilFunc⟩),
 (181, ⟨.other, 1, 8, .nilFunc⟩),
 (182, ⟨.other, 1, 8, .nilFunc⟩),
 (183, ⟨.int .u64, 1, 8, .int .u64 0⟩),
 (184, ⟨.other, 1, 8, .nilFunc⟩),
 (185, ⟨.other, 1, 8, .nilFunc⟩),
 (186, ⟨.other, 1, 8, .nilFunc⟩),
 (187, ⟨.st [(3, 0), (3, 1), (3, 2)], 3, 24, .agg #[.int .i64 0, .int .i64 0, .int .i64 0]⟩),
 (188, ⟨.st [(3, 0), (3, 1), (3, 2)], 3, 24, .agg #[.int .i64 0, .int .i64 0, .int .i64 0]⟩),
 (189, ⟨.other, 1, 8, .nilFunc⟩),
 (190, ⟨.other, 1, 8, .nilFunc⟩),
 (191, ⟨.other, 1, 8, .nilFunc⟩),
 (192, ⟨.other, 1, 8, .nilFunc⟩),
 (193, ⟨.other, 1, 8, .nilFunc⟩),
 (194, ⟨.other, 1, 8, .nilFunc⟩),
 (195, ⟨.other, 1, 8, .nilFunc⟩),
 (196, ⟨.other, 1, 8, .nilFunc⟩),
 (197, ⟨.other, 1, 8, .nilFunc⟩),
 (198, ⟨.st [(3, 0), (3, 1), (3, 2)], 3, 24, .agg #[.int .i64 0, .int .i64 0, .int .i64 0]⟩),
 (199, ⟨.st [(3, 0), (3, 1), (3, 2)], 3, 24, .agg #[.int .i64 0, .int .i64 0, .int .i64 0]⟩),
 (200, ⟨.other, 1, 8, .nilFunc⟩),
 (201, ⟨.other, 1, 8, .nilFunc⟩),
 (202, ⟨.other, 1, 8, .nilFunc⟩),
 (203, ⟨.other, 1, 8, .nilFunc⟩),
 (204, ⟨.other, 1, 8, .nilFunc⟩),
 (205, ⟨.other, 1, 8, .nilFunc⟩),
 (206, ⟨.other, 1, 8, .nilFunc⟩),
 (207, ⟨.int .u32, 1, 4, .int .u32 0⟩),
 (208, ⟨.other, 1, 8, .nilFunc⟩),
 (209, ⟨.other, 1, 8, .nilFunc⟩),
 (210, ⟨.other, 1, 8, .nilFunc⟩),
 (211, ⟨.other, 1, 8, .pointer none⟩),
 (212, ⟨.other, 1, 8, .nilFunc⟩),
 (213, ⟨.other, 1, 8, .nilFunc⟩),
 (215, ⟨.other, 1, 8, .nilFunc⟩),
 (217, ⟨.other, 1, 8, .nilFunc⟩),
 (218, ⟨.other, 1, 8, .nilFunc⟩),
 (219, ⟨.other, 1, 8, .nilFunc⟩),
 (220, ⟨.other, 1, 8, .nilFunc⟩),
 (221, ⟨.other, 1, 8, .nilFunc⟩),
 (222, ⟨.other, 1, 8, .nilFunc⟩),
 (223, ⟨.other, 1, 8, .nilFunc⟩),
 (224, ⟨.other, 1, 8, .nilFunc⟩),
 (225, ⟨.other, 1, 8, .nilFunc⟩),
 (226, ⟨.other, 1, 8, .nilFunc⟩),
 (227, ⟨.other, 1, 8, .nilFunc⟩),
 (228, ⟨.other, 1, 8, .nilFunc⟩),
 (229, ⟨.other, 1, 8, .nilFunc⟩),
 (230, ⟨.other, 1, 8, .nilFunc⟩),
 (231, ⟨.sl 237, 1, 24, .slice none 0 0⟩),
 (232, ⟨.other, 1, 8, .nilFunc⟩),
 (233, ⟨.sl 240, 1, 24, .slice none 0 0⟩),
 (235, ⟨.other, 1, 8, .nilFunc⟩),
 (236, ⟨.st [(3, 0), (3, 1), (3, 2), (3, 3), (4, 4)], 5, 40, .agg #[.int .i64 0, .int .i64 0, .int .i64 0, .int .i64 0, .bool false]⟩),
 (237, ⟨.st [(3, 0), (3, 1), (3, 2), (3, 3), (4, 4)], 5, 40, .agg #[.int .i64 0, .int .i64 0, .int .i64 0, .int .i64 0, .bool false]⟩),
 (238, ⟨.other, 1, 8, .nilFunc⟩),
 (239, ⟨.st [(3, 0), (3, 1)], 2, 16, .agg #[.int .i64 0, .int .i64 0]⟩),
 (240, ⟨.st [(3, 0), (3, 1)], 2, 16, .agg #[.int .i64 0, .int .i64 0]⟩),
 (241, ⟨.other, 1, 8, .nilFunc⟩),
 (242, ⟨.other, 1, 8, .nilFunc⟩),
 (243, ⟨.other, 1, 8, .nilFunc⟩),
 (244, ⟨.other, 1, 8, .nilFunc⟩),
 (245, ⟨.other, 1, 8, .nilFunc⟩),
 (246, ⟨.other, 1, 8, .nilFunc⟩),
 (247, ⟨.other, 1, 8, .nilFunc⟩),
 (248, ⟨.other, 1, 8, .nilFunc⟩),
 (249, ⟨.other, 1, 8, .nilFunc⟩),
 (251, ⟨.other, 1, 8, .nilFunc⟩),
 (252, ⟨.other, 1, 8, .nilFunc⟩),
 (253, ⟨.ar 256 4, 256, 256, .agg #[.bool false, .bool false, .bool false, .bool false, .bool false, .bool false, .bool false, .bool false, .bool false, .bool false, .bool false, .bool false, .bool false, .bool false, .bool false, .bool false, .bool false, .bool false, .bool false, .bool false, .bool false, .bool false, .bool false, .bool false, .bool false, .bool false, .bool false, .bool false, .bool false, .bool false, .bool false, .bool false, .bool false, .bool false, .bool false, .bool false, .bool false, .bool false, .bool false, .bool false, .bool false, .bool false, .bool false, .bool false, .bool false, .bool false, .bool false, .bool false, .bool false, .bool false, .bool false, .bool false, .bool false, .bool false, .bool false, .bool false, .bool false, .bool false, .bool false, .bool false, .bool false, .bool false, .bool false, .bool false, .bool false, .bool false, .bool false, .bool false, .bool false, .bool false, .bool false, .bool false, .bool false, .bool false, .bool false, .bool false, .bool false, .bool false, .bool false, .bool false, .bool false, .bool false, .bool false, .bool false, .bool false, .bool false, .bool false, .bool false, .bool false, .bool false, .bool false, .bool false, .bool false, .bool false, .bool false, .bool false, .bool false, .bool false, .bool false, .bool false, .bool false, .bool false, .bool false, .bool false, .bool false, .bool false, .bool false, .bool false, .bool false, .bool false, .bool false, .bool false, .bool false, .bool false, .bool false, .bool false, .bool false, .bool false, .bool false, .bool false, .bool false, .bool false, .bool false, .bool false, .bool false, .bool false, .bool false, .bool false, .bool false, .bool false, .bool false, .bool false, .bool false, .bool false, .bool false, .bool false, .bool false, .bool false, .bool false, .bool false, .bool false, .bool false, .bool false, .bool false, .bool false, .bool false, .bool false, .bool false, .bool false, .bool false, .bool false, .bool false, .bool false, .bool false, .bool false, .bool false, .bool false, .bool false, .bool false, .bool false, .bool false, .bool false, .bool false, .bool false, .bool false, .bool false, .bool false, .bool false, .bool false, .bool false, .bool false, .bool false, .bool false, .bool false, .bool false, .bool false, .bool false, .bool false, .bool false, .bool false, .bool false, .bool false, .bool false, .bool false, .bool false, .bool false, .bool false, .bool false, .bool false, .bool false, .bool false, .bool false, .bool false, .bool false, .bool false, .bool false, .bool false, .bool false, .bool false, .bool false, .bool false, .bool false, .bool false, .bool false, .bool false, .bool false, .bool false, .bool false, .bool false, .bool false, .bool false, .bool false, .bool false, .bool false, .bool false, .bool false, .bool false, .bool false, .bool false, .bool false, .bool false, .bool false, .bool false, .bool false, .bool false, .bool false, .bool false, .bool false, .bool false, .bool false, .bool false, .bool false, .bool false, .bool false, .bool false, .bool false, .bool false, .bool false, .bool false, .bool false, .bool false, .bool false, .bool false, .bool false, .bool false, .bool false, .bool false, .bool false, .bool false, .bool false, .bool false, .bool false, .bool false, .bool false, .bool false, .bool false]⟩),
 (254, ⟨.ar 256 4, 256, 256, .agg #[.bool false, .bool false, .bool false, .bool false, .bool false, .bool false, .bool false, .bool false, .bool false, .bool false, .bool false, .bool false, .bool false, .bool false, .bool false, .bool false, .bool false, .bool false, .bool false, .bool false, .bool false, .bool false, .bool false, .bool false, .bool false, .bool false, .bool false, .bool false, .bool false, .bool false, .bool false, .bool false, .bool false, .bool false, .bool false, .bool false, .bool false, .bool false, .bool false, .bool false, .bool false, .bool false, .bool false, .bool false, .bool false, .bool false, .bool false, .bool false, .bool false, .bool false, .bool false, .bool false, .bool false, .bool false, .bool false, .bool false, .bool false, .bool false, .bool false, .bool false, .bool false, .bool false, .bool false, .bool false, .bool false, .bool false, .bool false, .bool false, .bool false, .bool false, .bool false, .bool false, .bool false, .bool false, .bool false, .bool false, .bool false, .bool false, .bool false, .bool false, .bool false, .bool false, .bool false, .bool false, .bool false, .bool false, .bool false, .bool false, .bool false, .bool false, .bool false, .bool false, .bool false, .bool false, .bool false, .bool false, .bool false, .bool false, .bool false, .bool false, .bool false, .bool false, .bool false, .bool false, .bool false, .bool false, .bool false, .bool false, .bool false, .bool false, .bool false, .bool false, .bool false, .bool false, .bool false, .bool false, .bool false, .bool false, .bool false, .bool false, .bool false, .bool false, .bool false, .bool false, .bool false, .bool false, .bool false, .bool false, .bool false, .bool false, .bool false, .bool false, .bool false, .bool false, .bool false, .bool false, .bool false, .bool false, .bool false, .bool false, .bool false, .bool false, .bool false, .bool false, .bool false, .bool false, .bool false, .bool false, .bool false, .bool false, .bool false, .bool false, .bool false, .bool false, .bool false, .bool false, .bool false, .bool false, .bool false, .bool false, .bool false, .bool false, .bool false, .bool false, .bool false, .bool false, .bool false, .bool false, .bool false, .bool false, .bool false, .bool false, .bool false, .bool false, .bool false, .bool false, .bool false, .bool false, .bool false, .bool false, .bool false, .bool false, .bool false, .bool false, .bool false, .bool false, .bool false, .bool false, .bool false, .bool false, .bool false, .bool false, .bool false, .bool false, .bool false, .bool false, .bool false, .bool false, .bool false, .bool false, .bool false, .bool false, .bool false, .bool false, .bool false, .bool false, .bool false, .bool false, .bool false, .bool false, .bool false, .bool false, .bool false, .bool false, .bool false, .bool false, .bool false, .bool false, .bool false, .bool false, .bool false, .bool false, .bool false, .bool false, .bool false, .bool false, .bool false, .bool false, .bool false, .bool false, .bool false, .bool false, .bool false, .bool false, .bool false, .bool false, .bool false, .bool false, .bool false, .bool false, .bool false, .bool false, .bool false, .bool false, .bool false, .bool false, .bool false, .bool false, .bool false, .bool false, .bool false, .bool false, .bool false, .bool false, .bool false, .bool false]⟩),
 (256, ⟨.other, 1, 8, .nilFunc⟩),
 (257, ⟨.other, 1, 8, .nilFunc⟩),
 (258, ⟨.other, 1, 8, .pointer none⟩),
 (259, ⟨.other, 1, 8, .nilFunc⟩),
 (260, ⟨.other, 1, 8, .nilFunc⟩),
 (261, ⟨.other, 1, 8, .nilFunc⟩),
 (263, ⟨.other, 1, 8, .nilFunc⟩),
 (264, ⟨.other, 1, 8, .nilFunc⟩),
 (265, ⟨.other, 1, 8, .nilFunc⟩),
 (266, ⟨.other, 1, 8, .nilFunc⟩),
 (267, ⟨.other, 1, 8, .nilFunc⟩),
 (268, ⟨.other, 1, 8, .nilFunc⟩),
 (269, ⟨.other, 1, 8, .nilFunc⟩),
 (270, ⟨.ar 4 9, 4, 64, .agg #[.string ⟨#[]⟩, .string ⟨#[]⟩, .string ⟨#[]⟩, .string ⟨#[]⟩]⟩),
 (271, ⟨.other, 1, 8, .nilFunc⟩),
 (272, ⟨.other, 1, 8, .nilFunc⟩),
 (273, ⟨.other, 1, 8, .nilFunc⟩),
 (274, ⟨.other, 1, 8, .nilFunc⟩),
 (275, ⟨.other, 1, 8, .nilFunc⟩),
 (276, ⟨.other, 1, 8, .nilFunc⟩),
 (277, ⟨.other, 1, 8, .nilFunc⟩),
 (278, ⟨.other, 1, 8, .nilFunc⟩),
 (279, ⟨.other, 1, 8, .nilFunc⟩),
 (280, ⟨.other, 1, 8, .nilFunc⟩),
 (282, ⟨.other, 1, 8, .nilFunc⟩),
 (283, ⟨.other, 1, 8, .nilFunc⟩),
 (284, ⟨.other, 1, 8, .nilFunc⟩),
 (285, ⟨.int .i64, 1, 8, .int .i64 0⟩),
 (287, ⟨.other, 1, 8, .nilFunc⟩),
 (288, ⟨.other, 1, 8, .nilFunc⟩),
 (289, ⟨.other, 1, 8, .nilFunc⟩),
 (290, ⟨.other, 1, 8, .nilFunc⟩),
 (291, ⟨.other, 1, 8, .nilFunc⟩),
 (292, ⟨.other, 1, 8, .nilFunc⟩),
 (293, ⟨.other, 1, 8, .nilFunc⟩),
 (294, ⟨.other, 1, 8, .nilFunc⟩),
 (295, ⟨.other, 1, 8, .nilFunc⟩),
 (296, ⟨.other, 1, 8, .nilFunc⟩),
 (297, ⟨.other, 1, 8, .nilFunc⟩),
 (298, ⟨.other, 1, 8, .nilFunc⟩),
 (299, ⟨.other, 1, 8, .nilFunc⟩),
 (301, ⟨.other, 1, 8, .nilFunc⟩),
 (302, ⟨.other, 1, 8, .nilFunc⟩),
 (303, ⟨.int .u64, 1, 8, .int .u64 0⟩),
 (304, ⟨.other, 1, 8, .nilFunc⟩),
 (305, ⟨.other, 1, 8, .nilFunc⟩),
 (306, ⟨.other, 1, 8, .nilFunc⟩),
 (307, ⟨.other, 1, 8, .pointer none⟩),
 (308, ⟨.other, 1, 8, .nilFunc⟩),
 (309, ⟨.other, 1, 8, .nilFunc⟩),
 (310, ⟨.other, 1, 8, .nilFunc⟩),
 (311, ⟨.other, 1, 8, .nilFunc⟩),
 (312, ⟨.other, 1, 8, .nilFunc⟩),
 (313, ⟨.other, 1, 8, .nilFunc⟩),
 (314, ⟨.ar 256 5, 256, 256, .agg #[.int .u8 0, .int .u8 0, .int .u8 0, .int .u8 0, .int .u8 0, .int .u8 0, .int .u8 0, .int .u8 0, .int .u8 0, .int .u8 0, .int .u8 0, .int .u8 0, .int .u8 0, .int .u8 0, .int .u8 0, .int .u8 0, .int .u8 0, .int .u8 0, .int .u8 0, .int .u8 0, .int .u8 0, .int .u8 0, .int .u8 0, .int .u8 0, .int .u8 0, .int .u8 0, .int .u8 0, .int .u8 0, .int .u8 0, .int .u8 0, .int .u8 0, .int .u8 0, .int .u8 0, .int .u8 0, .int .u8 0, .int .u8 0, .int .u8 0, .int .u8 0, .int .u8 0, .int .u8 0, .int .u8 0, .int .u8 0, .int .u8 0, .int .u8 0, .int .u8 0, .int .u8 0, .int .u8 0, .int .u8 0, .int .u8 0, .int .u8 0, .int .u8 0, .int .u8 0, .int .u8 0, .int .u8 0, .int .u8 0, .int .u8 0, .int .u8 0, .int .u8 0, .int .u8 0, .int .u8 0, .int .u8 0, .int .u8 0, .int .u8 0, .int .u8 0, .int .u8 0, .int .u8 0, .int .u8 0, .int .u8 0, .int .u8 0, .int .u8 0, .int .u8 0, .int .u8 0, .int .u8 0, .int .u8 0, .int .u8 0, .int .u8 0, .int .u8 0, .int .u8 0, .int .u8 0, .int .u8 0, .int .u8 0, .int .u8 0, .int .u8 0, .int .u8 0, .int .u8 0, .int .u8 0, .int .u8 0, .int .u8 0, .int .u8 0, .int .u8 0, .int .u8 0, .int .u8 0, .int .u8 0, .int .u8 0, .int .u8 0, .int .u8 0, .int .u8 0, .int .u8 0, .int .u8 0, .int .u8 0, .int .u8 0, .int .u8 0, .int .u8 0, .int .u8 0, .int .u8 0, .int .u8 0, .int .u8 0, .int .u8 0, .int .u8 0, .int .u8 0, .int .u8 0, .int .u8 0, .int .u8 0, .int .u8 0, .int .u8 0, .int .u8 0, .int .u8 0, .int .u8 0, .int .u8 0, .int .u8 0, .int .u8 0, .int .u8 0, .int .u8 0, .int .u8 0, .int .u8 0, .int .u8 0, .int .u8 0, .int .u8 0, .int .u8 0, .int .u8 0, .int .u8 0, .int .u8 0, .int .u8 0, .int .u8 0, .int .u8 0, .int .u8 0, .int .u8 0, .int .u8 0, .int .u8 0, .int .u8 0, .int .u8 0, .int .u8 0, .int .u8 0, .int .u8 0, .int .u8 0, .int .u8 0, .int .u8 0, .int .u8 0, .int .u8 0, .int .u8 0, .int .u8 0, .int .u8 0, .int .u8 0, .int .u8 0, .int .u8 0, .int .u8 0, .int .u8 0, .int .u8 0, .int .u8 0, .int .u8 0, .int .u8 0, .int .u8 0, .int .u8 0, .int .u8 0, .int .u8 0, .int .u8 0, .int .u8 0, .int .u8 0, .int .u8 0, .int .u8 0, .int .u8 0, .int .u8 0, .int .u8 0, .int .u8 0, .int .u8 0, .int .u8 0, .int .u8 0, .int .u8 0, .int .u8 0, .int .u8 0, .int .u8 0, .int .u8 0, .int .u8 0, .int .u8 0, .int .u8 0, .int .u8 0, .int .u8 0, .int .u8 0, .int .u8 0, .int .u8 0, .int .u8 0, .int .u8 0, .int .u8 0, .int .u8 0, .int .u8 0, .int .u8 0, .int .u8 0, .int .u8 0, .int .u8 0, .int .u8 0, .int .u8 0, .int .u8 0, .int .u8 0, .int .u8 0, .int .u8 0, .int .u8 0, .int .u8 0, .int .u8 0, .int .u8 0, .int .u8 0, .int .u8 0, .int .u8 0, .int .u8 0, .int .u8 0, .int .u8 0, .int .u8 0, .int .u8 0, .int .u8 0, .int .u8 0, .int .u8 0, .int .u8 0, .int .u8 0, .int .u8 0, .int .u8 0, .int .u8 0, .int .u8 0, .int .u8 0, .int .u8 0, .int .u8 0, .int .u8 0, .int .u8 0, .int .u8 0, .int .u8 0, .int .u8 0, .int .u8 0, .int .u8 0, .int .u8 0, .int .u8 0, .int .u8 0, .int .u8 0, .int .u8 0, .int .u8 0, .int .u8 0, .int .u8 0, .int .u8 0, .int .u8 0, .int .u8 0, .int .u8 0, .int .u8 0, .int .u8 0, .int .u8 0, .int .u8 0, .int .u8 0, .int .u8 0, .int .u8 0, .int .u8 0]⟩),
 (315, ⟨.st [(5, 0), (5, 1)], 2, 2, .agg #[.int .u8 0, .int .u8 0]⟩),
 (316, ⟨.st [(5, 0), (5, 1)], 2, 2, .agg #[.int .u8 0, .int .u8 0]⟩),
 (317, ⟨.ar 16 316, 32, 32, .agg #[.int .u8 0, .int .u8 0, .int .u8 0, .int .u8 0, .int .u8 0, .int .u8 0, .int .u8 0, .int .u8 0, .int .u8 0, .int .u8 0, .int .u8 0, .int .u8 0, .int .u8 0, .int .u8 0, .int .u8 0, .int .u8 0, .int .u8 0, .int .u8 0, .int .u8 0, .int .u8 0, .int .u8 0, .int .u8 0, .int .u8 0, .int .u8 0, .int .u8 0, .int .u8 0, .int .u8 0, .int .u8 0, .int .u8 0, .int .u8 0, .int .u8 0, .int .u8 0]⟩),
 (318, ⟨.other, 1, 8, .nilFunc⟩),
 (319, ⟨.other, 1, 8, .pointer none⟩),
 (321, ⟨.other, 1, 8, .nilFunc⟩),
 (322, ⟨.other, 1, 8, .nilFunc⟩),
 (323, ⟨.other, 1, 8, .nilFunc⟩),
 (324, ⟨.other, 1, 8, .nilFunc⟩),
 (325, ⟨.other, 1, 8, .nilFunc⟩),
 (328, ⟨.ar 0 16, 0, 0, .agg #[]⟩),
 (331, ⟨.int .u8, 1, 1, .int .u8 0⟩),
 (332, ⟨.int .u8, 1, 1, .int .u8 0⟩),
 (333, ⟨.other, 1, 8, .nilFunc⟩),
 (334, ⟨.other, 1, 8, .pointer none⟩),
 (335, ⟨.int .i32, 1, 4, .int .i32 0⟩),
 (336, ⟨.int .i32, 1, 4, .int .i32 0⟩)
 ]
def ti (t : TypeId) : Option TI := vJ tab t
theorem au : aK Tryz.prog ti := zb Tryz.prog tab (by kernel_rfl)
end Go.Proofs.YtaocnijlcgohnaaGreatDoor
