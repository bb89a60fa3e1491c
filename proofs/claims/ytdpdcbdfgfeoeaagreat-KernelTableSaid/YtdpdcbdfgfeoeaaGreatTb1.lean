/- A part of the proof: N O CH RF1 RF2 RF3 RF4 RF5 RF6 RF7 SM SN RS RG MF Qh Q0 Q1: each text has a comment of its own. -/
import Derived.Test.YtdpdcbdfgfeoeaaGreatTb0
import Derived.LoopN
import Derived.Scope
import Derived.OrdersIn
import Derived.LoopNIn
import Derived.LoopIn
import Derived.RangeFuncIn
import Derived.RangeFuncCalls
import Derived.RangeFuncLeaves
import Derived.Test.YtdpdcbdfgfeoeaaGreatProg
import Derived.KernelRfl
set_option linter.unusedVariables false
set_option linter.unusedSimpArgs false
set_option linter.constructorNameAsVariable false
set_option maxRecDepth 100000
namespace Go.Dd
open Go.RowKit (Below)
section
variable {C : Cfg} {G : Gd} {rec : FuncId → List DV → Hp → aH} {ops : Array Oper} {nt : Nat} {p0 : Pos}
theorem sQ {listed : Array Bool} {i : Nat} : i ∈ Region.ready .any ops listed ↔ i < ops.size ∧ listed.getD i true = false ∧ ∃ o, ops[i]? = some o ∧ ∀ e ∈ o.after, Region.binds .any e = true → listed.getD e.on false = true := by
 unfold Region.ready
 rw [List.mem_filter]
 simp only [List.mem_range, Bool.and_eq_true, Bool.not_eq_eq_eq_not, Bool.not_true]
 constructor
 ·rintro ⟨h1, h2, h3⟩
  refine ⟨h1, h2, ops[i], by simp [h1], fun e he hb => ?_⟩
  simp only [h1, getElem?_pos, Option.map_some, Option.getD_some] at h3
  have := (Array.all_eq_true_iff_forall_mem.1 h3) e he
  simpa [hb] using this
 ·rintro ⟨h1, h2, o, ho, h3⟩
  refine ⟨h1, h2, ?_⟩
  simp only [ho, Option.map_some, Option.getD_some]
  refine Array.all_eq_true_iff_forall_mem.2 fun e he => ?_
  cases hb : Region.binds .any e with
  | false => simp
  | true => simp [h3 e he hb]
noncomputable def idp (C : Cfg) (ops : Array Oper) (p0 : Pos) (p : Nat) : Pos := bN (cG C.P (ops.toList.take p)) p0
structure Tr1 (C : Cfg) (rec : FuncId → List DV → Hp → aH) (ops : Array Oper) (nt : Nat) (p0 : Pos) (E : Nat → aZ) (Hh : Nat → Hp) (V : Nat → DV) : Prop where
 ok : eE C.P ops = true
 st : ∀ p o, ops[p]? = some o → StepT C rec ops (Region.before ops) nt (idp C ops p0 p) E Hh V 0 [(none, Hh 0)] p o
theorem Tr1.same {E : Nat → aZ} {Hh : Nat → Hp} {V : Nat → DV} (T : Tr1 C rec ops nt p0 E Hh V) {p : Nat} {o : Oper} (ho : ops[p]? = some o) (hc : bU C.P o.op ≠ .acts) (hm : bU C.P o.op ≠ .makes) : Hh (p + 1) = Hh p := by
 have hs := (T.st p o ho).step hm
 cases hcl : bU C.P o.op with
 | pure => exact (rX hcl _ _ _ hs).1
 | reads => exact oV hcl hs
 | makes => exact absurd hcl hm
 | acts => exact absurd hcl hc
def dHj (C : Cfg) (ops : Array Oper) (q : Nat) : Prop := q = 0 ∨ ∃ j oj, ops[j]? = some oj ∧ bU C.P oj.op = .acts ∧ q = j + 1
theorem oN {m : Array Nat} {i q : Nat} {Pv : Hp → Prop} {Hh : Nat → Hp} {tl : List (Option Nat × Hp)} : ∀ d, q ≤ d → sK m i Pv (iX C ops Hh 0 d ++ tl) →
  (∀ j oj, ops[j]? = some oj → bU C.P oj.op = .acts → q ≤ j → j < d → ¬ gL m j i = true) → sK m i Pv (iX C ops Hh 0 q ++ tl)
 | 0, hq, hc, _ => by have : q = 0 := by omega
                      subst this; exact hc
 | d + 1, hq, hc, hno => by
  by_cases e : q = d + 1
  ·subst e; exact hc
  ·have hq' : q ≤ d := by omega
   simp only [iX, Nat.zero_add] at hc
   cases ha : jW C ops d with
   | false =>
    rw [ha] at hc
    simp only [Bool.false_eq_true, if_false, List.nil_append] at hc
    exact oN d hq' hc fun j oj h1 h2 h3 h4 => hno j oj h1 h2 h3 (by omega)
   | true =>
    rw [ha] at hc
    simp only [if_true, List.cons_append, List.nil_append] at hc
    obtain ⟨_, h2⟩ := hc
    have ⟨oj, hoj, hcj⟩ : ∃ oj, ops[d]? = some oj ∧ bU C.P oj.op = .acts := by
     unfold jW at ha
     split at ha
     ·rename_i o ho; exact ⟨o, ho, by simpa using ha⟩
     ·cases ha
    rcases h2 with h2 | h2
    ·exact absurd h2 (hno d oj hoj hcj hq' (by omega))
    ·exact oN d hq' h2 fun j oj h1 h2 h3 h4 => hno j oj h1 h2 h3 (by omega)
theorem Tr1.value {E : Nat → aZ} {Hh : Nat → Hp} {V : Nat → DV} (T : Tr1 C rec ops nt p0 E Hh V) {listed : Array Bool} {i q : Nat} {o : Oper} (ho : ops[i]? = some o) (hc : bU C.P o.op ≠ .acts) (hm : bU C.P o.op ≠ .makes)
  (hq : dHj C ops q) (hgap : ∀ j oj, ops[j]? = some oj → bU C.P oj.op = .acts → (j < q ↔ S listed j))
  (hni : ¬ S listed i) (hdown : ∀ j x, gL (Region.before ops) j x = true → S listed x → S listed j) (hpre : ∀ j, gL (Region.before ops) j i = true → S listed j) :
  bH C rec ops o (E i) (Hh q) = some (V i, Hh q) := by
 have hst := T.st i o ho
 cases hcl : bU C.P o.op with
 | acts => exact absurd hcl hc
 | makes => exact absurd hcl hm
 | pure => exact (rX hcl _ _ _ (hst.step hm)).2 _
 | reads =>
  rcases Nat.lt_or_ge i q with h | h
  ·rcases hq with rfl | ⟨j, oj, hj, haj, rfl⟩
   ·omega
   ·have hSj : S listed j := (hgap j oj hj haj).1 (by omega)
    have hij : i ≠ j := fun e => by subst e; exact hni hSj
    rcases (T.st j oj hj).acts haj i o (Nat.zero_le _) (by omega) ho hcl with h3 | h3
    ·exact absurd (hdown i j h3 hSj) hni
    ·exact sX hcl h3
  ·have h1 := hst.reads hcl
   rw [Nat.sub_zero] at h1
   have h2 := oN (q := q) i h h1 fun j oj hj haj hqj hji hord => by
    have := (hgap j oj hj haj).2 (hpre j hord)
    omega
   rcases hq with rfl | ⟨j, oj, hj, haj, rfl⟩
   ·exact h2.1
   ·simp only [iX, Nat.zero_add, (bMz hj).2 haj, if_true, List.cons_append, List.nil_append] at h2
    exact h2.1
theorem dFh {listed : Array Bool} {i j : Nat} (hi : i < listed.size) : S (listed.setIfInBounds i true) j ↔ (j = i ∨ S listed j) := by
 unfold S
 by_cases e : j = i
 ·subst e; simp [hi]
 ·simp [Array.getElem?_setIfInBounds_ne (Ne.symm e), e]
theorem sO {listed : Array Bool} {i : Nat} (hi : i < listed.size) : listed.getD i true = listed.getD i false := by
 simp [hi]
theorem dLb {V : Nat → DV} {env : aZ} {listed : Array Bool} {i : Nat} {o : Oper} (ho : ops[i]? = some o) (hi : i < listed.size) (hni : ¬ S listed i) (t : Nat)
  (hlast : ∀ j oj, i < j → ops[j]? = some oj → oj.dst = some t → o.dst = some t → ¬ S listed j) :
  ∀ p, i < p → TS ops V env (listed.setIfInBounds i true) p t = if o.dst = some t then V i else TS ops V env listed p t := by
 have hbefore : ∀ p, p ≤ i → TS ops V env (listed.setIfInBounds i true) p = TS ops V env listed p := by
  intro p
  induction p with
  | zero => intro _; rfl
  | succ p ih =>
   intro h
   have e : (listed.setIfInBounds i true).getD p false = listed.getD p false := by simp [Array.getElem?_setIfInBounds_ne (show i ≠ p by omega)]
   simp only [TS, ih (by omega), e]
 intro p
 induction p with
 | zero => intro h; omega
 | succ p ih =>
  intro h
  by_cases hpi : p = i
  ·subst hpi
   have e1 : (listed.setIfInBounds p true).getD p false = true := by simp [hi]
   have e2 : ¬ listed.getD p false = true := hni
   simp only [TS, ho, hbefore p (Nat.le_refl _), e1, if_true, lT]
   rw [if_neg e2]
  ·have ih' := ih (by omega)
   have e : (listed.setIfInBounds i true).getD p false = listed.getD p false := by simp [Array.getElem?_setIfInBounds_ne (Ne.symm hpi)]
   cases hop : ops[p]? with
   | none => simp only [TS, hop]; exact ih'
   | some op =>
    simp only [TS, hop, e]
    split
    ·rename_i hl
     rw [lT, lT, ih']
     by_cases hd : op.dst = some t
     ·rw [if_pos hd, if_pos hd]
      by_cases hod : o.dst = some t
      ·exact absurd hl (hlast p op (by omega) hop hd hod)
      ·rw [if_neg hod]
     ·rw [if_neg hd, if_neg hd]
    ·exact ih'
def iY (C : Cfg) (ops : Array Oper) (listed : Array Bool) (q i : Nat) : Prop := ∃ o, ops[i]? = some o ∧ bU C.P o.op = .makes ∧ S listed i ∧ q ≤ i
def GX (G : Gd) (N : Nat) (C : Cfg) (ops : Array Oper) (listed : Array Bool) (R : Nat → Nat) (q : Nat) : Gd := ⟨G.B, fun k => G.X k ∨ ∃ i, iY C ops listed q i ∧ R i = k, N, G.W, G.ok⟩
structure Made (G : Gd) (C : Cfg) (ops : Array Oper) (p0 : Pos) (Hh : Nat → Hp) (ρ : cN) (w : World) (R : Nat → Nat) (i : Nat) : Prop where
 name : ρ (idp C ops p0 i) = some ⟨R i, 0, 0, none⟩
 low : G.B ≤ R i
 ex : ¬ G.X (R i)
 row : ∃ (x0 : Obj) (ob : Ob), w.heap[R i]? = some x0 ∧ MO ρ ob x0 ∧ Hh (i + 1) = ⟨(Hh i).next, Tr.set ob (idp C ops p0 i) (Hh i).bl⟩
theorem aPu {E : Nat → aZ} {Hh : Nat → Hp} {V : Nat → DV} (T : Tr1 C rec ops nt p0 E Hh V) {listed : Array Bool} {R : Nat → Nat} {N q : Nat} {ρ : cN} {w : World}
  (hmade : ∀ i, iY C ops listed q i → Made G C ops p0 Hh ρ w R i) (hdist : ∀ i i', iY C ops listed q i → iY C ops listed q i' → R i = R i' → i = i') :
  ∀ p, q ≤ p → p ≤ ops.size → (∀ j oj, ops[j]? = some oj → q ≤ j → j < p → bU C.P oj.op ≠ .acts ∧ (bU C.P oj.op = .makes → S listed j)) →
  HR (GX G N C ops listed R q) ρ (Hh q) w → HR (GX G N C ops listed R p) ρ (Hh p) w := by
 intro p
 induction p with
 | zero => intro h1 _ _ H; have : q = 0 := by omega
           subst this; exact H
 | succ p ih =>
  intro h1 h2 hr H
  by_cases e : q = p + 1
  ·subst e; exact H
  ·have H' := ih (by omega) (by omega) (fun j oj hj hq hjp => hr j oj hj hq (by omega)) H
   obtain ⟨o, ho⟩ : ∃ o, ops[p]? = some o := ⟨ops[p], by simp [show p < ops.size by omega]⟩
   obtain ⟨ha, hm⟩ := hr p o ho (by omega) (by omega)
   have hsub : ∀ k, (GX G N C ops listed R (p + 1)).X k → (GX G N C ops listed R p).X k := by
    rintro k (hk | ⟨i, ⟨oi, h3, h4, h5, h6⟩, h7⟩)
    ·exact .inl hk
    ·exact .inr ⟨i, ⟨oi, h3, h4, h5, by omega⟩, h7⟩
   by_cases hmk : bU C.P o.op = .makes
   ·have hE : iY C ops listed q p := ⟨o, ho, hmk, hm hmk, by omega⟩
    have hM := hmade p hE
    obtain ⟨x0, ob, r1, r2, r3⟩ := hM.row
    rw [r3]
    refine eNz (G := GX G N C ops listed R (p + 1)) H' rfl hsub (Nat.le_refl _) rfl hM.name r1 r2 hM.low ?_ (.inr ⟨p, ⟨o, ho, hmk, hm hmk, Nat.le_refl _⟩, rfl⟩)
    rintro (hk | ⟨i, ⟨oi, h3, h4, h5, h6⟩, h7⟩)
    ·exact hM.ex hk
    ·have := hdist i p ⟨oi, h3, h4, h5, by omega⟩ hE h7
     omega
   ·rw [T.same ho ha hmk]
    exact H'.weak rfl hsub (Nat.le_refl _) rfl
def Inv (DD : List Deferred) (C : Cfg) (G : Gd) (ops : Array Oper) (nt : Nat) (p0 : Pos) (N : Nat) (E : Nat → aZ) (Hh : Nat → Hp) (V : Nat → DV) (ρ : cN) (w0 : World) (listed : Array Bool) (a : Act) (w : World) : Prop :=
 listed.size = ops.size ∧ (∀ j x, gL (Region.before ops) j x = true → S listed x → S listed j) ∧
 ∃ q, q ≤ ops.size ∧ dHj C ops q ∧ (∀ j oj, ops[j]? = some oj → bU C.P oj.op = .acts → (j < q ↔ S listed j)) ∧
 ∃ (ρ' : cN) (R : Nat → Nat), Ex G ρ ρ' ∧ HR (GX G N C ops listed R q) ρ' (Hh q) w ∧ EnvR ρ' (TS ops V (E 0) listed ops.size) a ∧ Kp G w0 w ∧ nt ≤ a.tmps.size ∧ a.defers = DD ∧
  (∀ i o, ops[i]? = some o → bU C.P o.op = .makes → ¬ S listed i → ρ' (idp C ops p0 i) = none) ∧
  (∀ i, iY C ops listed q i → Made G C ops p0 Hh ρ' w R i) ∧ (∀ i i', iY C ops listed q i → iY C ops listed q i' → R i = R i' → i = i')
theorem cKn {i : Nat} {o : Oper} (ho : ops[i]? = some o) (hm : bU C.P o.op = .makes) : (idp C ops p0 i).toNat < p0.toNat + cG C.P ops.toList := by
 unfold idp
 rw [dJ]
 have hlt : i < ops.toList.length := by
  rcases Nat.lt_or_ge i ops.toList.length with h | h
  ·exact h
  ·simp at h; simp [Array.getElem?_eq_none h] at ho
 have key : ∀ (l : List Oper) (i : Nat), l[i]? = some o → cG C.P (l.take i) < cG C.P l := by
  intro l
  induction l with
  | nil => intro i h; simp at h
  | cons x l ih =>
   intro i h
   cases i with
   | zero => simp at h; subst h; simp [cG, hm]; omega
   | succ i => simp at h; have := ih i h; simp only [List.take_succ_cons, cG]; omega
 have := key ops.toList i (by simpa using ho)
 omega
theorem dOh {i i' : Nat} {o o' : Oper} (ho : ops[i]? = some o) (hm : bU C.P o.op = .makes) (ho' : ops[i']? = some o') (hm' : bU C.P o'.op = .makes) (hne : i ≠ i') : idp C ops p0 i ≠ idp C ops p0 i' := by
 have key : ∀ (l : List Oper) (i j : Nat) (o : Oper), l[i]? = some o → bU C.P o.op = .makes → i < j → cG C.P (l.take i) < cG C.P (l.take j) := by
  intro l
  induction l with
  | nil => intro i j o h; simp at h
  | cons x l ih =>
   intro i j o h hm hij
   cases j with
   | zero => omega
   | succ j =>
    cases i with
    | zero => simp at h; subst h; simp only [List.take_succ_cons, cG, hm, List.take_zero]; omega
    | succ i => simp at h; have := ih i j o h hm (by omega); simp only [List.take_succ_cons, cG]; omega
 intro e
 have e' := congrArg Pos.toNat e
 unfold idp at e'
 rw [dJ, dJ] at e'
 rcases Nat.lt_or_ge i i' with h | h
 ·have := key ops.toList i i' o (by simpa using ho) hm h; omega
 ·have := key ops.toList i' i o' (by simpa using ho') hm' (by omega); omega
theorem bZx {DD : List Deferred} (K : OkC C rec) {N : Nat} {E : Nat → aZ} {Hh : Nat → Hp} {V : Nat → DV} (T : Tr1 C rec ops nt p0 E Hh V) (hN : N = p0.toNat + cG C.P ops.toList) (hGN : G.N ≤ p0.toNat) {ρ : cN} {w0 : World} {Q : Exit → Act → World → Prop}
  (hQ : ∀ ρ' a' w', Ex G ρ ρ' → HR G ρ' (Hh ops.size) w' → EnvR ρ' (E ops.size) a' → Kp G w0 w' → nt ≤ a'.tmps.size → a'.defers = DD → Q .normal a' w') :
  ∀ (fuel : Nat) (listed : Array Bool) (a : Act) (w : World), Inv DD C G ops nt p0 N E Hh V ρ w0 listed a w → ((List.range ops.size).filter fun i => !listed.getD i false).length ≤ fuel → wpAny C.P .any ops Q fuel listed a w := by
 have hlt : ∀ p, p < ops.size → ∃ o, ops[p]? = some o := fun p hp => ⟨ops[p], by simp [hp]⟩
 have hin : ∀ (j : Nat) oj, ops[j]? = some oj → j < ops.size := fun j oj hj => by
  rcases Nat.lt_or_ge j ops.size with h | h
  ·exact h
  ·simp [Array.getElem?_eq_none h] at hj
 have hend : ∀ listed a w, Inv DD C G ops nt p0 N E Hh V ρ w0 listed a w → (∀ i, i < ops.size → S listed i) → Q .normal a w := by
  rintro listed a w ⟨hsz, hdown, q, hq, hcand, hgap, ρ', R, h1, h2, h3, h4, h5, h6, h7, h8, h9⟩ hall
  have hH := aPu (G := G) T h8 h9 ops.size hq (Nat.le_refl _) (fun j oj hj hqj hjn => ⟨fun ha => by
   have := (hgap j oj hj ha).2 (hall j hjn)
   omega, fun _ => hall j hjn⟩) h2
  have hE : ∀ t, TS ops V (E 0) listed ops.size t = E ops.size t := fun t =>
   cHp (E := E) rfl (fun p o hp ho => (T.st p o ho).env) (fun p hp => hlt p hp) (fun j o hj _ _ => hall j hj) ops.size (Nat.le_refl _)
  refine hQ ρ' a w h1 (hH.weak rfl (fun k hk => .inl hk) (by show G.N ≤ N; omega) rfl) (fun t => ?_) h4 h5 h6
  rw [← hE t]
  exact h3 t
 have hready : ∀ listed, listed.size = ops.size → Region.ready .any ops listed = [] → ∀ i, i < ops.size → S listed i := by
  intro listed hsz hr i
  induction i using Nat.strongRecOn with
  | _ i ih =>
   intro hi
   obtain ⟨o, ho⟩ := hlt i hi
   by_cases hs : S listed i
   ·exact hs
   ·exfalso
    have hmem : i ∈ Region.ready .any ops listed := by
     rw [sQ]
     refine ⟨hi, ?_, o, ho, fun e he hb => ?_⟩
     ·rw [sO (by omega)]
      unfold S at hs
      simpa using hs
     ·have := (dN T.ok ho).1 e he hb
      exact ih e.on this (by omega)
    rw [hr] at hmem
    cases hmem
 intro fuel
 induction fuel with
 | zero =>
  intro listed a w hI hfuel
  have hall : ∀ i, i < ops.size → S listed i := by
   intro i hi
   by_cases hs : S listed i
   ·exact hs
   ·exfalso
    have : i ∈ (List.range ops.size).filter fun i => !listed.getD i false := by
     rw [List.mem_filter]
     refine ⟨by simpa using hi, ?_⟩
     unfold S at hs
     simpa using hs
    have := List.length_pos_of_mem this
    omega
  refine ⟨?_, hend listed a w hI hall⟩
  cases hr : Region.ready .any ops listed with
  | nil => rfl
  | cons x xs =>
   have hx : x ∈ Region.ready .any ops listed := by rw [hr]; simp
   rw [sQ] at hx
   have := hall x hx.1
   rw [sO (by rw [hI.1]; exact hx.1)] at hx
   unfold S at this
   rw [this] at hx
   cases hx.2.1
 | succ fuel ih =>
  intro listed a w hI hfuel
  refine ⟨fun hr => hend listed a w hI (hready listed hI.1 hr), fun i hi => ?_⟩
  obtain ⟨hsz, hdown, q, hq, hcand, hgap, ρ', R, h1, h2, h3, h4, h5, h6, h7, h8, h9⟩ := hI
  rw [sQ] at hi
  obtain ⟨hisz, hni, o, ho, hpre0⟩ := hi
  rw [sO (by omega)] at hni
  have hnS : ¬ S listed i := by unfold S; rw [hni]; simp
  have hpre : ∀ j, gL (Region.before ops) j i = true → S listed j := by
   intro j hj
   obtain ⟨e, he, hb, h | h⟩ := aQa ho hj
   ·rw [← h]; exact hpre0 e he hb
   ·exact hdown j e.on h (hpre0 e he hb)
  have hst := T.st i o ho
  have hlook : ∀ t ∈ o.looksAt ops, TS ops V (E 0) listed ops.size t = E i t := by
   intro t ht
   rw [dAg (i := i) (fun j oj hij hj hd hS => ?_) ops.size (by omega)]
   ·exact cHp (E := E) rfl (fun p op hp hop => (T.st p op hop).env) (fun p hp => hlt p (by omega)) (fun j oj hj hoj hd => by
     rcases (dN T.ok ho).2.2 j oj hj hoj with h | ⟨h, _⟩
     ·exact hpre j h
     ·exact absurd ht ((Oper.apart_spec h).1 t hd)) i (Nat.le_refl _)
   ·rcases Nat.eq_or_lt_of_le hij with e | e
    ·subst e; exact hnS hS
    ·rcases (dN T.ok hj).2.2 i o e ho with h | ⟨h, _⟩
     ·exact hnS (hdown i j h hS)
     ·exact absurd ht ((Oper.apart_spec h).2.2 t hd)
  have hmkq : ∀ j oj, ops[j]? = some oj → bU C.P oj.op = .makes → j < q → S listed j := by
   intro j oj hj hmj hjq
   rcases hcand with rfl | ⟨l, ol, hl, hal, rfl⟩
   ·omega
   ·have hSl : S listed l := (hgap l ol hl hal).1 (by omega)
    have hjl : j ≠ l := fun e => by subst e; rw [hl] at hj; cases hj; rw [hal] at hmj; cases hmj
    rcases (dN T.ok hl).2.2 j oj (by omega) hj with h | ⟨_, h⟩
    ·exact hdown j l h hSl
    ·exact absurd ⟨.inr hmj, hal⟩ h
  have hdown' : ∀ j x, gL (Region.before ops) j x = true → S (listed.setIfInBounds i true) x → S (listed.setIfInBounds i true) j := by
   intro j x hjx hx
   rw [dFh (by omega)] at hx ⊢
   rcases hx with rfl | hx
   ·exact .inr (hpre j hjx)
   ·exact .inr (hdown j x hjx hx)
  have hTS : ∀ (ρ2 : cN) (v2 : Value), Ext ρ' ρ2 → VR ρ2 (V i) v2 → EnvR ρ2 (TS ops V (E 0) (listed.setIfInBounds i true) ops.size) (a.put o.dst v2) := by
   intro ρ2 v2 e1 e2 t
   rw [dLb ho (by omega) hnS t (fun j oj hij hj hd hod hS => by
    rcases (dN T.ok hj).2.2 i o hij ho with h | ⟨h, _⟩
    ·exact hnS (hdown i j h hS)
    ·exact (Oper.apart_spec h).2.1 t hod hd) ops.size (by omega)]
   have := EnvR.put h3 e1 e2 hst.fits h5 t
   rwa [lT] at this
  have hcount : ((List.range ops.size).filter fun j => !(listed.setIfInBounds i true).getD j false).length ≤ fuel := by
   have hmem : i ∈ (List.range ops.size).filter fun i => !listed.getD i false := by
    rw [List.mem_filter]
    exact ⟨by simpa using hisz, by simp [hni]⟩
   have hle : ((List.range ops.size).filter fun j => !(listed.setIfInBounds i true).getD j false).length < ((List.range ops.size).filter fun j => !listed.getD j false).length := by
    have hsub : ((List.range ops.size).filter fun j => !(listed.setIfInBounds i true).getD j false) = ((List.range ops.size).filter fun j => !listed.getD j false).filter (fun j => j != i) := by
     rw [List.filter_filter]
     apply List.filter_congr
     intro j hj
     by_cases e : j = i
     ·subst e; simp [show j < listed.size by omega]
     ·simp [Array.getElem?_setIfInBounds_ne (Ne.symm e), e]
    rw [hsub]
    exact List.length_filter_lt_length_iff_exists.2 ⟨i, hmem, by simp⟩
   omega
  have hS' : ∀ j, S (listed.setIfInBounds i true) j ↔ (j = i ∨ S listed j) := fun j => dFh (by omega)
  by_cases hmk : bU C.P o.op = .makes
  ·
   have hqi : q ≤ i := by
    rcases Nat.lt_or_ge i q with h | h
    ·exact absurd (hmkq i o ho hmk h) hnS
    ·exact h
   have hg := (dN T.ok ho).2.1 hmk
   have hbn := h7 i o ho hmk hnS
   have hst1 := hst.made hmk
   have hext : Ext ρ' (mH ρ' (idp C ops p0 i) ⟨w.heap.size, 0, 0, none⟩) := by
    intro x L hx
    by_cases e : x = idp C ops p0 i
    ·subst e; rw [hbn] at hx; cases hx
    ·rw [aV _ _ e]; exact hx
   have hE0 : dQ C o (idp C ops p0 i) (TS ops V (E 0) listed ops.size) (Hh i) = some (V i, Hh (i + 1)) := by
    rw [← hst1]
    refine aAx fun x hx => aBe fun t ht => hlook t ?_
    unfold Oper.looksAt
    refine List.mem_append_left _ (List.mem_filterMap.2 ⟨x, by simpa using hx, ?_⟩)
    rw [ht]
   obtain ⟨ob, x0, v', m1, m2, m3, m4⟩ := dNb (w := w) h3 hE0 hbn
   have hidlt := cKn (p0 := p0) ho hmk
   have H2 := h2.early hbn (by have := h2.nx; simp only [GX] at this; omega) x0
   unfold wpOp
   simp only [ho]
   rw [if_pos (by simp [Region.wanted, hg])]
   refine .inl ?_
   unfold Oper.wp
   rw [m1]
   show wpAny C.P .any ops Q fuel (listed.setIfInBounds i true) (a.put o.dst v') (w.alloc x0)
   have hEarly : ∀ j, iY C ops (listed.setIfInBounds i true) q j → j = i ∨ iY C ops listed q j := by
    rintro j ⟨oj, e1, e2, e3, e4⟩
    rcases (hS' j).1 e3 with e | e
    ·exact .inl e
    ·exact .inr ⟨oj, e1, e2, e, e4⟩
   have hRlt : ∀ j, iY C ops listed q j → R j < w.heap.size := fun j hj => h2.sz.2 _ (.inr ⟨j, hj, rfl⟩)
   have hjne : ∀ j, iY C ops listed q j → j ≠ i := by
    rintro j ⟨oj, e1, e2, e3, e4⟩ e
    subst e; exact hnS e3
   refine ih _ _ _ ⟨by simpa using hsz, hdown', q, hq, hcand, fun j oj hj haj => ?_, mH ρ' (idp C ops p0 i) ⟨w.heap.size, 0, 0, none⟩, fun j => if j = i then w.heap.size else R j, ?_, ?_, hTS _ _ hext m4, ?_, by rw [lG]; exact h5, by rw [iP]; exact h6, ?_, ?_, ?_⟩ hcount
   ·rw [hS' j, hgap j oj hj haj]
    constructor
    ·exact .inr
    ·rintro (h | h)
     ·subst h; rw [ho] at hj; cases hj; rw [hmk] at haj; cases haj
     ·exact h
   ·refine h1.trans ⟨hext, fun b L hb => ?_⟩
    by_cases e : b = idp C ops p0 i
    ·right
     rw [e]
     unfold idp
     rw [dJ]
     omega
    ·rw [aV _ _ e] at hb; exact .inl hb
   ·refine H2.weak rfl ?_ (Nat.le_refl _) rfl
    rintro k (hk | ⟨j, hj, hjk⟩)
    ·exact .inl (.inl hk)
    ·rcases hEarly j hj with rfl | hj'
     ·right; simpa using hjk.symm
     ·left; right
      refine ⟨j, hj', ?_⟩
      simpa [hjne j hj'] using hjk
   ·exact h4.trans (dV (G := G) ⟨h2.sz.1, fun k hk => h2.sz.2 k (.inl hk)⟩ _)
   ·intro j oj hj hmj hSj
    have hji : j ≠ i := fun e => hSj ((hS' j).2 (.inl e))
    rw [aV _ _ (dOh hj hmj ho hmk hji)]
    exact h7 j oj hj hmj fun h => hSj ((hS' j).2 (.inr h))
   ·intro j hj
    rcases hEarly j hj with rfl | hj'
    ·refine ⟨by simp [cB], by simp; exact h2.sz.1, ?_, x0, ob, ?_, m2.mono hext, m3⟩
     ·simp only [if_true]
      intro hx
      have := h2.sz.2 _ (.inl hx)
      omega
     ·simp only [if_true]
      show (w.heap.push _)[w.heap.size]? = _
      simp
    ·have hM := h8 j hj'
     obtain ⟨x1, ob1, r1, r2, r3⟩ := hM.row
     have hji := hjne j hj'
     refine ⟨?_, by simp [hji]; exact hM.low, by simp [hji]; exact hM.ex, x1, ob1, ?_, r2.mono hext, r3⟩
     ·simp only [hji, if_false]; exact hext _ _ hM.name
     ·simp only [hji, if_false]
      rw [Below.heap_alloc _ _ _ (hRlt j hj')]
      exact r1
   ·intro j j' hj hj' he
    rcases hEarly j hj with rfl | hj1
    ·rcases hEarly j' hj' with rfl | hj1'
     ·rfl
     ·simp only [if_true, hjne j' hj1', if_false] at he
      have := hRlt j' hj1'
      omega
    ·rcases hEarly j' hj' with rfl | hj1'
     ·simp only [if_true, hjne j hj1, if_false] at he
      have := hRlt j hj1
      omega
     ·simp only [hjne j hj1, hjne j' hj1', if_false] at he
      exact h9 j j' hj1 hj1' he
  ·
   have hstep : ∃ q1 q2, q ≤ q1 ∧ q1 ≤ ops.size ∧ q2 ≤ ops.size ∧ q1 ≤ q2 ∧ dHj C ops q2 ∧ HR (GX G N C ops listed R q1) ρ' (Hh q1) w ∧
     bH C rec ops o (TS ops V (E 0) listed ops.size) (Hh q1) = some (V i, Hh q2) ∧
     (∀ j oj, ops[j]? = some oj → bU C.P oj.op = .acts → (j < q2 ↔ S (listed.setIfInBounds i true) j)) ∧
     (∀ j, iY C ops (listed.setIfInBounds i true) q2 j → iY C ops listed q1 j) := by
    rw [show bH C rec ops o (TS ops V (E 0) listed ops.size) = bH C rec ops o (E i) from funext fun h => aOj hlook]
    by_cases ha : bU C.P o.op = .acts
    ·have hqi : q ≤ i := by
      rcases Nat.lt_or_ge i q with h | h
      ·exact absurd ((hgap i o ho ha).1 h) hnS
      ·exact h
     refine ⟨i, i + 1, hqi, by omega, by omega, by omega, .inr ⟨i, o, ho, ha, rfl⟩, ?_, hst.step hmk, fun j oj hj haj => ?_, ?_⟩
     ·refine aPu (G := G) T h8 h9 i hqi (by omega) (fun j oj hj hqj hji => ⟨fun haj => ?_, fun hmj => ?_⟩) h2
      ·rcases (dN T.ok ho).2.2 j oj hji hj with h | ⟨_, h⟩
       ·have := (hgap j oj hj haj).2 (hpre j h); omega
       ·exact absurd ⟨.inl haj, ha⟩ h
      ·rcases (dN T.ok ho).2.2 j oj hji hj with h | ⟨_, h⟩
       ·exact hpre j h
       ·exact absurd ⟨.inr hmj, ha⟩ h
     ·rw [hS' j]
      constructor
      ·intro hlt'
       by_cases e : j = i
       ·exact .inl e
       ·right
        rcases (dN T.ok ho).2.2 j oj (by omega) hj with h | ⟨_, h⟩
        ·exact hpre j h
        ·exact absurd ⟨.inl haj, ha⟩ h
      ·rintro (h | h)
       ·omega
       ·rcases Nat.lt_or_ge i j with hij | hij
        ·rcases (dN T.ok hj).2.2 i o hij ho with h' | ⟨_, h'⟩
         ·exact absurd (hdown i j h' h) hnS
         ·exact absurd ⟨.inl ha, haj⟩ h'
        ·omega
     ·rintro j ⟨oj, e1, e2, e3, e4⟩
      rcases (hS' j).1 e3 with e | e
      ·omega
      ·exact ⟨oj, e1, e2, e, by omega⟩
    ·refine ⟨q, q, Nat.le_refl _, hq, hq, Nat.le_refl _, hcand, h2, T.value ho ha hmk hcand hgap hnS hdown hpre, fun j oj hj haj => ?_, ?_⟩
     ·rw [hS' j, hgap j oj hj haj]
      constructor
      ·exact .inr
      ·rintro (h | h)
       ·subst h; rw [ho] at hj; cases hj; exact absurd haj ha
       ·exact h
     ·rintro j ⟨oj, e1, e2, e3, e4⟩
      rcases (hS' j).1 e3 with e | e
      ·subst e; rw [ho] at e1; cases e1; exact absurd e2 hmk
      ·exact ⟨oj, e1, e2, e, e4⟩
   obtain ⟨q1, q2, k1, k2, k2', k12, k3, k4, k5, k6, k7⟩ := hstep
   refine tZ (vW K k4 h3 k5) rfl ho k4 fun ρ2 w2 v2 e1 e2 e3 e4 => ?_
   have hEq : ∀ j, iY C ops listed q1 j → iY C ops listed q j := by
    rintro j ⟨oj, f1, f2, f3, f4⟩
    exact ⟨oj, f1, f2, f3, by omega⟩
   refine ih _ _ _ ⟨by simpa using hsz, hdown', q2, k2', k3, k6, ρ2, R, ?_, ?_, hTS _ _ e1.ext e2, ?_, by rw [lG]; exact h5, by rw [iP]; exact h6, ?_, ?_, ?_⟩ hcount
   ·refine h1.trans ⟨e1.ext, fun b L hb => (e1.new b L hb).imp id fun h => ?_⟩
    simp only [GX] at h
    omega
   ·refine e3.weak rfl ?_ (Nat.le_refl _) rfl
    rintro k (hk | ⟨j, hj, hjk⟩)
    ·exact .inl hk
    ·exact .inr ⟨j, k7 j hj, hjk⟩
   ·exact h4.trans ⟨e4.low, fun k hk => e4.ex k (.inl hk)⟩
   ·intro j oj hj hmj hSj
    have hn := h7 j oj hj hmj fun h => hSj ((hS' j).2 (.inr h))
    cases hr : ρ2 (idp C ops p0 j) with
    | none => rfl
    | some L =>
     rcases e1.new _ _ hr with h | h
     ·rw [hn] at h; cases h
     ·have := cKn (p0 := p0) hj hmj
      simp only [GX] at h
      omega
   ·intro j hj
    have hj1 := k7 j hj
    have hM := h8 j (hEq j hj1)
    obtain ⟨x1, ob1, r1, r2, r3⟩ := hM.row
    exact ⟨e1.ext _ _ hM.name, hM.low, hM.ex, x1, ob1, by rw [e4.ex _ (.inr ⟨j, hj1, rfl⟩)]; exact r1, r2.mono e1.ext, r3⟩
   ·intro j j' hj hj' he
    exact h9 j j' (hEq j (k7 j hj)) (hEq j' (k7 j' hj')) he
theorem yI {DD : List Deferred} (K : OkC C rec) {k : Dd.K} {r : DV × Hp} {env : aZ} {h : Hp} {ρ : cN} {a : Act} {w : World} {Q : Exit → Act → World → Prop}
  (hok : eE C.P ops = true) (hp : gQ C rec nt ops k env h = some r) (H : HR G ρ h w) (he : EnvR ρ env a) (hnt : nt ≤ a.tmps.size) (hd : a.defers = DD)
  (hQ : ∀ ρ' env' h' a' w', Ex G ρ ρ' → HR G ρ' h' w' → EnvR ρ' env' a' → Kp G w w' → nt ≤ a'.tmps.size → a'.defers = DD → k env' h' = some r → Q .normal a' w') :
  wpAny C.P .any ops Q ops.size (Array.replicate ops.size false) a { w with drawn := w.drawn + 1 } := by
 obtain ⟨E, Hh, V, e1, e2, e3, e4⟩ := sU (p0 := h.next) ops.toList 0 0 false [] _ env _ r hp (by simp) (fun _ => ⟨_, _, rfl⟩)
 simp only [Nat.zero_add, Array.length_toList, Nat.sub_zero] at e3 e4
 have T : Tr1 C rec ops nt h.next E Hh V := ⟨hok, fun p o ho => by
  have := (e4 p o (Nat.zero_le _) (by
   rcases Nat.lt_or_ge p ops.size with h | h
   ·exact h
   ·simp [Array.getElem?_eq_none h] at ho) ho).1
  rw [← e2] at this
  exact this⟩
 obtain ⟨n1, n2⟩ := rK (cG C.P ops.toList) h
 have hNN : (resv (cG C.P ops.toList) h).next.toNat = h.next.toNat + cG C.P ops.toList := by rw [n1, dJ]
 refine (bZx (G := G) K T rfl H.nx (ρ := ρ) (w0 := w) (fun ρ' a' w' h1 h2 h3 h4 h5 h6 => hQ ρ' _ _ a' w' h1 h2 h3 h4 h5 h6 e3) ops.size _ a _ ?_ ?_)
 ·have hno : ∀ j, ¬ S (Array.replicate ops.size false) j := by
   intro j hj
   unfold S at hj
   simp [Array.getElem?_replicate] at hj
   split at hj <;> simp at hj
  have hnoE : ∀ j, ¬ iY C ops (Array.replicate ops.size false) 0 j := by
   rintro j ⟨oj, _, _, h3, _⟩
   exact hno j h3
  refine ⟨by simp, fun j x _ hx => absurd hx (hno x), 0, Nat.zero_le _, .inl rfl, fun j oj hj ha => ⟨fun h => by omega, fun h => absurd h (hno j)⟩, ρ, fun _ => 0, Ex.refl G ρ, ?_, ?_, ?_, hnt, hd, ?_, fun j hj => absurd hj (hnoE j), fun j j' hj => absurd hj (hnoE j)⟩
  ·rw [e2]
   have := (H.reserve (cG C.P ops.toList)).congr (w' := { w with drawn := w.drawn + 1 }) rfl
   rw [hNN] at this
   refine this.weak rfl ?_ (Nat.le_refl _) rfl
   rintro k (hk | ⟨j, hj, _⟩)
   ·exact hk
   ·exact absurd hj (hnoE j)
  ·have hT : ∀ p, TS ops V (E 0) (Array.replicate ops.size false) p = E 0 := by
    intro p
    induction p with
    | zero => rfl
    | succ p ih =>
     simp only [TS, ih]
     split
     ·rename_i o ho
      rw [if_neg (show ¬ (Array.replicate ops.size false).getD p false = true from hno p)]
     ·rfl
   intro t
   rw [hT, e1]
   exact he t
  ·exact (Kp.refl G w).drew
  ·intro j oj hj hmj _
   cases hr : ρ (idp C ops h.next j) with
   | none => rfl
   | some L =>
    have h1 := H.lt _ _ hr
    unfold idp at h1
    rw [dJ] at h1
    omega
 ·have := List.length_filter_le (fun i => !(Array.replicate ops.size false).getD i false) (List.range ops.size)
  simpa using this
theorem bIj {DD : List Deferred} (K : OkC C rec) (hm : C.P.follows .mixedOrders = true) {id : Nat} {k : Dd.K} {r : DV × Hp} {env : aZ} {h : Hp} {ρ : cN} {a : Act} {w : World} {Q : Exit → Act → World → Prop}
  (hok : eE C.P ops = true) (hp : gQ C rec nt ops k env h = some r) (H : HR G ρ h w) (he : EnvR ρ env a) (hnt : nt ≤ a.tmps.size) (hd : a.defers = DD)
  (hQ : ∀ ρ' env' h' a' w', Ex G ρ ρ' → HR G ρ' h' w' → EnvR ρ' env' a' → Kp G w w' → nt ≤ a'.tmps.size → a'.defers = DD → k env' h' = some r → Q .normal a' w') :
  (Code.region id ops true).wp C.P Q a w :=
 wp_region_any hm (yI K hok hp H he hnt hd hQ)
end
end Go.Dd

namespace Go.Dd
open Go.RowKit (Below)
section
variable {C : Cfg} {G : Gd} {rec : FuncId → List DV → Hp → aH} {nt n : Nat}
def St (DD : List Deferred) (G : Gd) (nt : Nat) (ρ : cN) (w0 : World) (k : K) (r : DV × Hp) (a : Act) (w : World) : Prop :=
 ∃ ρ' env h, Ex G ρ ρ' ∧ HR G ρ' h w ∧ EnvR ρ' env a ∧ Kp G w0 w ∧ nt ≤ a.tmps.size ∧ a.defers = DD ∧ k env h = some r
def QQ (DD : List Deferred) (G : Gd) (nt : Nat) (ρ : cN) (w0 : World) (X : Nat → K) (kr k : K) (r : DV × Hp) : Exit → Act → World → Prop
 | .normal, a, w => St DD G nt ρ w0 k r a w
 | .exit id, a, w => St DD G nt ρ w0 (X id) r a w
 | .ret, a, w => St DD G nt ρ w0 kr r a w
 | _, _, _ => False
theorem aIh {DD : List Deferred} (K : OkC C rec) (hm : C.P.follows .mixedOrders = true) {ρ : cN} {w0 : World} {r : DV × Hp} : ∀ (c : Code) (X : Nat → Dd.K) (kr k : Dd.K) (a : Act) (w : World),
  St DD G nt ρ w0 (aP C rec nt n c X kr k) r a w → c.wp C.P (QQ DD G nt ρ w0 X kr k r) a w := by
 intro c
 induction c with
 | skip => intro X kr k a w h; exact wp_skip h
 | region id ops dr =>
  intro X kr k a w h
  obtain ⟨ρ', env, hp, h1, h2, h3, h4, h5, h6, h7⟩ := h
  change (Bool.rec (motive := fun _ => Dd.K) (gM C rec nt ops ops.toList k) (Bool.rec (motive := fun _ => Dd.K) cM (gQ C rec nt ops k) (eE C.P ops)) dr) env hp = some r at h7
  cases dr with
  | true =>
   dsimp only at h7
   cases hok : eE C.P ops with
   | false => rw [hok] at h7; cases h7
   | true =>
    rw [hok] at h7
    exact bIj K hm hok h7 h2 h3 h5 h6 fun ρ2 env2 h2' a2 w2 e1 e2 e3 e4 e5 e6 e7 => ⟨ρ2, env2, h2', h1.trans e1, e2, e3, h4.trans e4, e5, e6, e7⟩
  | false =>
   simp only [cond_false] at h7
   obtain ⟨env', h', hr, hk⟩ := mO ops.toList k env hp r h7
   refine wp_region ?_
   have := aNo (Q := QQ DD G nt ρ w0 X kr k r) K ops.toList 0 ρ' env hp a w (by simp) hr h2 h3 h5 h6 fun ρ2 a2 w2 e1 e2 e3 e4 e5 e6 => ⟨ρ2, env', h', h1.trans e1, e2, e3, h4.trans e4, e5, e6, hk⟩
   rw [List.range_eq_range']
   simpa using this
 | seq x y ihx ihy =>
  intro X kr k a w h
  refine wp_seq (wp_mono (ihx X kr (aP C rec nt n y X kr k) a w h) fun e a' w' hq => ?_)
  cases e with
  | normal => exact ihy X kr k a' w' hq
  | exit id => exact hq
  | ret => exact hq
  | goto l => exact hq
  | panic ch => exact hq
  | outgrown => exact hq
 | cond c x y ihx ihy =>
  intro X kr k a w h
  obtain ⟨ρ', env, hp, h1, h2, h3, h4, h5, h6, h7⟩ := h
  change aU (opr env c) (aP C rec nt n x X kr k env hp) (aP C rec nt n y X kr k env hp) = some r at h7
  have hc := bE h3 c
  unfold aU at h7
  split at h7 <;> (try (cases h7; done))
  ·rename_i hcb
   rw [hcb] at hc
   generalize hcv : a.eval c = cv at hc
   cases hc
   exact wp_cond_true hcv (ihx X kr k a w ⟨ρ', env, hp, h1, h2, h3, h4, h5, h6, h7⟩)
  ·rename_i hcb
   rw [hcb] at hc
   generalize hcv : a.eval c = cv at hc
   cases hc
   exact wp_cond_false hcv (ihy X kr k a w ⟨ρ', env, hp, h1, h2, h3, h4, h5, h6, h7⟩)
 | block id x ih =>
  intro X kr k a w h
  refine wp_block (wp_mono (ih (fun j => bif Nat.beq j id then k else X j) kr k a w h) fun e a' w' hq => ?_)
  cases e with
  | normal => exact hq
  | exit id' =>
   simp only [QQ] at hq
   simp only [Exit.inBlock, QQ]
   split
   ·rename_i e
    subst e
    have hb : Nat.beq id' id' = true := Nat.beq_refl id'
    rw [hb] at hq
    exact hq
   ·rename_i e
    have : Nat.beq id' id = false := by
     cases hb : Nat.beq id' id with
     | false => rfl
     | true => exact absurd (Nat.eq_of_beq_eq_true hb) e
    rw [this] at hq
    exact hq
  | ret => exact hq
  | goto l => exact hq
  | panic ch => exact hq
  | outgrown => exact hq
 | loop x ih =>
  intro X kr k a w h
  have key : ∀ (m : Nat) (a : Act) (w : World), St DD G nt ρ w0 (aK (fun kk => aP C rec nt n x X kr kk) m) r a w → Code.rounds C.P x (QQ DD G nt ρ w0 X kr k r) m a w := by
   intro m
   induction m with
   | zero =>
    rintro a w ⟨ρ', env, hp, h1, h2, h3, h4, h5, h6, h7⟩
    cases h7
   | succ m ihm =>
    intro a w hs
    rw [rounds_succ]
    refine wp_mono (ih X kr (aK (fun kk => aP C rec nt n x X kr kk) m) a w hs) fun e a' w' hq => ?_
    cases e with
    | normal => exact ihm a' w' hq
    | exit id => exact hq
    | ret => exact hq
    | goto l => exact hq
    | panic ch => exact hq
    | outgrown => exact hq
  exact wp_loop_rounds n (key n a w h)
 | rangeFunc f ps x y ihx ihy =>
  rintro X kr k a w ⟨ρ', env, hp, h1, h2, h3, h4, h5, h6, h7⟩
  cases h7
 | exit id => intro X kr k a w h; exact wp_exit h
 | scope x ih =>
  intro X kr k a w h
  refine wp_scope_straight (wp_mono (ih X kr k a w h) fun e a' w' hq => ?_)
  cases e with
  | goto l => exact hq
  | normal => exact hq
  | exit id => exact hq
  | ret => exact hq
  | panic ch => exact hq
  | outgrown => exact hq
 | label l => intro X kr k a w h; exact wp_label h
 | goto l =>
  rintro X kr k a w ⟨ρ', env, hp, h1, h2, h3, h4, h5, h6, h7⟩
  cases h7
 | ret => intro X kr k a w h; exact wp_ret h
 | refuse why =>
  rintro X kr k a w ⟨ρ', env, hp, h1, h2, h3, h4, h5, h6, h7⟩
  cases h7
def aNn (tmps : Array Value) (rv : ResultVar) : Sem Value :=
 match rv with
 | .tmp t => pure (tmps.getD t undef)
 | .cell q t => do loadVar t (← asAddr (tmps.getD q undef))
theorem oS (fn : Func) (tmps : Array Value) : results fn tmps = (do
  let vs ← fn.results.mapM (aNn tmps)
  pure (if h : vs.size = 1 then vs[0] else .tuple vs)) := by
 unfold results
 congr 2
theorem cAt {ρ : cN} {w : World} {h : Hp} {x : DV} {x' : Value} {t : TypeId} {k : DV → aH} {r : DV × Hp} (H : HR G ρ h w) (hx : VR ρ x x') (hr : aBp C t x h k = some r) :
  ∃ v v', (do loadVar t (← asAddr x') : Sem Value).run C.P w = .ok v' w ∧ VR ρ v v' ∧ k v = some r := by
 unfold aBp at hr
 split at hr <;> (try (cases hr; done))
 rename_i d i ht hi
 obtain ⟨v, h', hl, hk⟩ := cO hr
 have hconv : ∀ b o, x = .p b o → (Instr.loadAt t x') = (do loadVar t (← asAddr x')) := by
  rintro b o rfl
  cases hx
  simp [Instr.loadAt, Instr.sureAddr, asAddr]
 cases hd : jG d with
 | true =>
  rw [hd] at hl
  simp only [cond_true] at hl
  unfold aL at hl
  split at hl <;> (try (cases hl; done))
  rename_i b o
  split at hl <;> (try (cases hl; done))
  rename_i cs hc
  simp only [bD, bM] at hl
  obtain ⟨rfl, _⟩ := hl
  cases hx with
  | p _ _ L hL =>
   obtain ⟨c1, c2, _, vs, c4, c5, c6⟩ := fA H hc hL
   have hrun := dG (P := C.P) vs rfl c6
   rw [c5] at hrun
   refine ⟨_, .agg vs.toArray, ?_, .a cs vs.toArray (by simpa using c4), hk⟩
   simp only [asAddr, Sem.run_bind, Sem.run_pure, Result.andThen_ok, loadVar, rA ht, hd, if_true, rS hi, hrun]
 | false =>
  rw [hd] at hl
  simp only [cond_false] at hl
  unfold aA at hl
  split at hl <;> (try (cases hl; done))
  rename_i b o
  split at hl <;> (try (cases hl; done))
  rename_i u' hc
  simp only [bD, bM] at hl
  obtain ⟨rfl, _⟩ := hl
  cases hx with
  | p _ _ L hL =>
   unfold cellD rowOf at hc
   split at hc <;> (try (cases hc; done))
   rename_i l hl
   split at hl <;> (try (cases hl; done))
   rename_i kd l0 hb
   simp only [bD] at hl
   subst hl
   split at hc <;> (try (cases hc; done))
   rename_i u0 hu
   split at hc <;> (try (cases hc; done))
   rename_i ho
   simp only [bD] at hc
   subst hc
   obtain ⟨v', h5, h6⟩ := H.cell b kd l0 L o u0 hb hL hu ho
   refine ⟨_, v', ?_, h6, hk⟩
   simp only [asAddr, Sem.run_bind, Sem.run_pure, Result.andThen_ok, loadVar, rA ht, hd, Bool.false_eq_true, if_false, run_load, h5]
theorem zI {ρ : cN} {w : World} {h : Hp} {env : aZ} {a : Act} (H : HR G ρ h w) (he : EnvR ρ env a) {r : DV × Hp} : ∀ (l : List ResultVar) (k : List DV → aH), bEr C env h l k = some r →
  ∃ vs vs', (l.mapM (aNn a.tmps)).run C.P w = .ok vs' w ∧ VRs ρ vs vs' ∧ k vs = some r
 | [], k, hr => ⟨[], [], by simp, .nil, hr⟩
 | .tmp t :: l, k, hr => by
  obtain ⟨vs, vs', h1, h2, h3⟩ := zI H he l (fun vs => k (env t :: vs)) hr
  refine ⟨env t :: vs, a.tmps.getD t undef :: vs', ?_, .cons _ _ _ _ (he t) h2, h3⟩
  simp only [List.mapM_cons, Sem.run_bind, aNn, Result.andThen_ok, h1, Sem.run_pure]
 | .cell q t :: l, k, hr => by
  obtain ⟨v, v', h1, h2, h3⟩ := cAt (x' := a.tmps.getD q undef) H (he q) hr
  obtain ⟨vs, vs', h4, h5, h6⟩ := zI H he l (fun vs => k (v :: vs)) h3
  refine ⟨v :: vs, v' :: vs', ?_, .cons _ _ _ _ h2 h5, h6⟩
  simp only [List.mapM_cons, Sem.run_bind, aNn] at h1 ⊢
  simp only [h1, Result.andThen_ok, h4, Sem.run_pure]
theorem uM {ρ : cN} {w : World} {h h1 : Hp} {env : aZ} {a : Act} (H : HR G ρ h w) (he : EnvR ρ env a) {fn : Func} {v : DV} (hr : aQ C fn env h = some (v, h1)) :
  h1 = h ∧ ∃ v', (results fn a.tmps).run C.P w = .ok v' w ∧ VR ρ v v' := by
 obtain ⟨us, vs', h2, h3, hk⟩ := zI H he _ _ hr
 unfold bZw at hk
 split at hk
 ·rename_i u
  simp only [bD, bM] at hk
  obtain ⟨rfl, rfl⟩ := hk
  cases h3 with
  | cons _ v' _ l' hv hn =>
   cases hn
   refine ⟨rfl, v', ?_, hv⟩
   rw [oS, Array.mapM_eq_mapM_toList]
   simp only [Sem.run_bind, Sem.run_map, h2, Result.andThen_ok, Sem.run_pure]
   simp
 ·rename_i hne
  simp only [bD, bM] at hk
  obtain ⟨rfl, rfl⟩ := hk
  have hl := h3.length
  have hne1 : vs'.length ≠ 1 := by
   intro e
   rw [e] at hl
   match us, hl with
   | [x], _ => exact hne x rfl
  refine ⟨rfl, .tuple vs'.toArray, ?_, .t _ _ (by simpa using h3)⟩
  rw [oS, Array.mapM_eq_mapM_toList]
  simp only [Sem.run_bind, Sem.run_map, h2, Result.andThen_ok, Sem.run_pure]
  rw [dif_neg (by simpa using hne1)]
structure POk (P : Program) : Prop where
 mixed : P.follows .mixedOrders = true
 names : ∀ (f : Nat) (fn : Func), P.funcs[f]? = some fn → (fn.name == "runtime.NumGoroutine") = false
theorem uK (K : OkC C rec) (hP : POk C.P) (n : Nat) (f : FuncId) : kA C.P G f (aG C rec n f) := by
 intro args h v h1 hr ρ w args' H hargs
 unfold aG at hr
 split at hr <;> (try (cases hr; done))
 rename_i fn hf
 split at hr <;> (try (cases hr; done))
 rename_i c hb
 refine .inl ⟨?_, ?_⟩
 ·unfold callFunc
  have hn : ¬ fn.name = "runtime.NumGoroutine" := by simpa using hP.names f fn hf
  simp [hf, hn, hb]
 ·refine calls_of_wp hf hb ?_
  have he : EnvR ρ (aI args) { tmps := args' ++ Array.replicate (fn.ntmps - args'.size) undef, defers := [] } := by
   intro t
   unfold aI
   have hlen := hargs.length
   simp only [Array.length_toList] at hlen
   by_cases ht : t < args.length
   ·have hg : args[t]? = some args[t] := by simp [ht]
    obtain ⟨v', h2, h3⟩ := hargs.get t _ hg
    simp only [Array.getElem?_toList] at h2
    rw [show args.getD t aY = args[t] by simp [List.getD, hg]]
    have : (args' ++ Array.replicate (fn.ntmps - args'.size) undef).getD t undef = v' := by
     simp [Array.getElem?_append_left (show t < args'.size by omega), h2]
    rw [this]
    exact h3
   ·have hg : args.getD t aY = aY := by simp [List.getD, List.getElem?_eq_none (Nat.le_of_not_lt ht)]
    rw [hg]
    have : (args' ++ Array.replicate (fn.ntmps - args'.size) undef).getD t undef = undef := by
     rw [Array.getD_eq_getD_getElem?, Array.getElem?_append_right (by omega)]
     simp only [Array.getElem?_replicate]
     split <;> rfl
    rw [this]
    exact .t [] #[] .nil
  have hst : St [] G fn.ntmps ρ w (aP C rec fn.ntmps n c (fun _ => cM) (aQ C fn) (aQ C fn)) (v, h1) { tmps := args' ++ Array.replicate (fn.ntmps - args'.size) undef, defers := [] } w :=
   ⟨ρ, aI args, h, Ex.refl G ρ, H, he, Kp.refl G w, by simp; omega, rfl, hr⟩
  refine wp_mono (aIh K hP.mixed c _ _ _ _ _ hst) fun e a' w' hq => ?_
  have hfin : St [] G fn.ntmps ρ w (aQ C fn) (v, h1) a' w' → a'.defers = [] ∧ ∃ v', (results fn a'.tmps).run C.P w' = .ok v' w' ∧ jB G ρ w v h1 (.returned v') w' := by
   rintro ⟨ρ', env, h', e1, e2, e3, e4, e5, e6, e7⟩
   obtain ⟨rfl, v', r1, r2⟩ := uM e2 e3 e7
   exact ⟨e6, v', r1, ρ', v', rfl, e1, r2, e2, e4⟩
  cases e with
  | normal => exact hfin hq
  | ret => exact hfin hq
  | exit id =>
   obtain ⟨ρ', env, h', e1, e2, e3, e4, e5, e6, e7⟩ := hq
   cases e7
  | goto l => exact hq.elim
  | panic ch => exact hq.elim
  | outgrown => exact hq.elim
theorem cMb (hP : POk C.P) (hI : ∀ G g F, C.I g = some F → kA C.P G g F) : ∀ (n : Nat) (G : Gd) (f : FuncId), kA C.P G f (tK C n f)
 | 0, G, f => fun args h v h1 hr => by cases hr
 | n + 1, G, f => uK (rec := tK C n) ⟨hI, fun G g => cMb hP hI n G g⟩ hP n f
end
end Go.Dd

namespace Go.Dd
open Go.RowKit (Below)
section
variable {C : Cfg} {G : Gd} {rec : FuncId → List DV → Hp → aH} {nt : Nat}
def nB (h : Hp) : Prop := ∀ b o, h.bl.get b = some o → b.toNat < h.next.toNat
theorem HR.isFresh {ρ : cN} {h : Hp} {w : World} (H : HR G ρ h w) : nB h := fun b o hb => by
 obtain ⟨L, hL⟩ := H.dom b o hb
 exact H.lt b L hL
def aFz (C : Cfg) (rec : FuncId → List DV → Hp → aH) (nt : Nat) (ops : Array Oper) (jB : aZ → Hp → Prop) : Nat → Array Bool → aZ → Hp → Prop
 | 0, listed, env, h => Region.ready .any ops listed = [] ∧ jB env h
 | f + 1, listed, env, h => (Region.ready .any ops listed = [] → jB env h) ∧
   ∀ i ∈ Region.ready .any ops listed, ∃ o v h', ops[i]? = some o ∧ dD nt o.dst = true ∧ bH C rec ops o env h = some (v, h') ∧
    aFz C rec nt ops jB f (listed.setIfInBounds i true) (bG env o.dst v) h'
theorem aVo (K : OkC C rec) {ops : Array Oper} {jB : aZ → Hp → Prop} {Q : Exit → Act → World → Prop} : ∀ (fuel : Nat) (listed : Array Bool) (ρ : cN) (env : aZ) (h : Hp) (a : Act) (w : World),
  aFz C rec nt ops jB fuel listed env h → HR G ρ h w → EnvR ρ env a → nt ≤ a.tmps.size → a.defers = [] →
  (∀ ρ' env' h' a' w', jB env' h' → Ex G ρ ρ' → HR G ρ' h' w' → EnvR ρ' env' a' → Kp G w w' → nt ≤ a'.tmps.size → a'.defers = [] → Q .normal a' w') →
  wpAny C.P .any ops Q fuel listed a w
 | 0, listed, ρ, env, h, a, w, hp, H, he, hnt, hd, hQ => ⟨hp.1, hQ ρ env h a w hp.2 (Ex.refl G ρ) H he (Kp.refl G w) hnt hd⟩
 | f + 1, listed, ρ, env, h, a, w, hp, H, he, hnt, hd, hQ => by
  refine ⟨fun hr => hQ ρ env h a w (hp.1 hr) (Ex.refl G ρ) H he (Kp.refl G w) hnt hd, fun i hi => ?_⟩
  obtain ⟨o, v, h', ho, hf, hs, hn⟩ := hp.2 i hi
  refine tZ (vW K H he hs) rfl ho H fun ρ' w' v' h2 h3 h4 h5 => ?_
  exact aVo K f _ ρ' _ h' _ w' hn h4 (he.put h2.ext h3 hf hnt) (by rw [lG]; exact hnt) (by rw [iP]; exact hd)
   fun ρ2 env2 hh a2 w2 e0 e1 e2 e3 e4 e5 e6 => hQ ρ2 env2 hh a2 w2 e0 (h2.trans e1) e2 e3 (h5.trans e4) e5 e6
def rL (C : Cfg) (rec : FuncId → List DV → Hp → aH) (nt : Nat) : Code → (Nat → aZ → Hp → Prop) → (aZ → Hp → Prop) → (aZ → Hp → Prop) → aZ → Hp → Prop
 | .skip, _, _, N => N
 | .region _ ops dr, _, _, N => fun env h => if dr then (aFz C rec nt ops (fun e h => nB h → N e h) ops.size (Array.replicate ops.size false) env h ∨
    (eE C.P ops = true ∧ ∃ k r, gQ C rec nt ops k env h = some r ∧ ∀ env' h', k env' h' = some r → nB h' → N env' h'))
   else ∃ env' h', wT C rec nt ops ops.toList env h env' h' ∧ (nB h' → N env' h')
 | .seq a b, X, R, N => rL C rec nt a X R (rL C rec nt b X R N)
 | .cond c a b, X, R, N => fun env h => (opr env c = .b true ∧ rL C rec nt a X R N env h) ∨ (opr env c = .b false ∧ rL C rec nt b X R N env h)
 | .block id a, X, R, N => rL C rec nt a (fun j => if j = id then N else X j) R N
 | .exit id, X, _, _ => X id
 | .scope a, X, R, N => rL C rec nt a X R N
 | .ret, _, R, _ => R
 | _, _, _, _ => fun _ _ => False
def StP (G : Gd) (nt : Nat) (ρ : cN) (w0 : World) (N : aZ → Hp → Prop) (a : Act) (w : World) : Prop :=
 ∃ ρ' env h, Ex G ρ ρ' ∧ HR G ρ' h w ∧ EnvR ρ' env a ∧ Kp G w0 w ∧ nt ≤ a.tmps.size ∧ a.defers = [] ∧ N env h
def QP (G : Gd) (nt : Nat) (ρ : cN) (w0 : World) (X : Nat → aZ → Hp → Prop) (R N : aZ → Hp → Prop) : Exit → Act → World → Prop
 | .normal, a, w => StP G nt ρ w0 N a w
 | .exit id, a, w => StP G nt ρ w0 (X id) a w
 | .ret, a, w => StP G nt ρ w0 R a w
 | _, _, _ => False
theorem aNv (K : OkC C rec) (hm : C.P.follows .mixedOrders = true) {ρ : cN} {w0 : World} : ∀ (c : Code) (X : Nat → aZ → Hp → Prop) (R N : aZ → Hp → Prop) (a : Act) (w : World),
  StP G nt ρ w0 (rL C rec nt c X R N) a w → c.wp C.P (QP G nt ρ w0 X R N) a w := by
 intro c
 induction c with
 | skip => intro X R N a w h; exact wp_skip h
 | region id ops dr =>
  intro X R N a w h
  obtain ⟨ρ', env, hp, h1, h2, h3, h4, h5, h6, h7⟩ := h
  cases dr with
  | true =>
   simp only [rL, if_true] at h7
   rcases h7 with h7 | ⟨hok, k, r, h7, h8⟩
   ·refine wp_region_any hm (aVo K ops.size _ ρ' env hp a _ h7 (h2.congr rfl) h3 h5 h6 fun ρ2 env2 h2' a2 w2 e0 e1 e2 e3 e4 e5 e6 => ?_)
    exact ⟨ρ2, env2, h2', h1.trans e1, e2, e3, (h4.trans ((Kp.refl G w).drew)).trans e4, e5, e6, e0 e2.isFresh⟩
   ·exact bIj K hm hok h7 h2 h3 h5 h6 fun ρ2 env2 h2' a2 w2 e1 e2 e3 e4 e5 e6 e7 => ⟨ρ2, env2, h2', h1.trans e1, e2, e3, h4.trans e4, e5, e6, h8 _ _ e7 e2.isFresh⟩
  | false =>
   simp only [rL, Bool.false_eq_true, if_false] at h7
   obtain ⟨env', h', hr, hk⟩ := h7
   refine wp_region ?_
   have := aNo (Q := QP G nt ρ w0 X R N) K ops.toList 0 ρ' env hp a w (by simp) hr h2 h3 h5 h6 fun ρ2 a2 w2 e1 e2 e3 e4 e5 e6 => ⟨ρ2, env', h', h1.trans e1, e2, e3, h4.trans e4, e5, e6, hk e2.isFresh⟩
   rw [List.range_eq_range']
   simpa using this
 | seq x y ihx ihy =>
  intro X R N a w h
  refine wp_seq (wp_mono (ihx X R (rL C rec nt y X R N) a w h) fun e a' w' hq => ?_)
  cases e with
  | normal => exact ihy X R N a' w' hq
  | exit id => exact hq
  | ret => exact hq
  | goto l => exact hq
  | panic ch => exact hq
  | outgrown => exact hq
 | cond c x y ihx ihy =>
  intro X R N a w h
  obtain ⟨ρ', env, hp, h1, h2, h3, h4, h5, h6, h7⟩ := h
  have hc := bE h3 c
  rcases h7 with ⟨hcb, h7⟩ | ⟨hcb, h7⟩
  ·rw [hcb] at hc
   generalize hcv : a.eval c = cv at hc
   cases hc
   exact wp_cond_true hcv (ihx X R N a w ⟨ρ', env, hp, h1, h2, h3, h4, h5, h6, h7⟩)
  ·rw [hcb] at hc
   generalize hcv : a.eval c = cv at hc
   cases hc
   exact wp_cond_false hcv (ihy X R N a w ⟨ρ', env, hp, h1, h2, h3, h4, h5, h6, h7⟩)
 | block id x ih =>
  intro X R N a w h
  refine wp_block (wp_mono (ih (fun j => if j = id then N else X j) R N a w h) fun e a' w' hq => ?_)
  cases e with
  | normal => exact hq
  | exit id' =>
   simp only [QP] at hq
   simp only [Exit.inBlock]
   split
   ·rename_i e
    rw [if_pos e] at hq
    exact hq
   ·rename_i e
    rw [if_neg e] at hq
    exact hq
  | ret => exact hq
  | goto l => exact hq
  | panic ch => exact hq
  | outgrown => exact hq
 | loop x ih => rintro X R N a w ⟨ρ', env, hp, h1, h2, h3, h4, h5, h6, h7⟩; exact h7.elim
 | rangeFunc f ps x y ihx ihy => rintro X R N a w ⟨ρ', env, hp, h1, h2, h3, h4, h5, h6, h7⟩; exact h7.elim
 | exit id => intro X R N a w h; exact wp_exit h
 | scope x ih =>
  intro X R N a w h
  refine wp_scope_straight (wp_mono (ih X R N a w h) fun e a' w' hq => ?_)
  cases e with
  | goto l => exact hq
  | normal => exact hq
  | exit id => exact hq
  | ret => exact hq
  | panic ch => exact hq
  | outgrown => exact hq
 | label l => rintro X R N a w ⟨ρ', env, hp, h1, h2, h3, h4, h5, h6, h7⟩; exact h7.elim
 | goto l => rintro X R N a w ⟨ρ', env, hp, h1, h2, h3, h4, h5, h6, h7⟩; exact h7.elim
 | ret => intro X R N a w h; exact wp_ret h
 | refuse why => rintro X R N a w ⟨ρ', env, hp, h1, h2, h3, h4, h5, h6, h7⟩; exact h7.elim
def Le (h2 h1 : Hp) : Prop := ∀ G ρ w, HR G ρ h2 w → HR G ρ h1 w
theorem dHq (K : OkC C rec) (hP : POk C.P) {f : FuncId} {fn : Func} {c : Code} (hf : C.P.funcs[f]? = some fn) (hb : fn.body = some c) {F : List DV → Hp → aH}
  (hF : ∀ args h v h1, F args h = some (v, h1) → nB h → rL C rec fn.ntmps c (fun _ _ _ => False) (fun env h' => ∃ h2, aQ C fn env h' = some (v, h2) ∧ Le h2 h1)
   (fun env h' => ∃ h2, aQ C fn env h' = some (v, h2) ∧ Le h2 h1) (aI args) h) : kA C.P G f F := by
 intro args h v h1 hr ρ w args' H hargs
 refine .inl ⟨?_, ?_⟩
 ·unfold callFunc
  have hn : ¬ fn.name = "runtime.NumGoroutine" := by simpa using hP.names f fn hf
  simp [hf, hn, hb]
 ·refine calls_of_wp hf hb ?_
  have he : EnvR ρ (aI args) { tmps := args' ++ Array.replicate (fn.ntmps - args'.size) undef, defers := [] } := by
   intro t
   unfold aI
   have hlen := hargs.length
   simp only [Array.length_toList] at hlen
   by_cases ht : t < args.length
   ·have hg : args[t]? = some args[t] := by simp [ht]
    obtain ⟨v', h2, h3⟩ := hargs.get t _ hg
    simp only [Array.getElem?_toList] at h2
    rw [show args.getD t aY = args[t] by simp [List.getD, hg]]
    have : (args' ++ Array.replicate (fn.ntmps - args'.size) undef).getD t undef = v' := by
     simp [Array.getElem?_append_left (show t < args'.size by omega), h2]
    rw [this]
    exact h3
   ·have hg : args.getD t aY = aY := by simp [List.getD, List.getElem?_eq_none (Nat.le_of_not_lt ht)]
    rw [hg]
    have : (args' ++ Array.replicate (fn.ntmps - args'.size) undef).getD t undef = undef := by
     rw [Array.getD_eq_getD_getElem?, Array.getElem?_append_right (by omega)]
     simp only [Array.getElem?_replicate]
     split <;> rfl
    rw [this]
    exact .t [] #[] .nil
  have hst : StP G fn.ntmps ρ w _ { tmps := args' ++ Array.replicate (fn.ntmps - args'.size) undef, defers := [] } w :=
   ⟨ρ, aI args, h, Ex.refl G ρ, H, he, Kp.refl G w, by simp; omega, rfl, hF args h v h1 hr H.isFresh⟩
  refine wp_mono (aNv K hP.mixed c _ _ _ _ _ hst) fun e a' w' hq => ?_
  have hfin : StP G fn.ntmps ρ w (fun env h' => ∃ h2, aQ C fn env h' = some (v, h2) ∧ Le h2 h1) a' w' → a'.defers = [] ∧ ∃ v', (results fn a'.tmps).run C.P w' = .ok v' w' ∧ jB G ρ w v h1 (.returned v') w' := by
   rintro ⟨ρ', env, h', e1, e2, e3, e4, e5, e6, h2, e7, e8⟩
   obtain ⟨rfl, v', r1, r2⟩ := uM e2 e3 e7
   exact ⟨e6, v', r1, ρ', v', rfl, e1, r2, e8 _ _ _ e2, e4⟩
  cases e with
  | normal => exact hfin hq
  | ret => exact hfin hq
  | exit id => obtain ⟨ρ', env, h', e1, e2, e3, e4, e5, e6, e7⟩ := hq; exact e7.elim
  | goto l => exact hq.elim
  | panic ch => exact hq.elim
  | outgrown => exact hq.elim
end
end Go.Dd

namespace Go.Dd
open Go.RowKit (Below)
def Fw (ro : Option Nat) : Fence := { Fence.wide with round := ro }
theorem aZh {ro : Option Nat} {n : Nat} {P : Program} {f : FuncId} {args : Array Value} {w : World} {R : Ending → World → Prop} (h : Calls P f args w R) : CallsIn (Fw ro) n P f args w R := by
 have e : CallsIn Fence.wide n P f args w R := callsIn_wide.2 h
 exact e
theorem stepsIn_fw {ro : Option Nat} {P : Program} {m m' : Machine} : StepsIn (Machine.fenced P (Fw ro)) P m m' ↔ Steps P m m' := by
 exact stepsIn_wide (P := P)
def fX (o : Oper) : Bool := match o.op with
 | .defer _ => false
 | _ => true
section
variable {ro : Option Nat} {n : Nat} {P : Program} {Q : Exit → Act → World → Prop}
theorem cCy {o : Oper} {ρ : Operand → Value} (h : fX o = true) : o.semAt ro ρ = execOp ρ o := by
 refine Oper.semAt_eq ro ρ o fun c e => ?_
 unfold fX at h
 rw [e] at h
 cases h
theorem eFb {o : Oper} {a : Act} {w : World} {K : Act → World → Prop} (hd : fX o = true) (h : o.wp P a w K Q) : o.wpIn (Fw ro) n P a w K Q := by
 refine ⟨fun _ _ => trivial, ?_⟩
 show o.uponIn (Fw ro) n P a K Q ((o.semAt ro a.eval).run P w)
 rw [cCy hd]
 unfold Oper.wp at h
 generalize (execOp a.eval o).run P w = r at h
 cases r with
 | ok x w' =>
  cases x <;> first
   | exact h
   | exact h.elim
   | exact ⟨fun e => (by cases e), aZh h⟩
   | exact ⟨fun e => (by cases e), fun c cs _ => (let ⟨v, w2, r, s⟩ := h c cs; ⟨v, w2, r, stepsIn_fw.2 s⟩)⟩
 | halt x w' => cases x <;> exact h
theorem aEi {ops : Array Oper} {i : Nat} {K K' : Act → World → Prop} {a : Act} {w : World} (hd : ∀ o ∈ ops.toList, fX o = true) (hQ : ¬ LetsOut Q) (hK : ∀ a w, K a w → K' a w) (h : wpOp P ops Q i K a w) : wpOpIn (Fw ro) n P ops Q i K' a w := by
 unfold wpOp at h
 unfold wpOpIn
 cases ho : ops[i]? with
 | none => rw [ho] at h; exact hK _ _ h
 | some o =>
  rw [ho] at h
  dsimp only at h ⊢
  have hm : o ∈ ops.toList := by
   have := Array.mem_of_getElem? ho
   exact Array.mem_toList_iff.2 this
  split
  ·rename_i hw
   rw [if_pos hw] at h
   rcases h with h | h
   ·exact Oper.wpIn_mono hK (eFb (hd o hm) h)
   ·exact absurd h.2 hQ
  ·rename_i hw
   rw [if_neg hw] at h
   exact ⟨fun _ _ => trivial, hK _ _ h⟩
theorem aQn {ops : Array Oper} (hd : ∀ o ∈ ops.toList, fX o = true) (hQ : ¬ LetsOut Q) : ∀ (l : List Nat) (a : Act) (w : World), wpOps P ops Q l a w → wpOpsIn (Fw ro) n P ops Q l a w
 | [], a, w, h => h
 | i :: l, a, w, h => by
  rw [wpOps_cons] at h
  rw [wpOpsIn_cons]
  exact aEi hd hQ (aQn hd hQ l) h
theorem aQc {ops : Array Oper} {md : Region.Mode} (hd : ∀ o ∈ ops.toList, fX o = true) (hQ : ¬ LetsOut Q) : ∀ (fuel : Nat) (listed : Array Bool) (a : Act) (w : World), wpAny P md ops Q fuel listed a w → wpAnyIn (Fw ro) n P md ops Q fuel listed a w
 | 0, listed, a, w, h => h
 | fuel + 1, listed, a, w, h => ⟨h.1, fun i hi => aEi hd hQ (aQc hd hQ fuel _) (h.2 i hi)⟩
def dT : Code → Bool
 | .skip => true
 | .region _ ops _ => ops.toList.all fX
 | .seq x y => dT x && dT y
 | .cond _ x y => dT x && dT y
 | .block _ x => dT x
 | .loop x => dT x
 | .exit _ => true
 | .ret => true
 | _ => false
end
section
variable {C : Cfg} {G : Gd} {rec : FuncId → List DV → Hp → aH} {nt n : Nat}
theorem cLf {DD : List Deferred} {ρ : cN} {w0 : World} {X : Nat → K} {kr k : K} {r : DV × Hp} : ¬ LetsOut (QQ DD G nt ρ w0 X kr k r) := fun ⟨_, _, h⟩ => h
theorem aZm {ro : Option Nat} {N : Nat} {DD : List Deferred} (K : OkC C rec) (hm : C.P.follows .mixedOrders = true) {ρ : cN} {w0 : World} {r : DV × Hp} : ∀ (c : Code), dT c = true → ∀ (X : Nat → Dd.K) (kr k : Dd.K) (a : Act) (w : World),
  St DD G nt ρ w0 (aP C rec nt n c X kr k) r a w → c.wpIn (Fw ro) N C.P (QQ DD G nt ρ w0 X kr k r) a w := by
 intro c
 induction c with
 | skip => intro _ X kr k a w h; exact wpIn_skip h
 | region id ops dr =>
  intro hpc X kr k a w h
  have hd : ∀ o ∈ ops.toList, fX o = true := List.all_eq_true.1 hpc
  obtain ⟨ρ', env, hp, h1, h2, h3, h4, h5, h6, h7⟩ := h
  change (Bool.rec (motive := fun _ => Dd.K) (gM C rec nt ops ops.toList k) (Bool.rec (motive := fun _ => Dd.K) cM (gQ C rec nt ops k) (eE C.P ops)) dr) env hp = some r at h7
  cases dr with
  | true =>
   dsimp only at h7
   cases hok : eE C.P ops with
   | false => rw [hok] at h7; cases h7
   | true =>
    rw [hok] at h7
    exact wpIn_region_any hm (aQc hd cLf _ _ _ _ (yI K hok h7 h2 h3 h5 h6 fun ρ2 env2 h2' a2 w2 e1 e2 e3 e4 e5 e6 e7 => ⟨ρ2, env2, h2', h1.trans e1, e2, e3, h4.trans e4, e5, e6, e7⟩))
  | false =>
   simp only [cond_false] at h7
   obtain ⟨env', h', hr, hk⟩ := mO ops.toList k env hp r h7
   refine wpIn_region ?_
   have := aNo (Q := QQ DD G nt ρ w0 X kr k r) K ops.toList 0 ρ' env hp a w (by simp) hr h2 h3 h5 h6 fun ρ2 a2 w2 e1 e2 e3 e4 e5 e6 => ⟨ρ2, env', h', h1.trans e1, e2, e3, h4.trans e4, e5, e6, hk⟩
   rw [List.range_eq_range']
   exact aQn hd cLf _ _ _ (by simpa using this)
 | seq x y ihx ihy =>
  intro hpc X kr k a w h
  simp only [dT, Bool.and_eq_true] at hpc
  refine wpIn_seq (wpIn_mono (ihx hpc.1 X kr (aP C rec nt n y X kr k) a w h) fun e a' w' hq => ?_)
  cases e with
  | normal => exact ihy hpc.2 X kr k a' w' hq
  | exit id => exact hq
  | ret => exact hq
  | goto l => exact hq
  | panic ch => exact hq
  | outgrown => exact hq
 | cond c x y ihx ihy =>
  intro hpc X kr k a w h
  simp only [dT, Bool.and_eq_true] at hpc
  obtain ⟨ρ', env, hp, h1, h2, h3, h4, h5, h6, h7⟩ := h
  change aU (opr env c) (aP C rec nt n x X kr k env hp) (aP C rec nt n y X kr k env hp) = some r at h7
  have hc := bE h3 c
  unfold aU at h7
  split at h7 <;> (try (cases h7; done))
  ·rename_i hcb
   rw [hcb] at hc
   generalize hcv : a.eval c = cv at hc
   cases hc
   exact wpIn_cond_true hcv (ihx hpc.1 X kr k a w ⟨ρ', env, hp, h1, h2, h3, h4, h5, h6, h7⟩)
  ·rename_i hcb
   rw [hcb] at hc
   generalize hcv : a.eval c = cv at hc
   cases hc
   exact wpIn_cond_false hcv (ihy hpc.2 X kr k a w ⟨ρ', env, hp, h1, h2, h3, h4, h5, h6, h7⟩)
 | block id x ih =>
  intro hpc X kr k a w h
  refine wpIn_block (wpIn_mono (ih hpc (fun j => bif Nat.beq j id then k else X j) kr k a w h) fun e a' w' hq => ?_)
  cases e with
  | normal => exact hq
  | exit id' =>
   simp only [QQ] at hq
   simp only [Exit.inBlock, QQ]
   split
   ·rename_i e
    subst e
    have hb : Nat.beq id' id' = true := Nat.beq_refl id'
    rw [hb] at hq
    exact hq
   ·rename_i e
    have : Nat.beq id' id = false := by
     cases hb : Nat.beq id' id with
     | false => rfl
     | true => exact absurd (Nat.eq_of_beq_eq_true hb) e
    rw [this] at hq
    exact hq
  | ret => exact hq
  | goto l => exact hq
  | panic ch => exact hq
  | outgrown => exact hq
 | loop x ih =>
  intro hpc X kr k a w h
  have key : ∀ (m : Nat) (a : Act) (w : World), St DD G nt ρ w0 (aK (fun kk => aP C rec nt n x X kr kk) m) r a w → Code.roundsIn (Fw ro) N C.P x (QQ DD G nt ρ w0 X kr k r) m a w := by
   intro m
   induction m with
   | zero =>
    rintro a w ⟨ρ', env, hp, h1, h2, h3, h4, h5, h6, h7⟩
    cases h7
   | succ m ihm =>
    intro a w hs
    rw [roundsIn_succ]
    refine wpIn_mono (ih hpc X kr (aK (fun kk => aP C rec nt n x X kr kk) m) a w hs) fun e a' w' hq => ?_
    cases e with
    | normal => exact ihm a' w' hq
    | exit id => exact hq
    | ret => exact hq
    | goto l => exact hq
    | panic ch => exact hq
    | outgrown => exact hq
  exact wpIn_loop_rounds n (key n a w h)
 | exit id => intro _ X kr k a w h; exact wpIn_exit h
 | ret => intro _ X kr k a w h; exact wpIn_ret h
 | _ => intro hpc; cases hpc
end
end Go.Dd

namespace Go.Dd
open Go.RowKit (Below)
section
variable {G G' : Gd} {ρ : cN} {h : Hp} {w : World}
theorem HR.earlyO (H : HR G ρ h w) {b : Pos} (hb : ρ b = none) (hlt : b.toNat < h.next.toNat) (ob : Obj) :
  HR ⟨G.B, fun k => G.X k ∨ k = w.heap.size, G.N, G.W, G.ok⟩ (mH ρ b ⟨w.heap.size, 0, 0, none⟩) h (w.alloc ob) := by
 have hext : Ext ρ (mH ρ b ⟨w.heap.size, 0, 0, none⟩) := by
  intro x L hx
  by_cases e : x = b
  ·subst e; rw [hb] at hx; cases hx
  ·rw [aV _ _ e]; exact hx
 have hrow : h.bl.get b = none := by
  cases hr : h.bl.get b with
  | none => rfl
  | some o => obtain ⟨L, hL⟩ := H.dom b o hr; rw [hb] at hL; cases hL
 have hne : ∀ x o, h.bl.get x = some o → x ≠ b := fun x o hx e => by subst e; rw [hrow] at hx; cases hx
 have hcl : ∀ {x a}, Claims (mH ρ b ⟨w.heap.size, 0, 0, none⟩) h x a → Claims ρ h x a := by
  rintro x a ⟨k, l, L, h1, h2, h3⟩
  rw [aV _ _ (hne x _ h1)] at h2
  exact ⟨k, l, L, h1, h2, h3⟩
 have hblt : ∀ {x a}, Claims ρ h x a → a.block < w.heap.size := fun hc => by
  obtain ⟨v, hv⟩ := H.lt_cell hc
  exact dY hv
 refine { gl := fun k hk => by rw [Below.heap_alloc _ _ _ (Nat.lt_of_lt_of_le hk H.sz.1)]; exact H.gl k hk, sz := ⟨by have := H.sz.1; simp; omega, fun k hk => ?_⟩, nx := H.nx, ro := fun x a h1 h2 => H.ro x a (hcl h1) h2, dom := ?_, lt := ?_, cell := ?_, spare := ?_, free := ?_, inj := ?_, ex := ?_, grone := H.grone, itr := ?_, itj := ?_ }
 ·rcases hk with hk | hk
  ·have := H.sz.2 k hk; simp; omega
  ·simp; omega
 ·intro x o hx
  obtain ⟨L, hL⟩ := H.dom x o hx
  exact ⟨L, hext _ _ hL⟩
 ·intro x L hx
  by_cases e : x = b
  ·subst e; exact hlt
  ·rw [aV _ _ e] at hx; exact H.lt x L hx
 ·intro x k l L i v hx hL hi hv
  rw [aV _ _ (hne x _ hx)] at hL
  obtain ⟨v', h5, h6⟩ := H.cell x k l L i v hx hL hi hv
  exact ⟨v', by rw [dM (dY h5)]; exact h5, h6.mono hext⟩
 ·intro x l L es j hx hL hj
  rw [aV _ _ (hne x _ hx)] at hL
  obtain ⟨v', h5⟩ := H.spare x l L es j hx hL hj
  exact ⟨v', by rw [dM (dY h5)]; exact h5⟩
 ·intro x a hc hr
  have hlt' := hblt (hcl hc)
  obtain ⟨h3, h4, h5⟩ := H.free x a (hcl hc) hr
  refine ⟨by rw [fY (by omega)]; exact h3, h4, ?_⟩
  rintro (hk | hk)
  ·exact h5 hk
  ·omega
 ·intro x x' a hc hc' hr
  exact H.inj x x' a (hcl hc) (hcl hc') hr
 ·intro x l L hx hL
  have : x ≠ b := by rcases hx with hx | hx <;> exact hne x _ hx
  rw [aV _ _ this] at hL
  exact H.ex x l L hx hL
 ·intro x o L h0 hx hL
  rw [aV _ _ (hne x _ hx)] at hL
  obtain ⟨⟨h1, h1'⟩, h2, bs, h3, h4⟩ := H.itr x o L h0 hx hL
  have hlt' : L.bl < w.heap.size := by
   rcases Nat.lt_or_ge L.bl w.heap.size with h | h
   ·exact h
   ·simp [Array.getElem?_eq_none h] at h3
  refine ⟨⟨h1, ?_⟩, h2, bs, by rw [Below.heap_alloc _ _ _ hlt']; exact h3, h4.mono hext⟩
  rintro (hk | hk)
  ·exact h1' hk
  ·omega
 ·intro x o x' o' L L' h0 h0' hx hx' hL hL' he
  rw [aV _ _ (hne x _ hx)] at hL
  rw [aV _ _ (hne x' _ hx')] at hL'
  exact H.itj x o x' o' L L' h0 h0' hx hx' hL hL' he
theorem aQe {w : World} {l : Nat} {o o' : Obj} (hl : w.heap[l]? = some o) (ho : o.isCells = false) (ho' : o'.isCells = false) (a : Addr) : (w.putObj l o').cell? a = w.cell? a := by
 by_cases e : a.block = l
 ·have h1 : (w.putObj l o').heap[a.block]? = some o' := by rw [e]; exact World.putObj_heap_same (Array.getElem?_eq_some_iff.1 hl).1
  have h2 : w.heap[a.block]? = some o := by rw [e]; exact hl
  unfold World.cell?
  rw [h1, h2]
  cases o <;> cases ho <;> cases o' <;> cases ho' <;> rfl
 ·unfold World.cell?
  rw [World.putObj_heap_other e]
theorem aTi {w : World} {l : Nat} {o' : Obj} {a : Addr} (e : a.block ≠ l) : (w.putObj l o').frozen? a = w.frozen? a := by
 unfold World.frozen?
 rw [World.putObj_heap_other e]
theorem HR.putX (H : HR G ρ h w) {l : Nat} {o o' : Obj} (hB : G.B ≤ l) (hX : G.X l) (hl : w.heap[l]? = some o) (ho : o.isCells = false) (ho' : o'.isCells = false) : HR G ρ h (w.putObj l o') where
 gl := fun k hk => by rw [World.putObj_heap_other (by omega)]; exact H.gl k hk
 sz := by
  have e : (w.putObj l o').heap.size = w.heap.size := by simp [World.putObj]
  rw [e]
  exact H.sz
 nx := H.nx
 ro := H.ro
 dom := H.dom
 lt := H.lt
 cell := fun b k L i v v' h1 h2 h3 h4 => by
  obtain ⟨x, h5, h6⟩ := H.cell b k L i v v' h1 h2 h3 h4
  exact ⟨x, by rw [aQe hl ho ho']; exact h5, h6⟩
 spare := fun b k L es j h1 h2 h3 => by
  obtain ⟨x, h5⟩ := H.spare b k L es j h1 h2 h3
  exact ⟨x, by rw [aQe hl ho ho']; exact h5⟩
 free := fun b a h1 h2 => by
  obtain ⟨h3, h4, h5⟩ := H.free b a h1 h2
  exact ⟨by rw [aTi (by intro e; rw [e] at h5; exact h5 hX)]; exact h3, h4, h5⟩
 inj := H.inj
 ex := H.ex
 grone := H.grone
 itr := fun b o2 L h0 h1 h2 => by
  obtain ⟨⟨h3, h4⟩, h5, x, h6, h7⟩ := H.itr b o2 L h0 h1 h2
  exact ⟨⟨h3, h4⟩, h5, x, by rw [World.putObj_heap_other (by intro e; rw [e] at h4; exact h4 hX)]; exact h6, h7⟩
 itj := H.itj
theorem Kp.putX {w0 : World} (k : Kp G w0 w) {l : Nat} {o o' : Obj} (hO : Own G l) (hs : ∀ k, G.X k → k < w0.heap.size) (hB : G.B ≤ w0.heap.size) (hl : w.heap[l]? = some o) : Kp G w0 (w.putObj l o') where
 low := k.low.grown (grownBy_putObj' w l o') (Nat.le_trans hB k.low.size) (fun j e => by cases e; exact hO.1)
 ex := fun j hj => by rw [World.putObj_heap_other (by intro e; subst e; exact hO.2 hj)]; exact k.ex j hj
end
end Go.Dd

namespace Go.Dd
open Go.RowKit (Below)
structure ItC where
 gf : FuncId
 nt : Nat
 pre : Code
 b0 : Nat
 test : Code
 b1 : Nat
 rid : Nat
 front : List Oper
 y : Oper
 back : List Oper
 after : Code
 post : Code
 step : Code
 yd : Tmp
 yt : Tmp
 yx : Tmp
def ItC.ops (I : ItC) : Array Oper := (I.front ++ I.y :: I.back).toArray
def ItC.round (I : ItC) : Code := .seq I.test (.seq (.block I.b1 (.seq (.seq (.region I.rid I.ops false) I.after) I.post)) I.step)
def ItC.code (I : ItC) : Code := .seq I.pre (.block I.b0 (.loop I.round))
def kB : Nat → K := fun _ => cM
def ylB (v : DV) (b : Pos) : Bool := match v with
 | .yl b' => b' == b
 | _ => false
section
variable (C : Cfg) (rec : FuncId → List DV → Hp → aH) (n : Nat) (I : ItC)
noncomputable def qZ (b : Bool) (kr k : K) (e1 : aZ) : Hp → aH := fun h =>
 cnd (dD I.nt (some I.yd)) (gM C rec I.nt I.ops I.back (aP C rec I.nt n I.after kB kr k) (bG e1 (some I.yd) (.b b)) h)
noncomputable def aCx (nt : Nat) (p : Tmp) (x y : Code) (env : aZ) (X : Nat → K) (kr kk : K) : K := fun e1 h1 =>
 cnd (dD nt (some p)) (aP C rec nt n x kB cM (aP C rec nt n y
   (fun i _ h2 => qZ C rec n I false (fun _ h3 => X i env h3) cM e1 h2)
   (fun _ h2 => qZ C rec n I false (fun _ h3 => kr env h3) cM e1 h2)
   (fun _ h2 => qZ C rec n I true cM (aP C rec I.nt n I.post kB cM (aP C rec I.nt n I.step kB cM kk)) e1 h2))
  (bG env (some p) (e1 I.yx)) h1)
noncomputable def mY (nt : Nat) (g : Operand) (p : Tmp) (x y : Code) (X : Nat → K) (kr k : K) : K := fun env h =>
 match opr env g with
 | .f gf [] cap => cnd (Nat.beq gf I.gf) (aP C rec I.nt n I.pre kB cM
   (aK (fun kk => aP C rec I.nt n I.test (fun j => bif Nat.beq j I.b0 then (fun _ h => k env h) else cM) cM
    (gM C rec I.nt I.ops I.front (fun e1 h1 => cnd (ylB (e1 I.yt) h.next) (aCx C rec n I nt p x y env X kr kk e1 h1)))) n)
   (aI (.yl h.next :: cap)) (resv 2 h))
 | _ => none
end
structure ItOk (P : Program) (I : ItC) : Prop where
 pre : dT I.pre = true
 test : dT I.test = true
 after : dT I.after = true
 post : dT I.post = true
 step : dT I.step = true
 ops : ∀ o ∈ I.ops.toList, fX o = true
 dst : I.y.dst = some I.yd
 guard : I.y.guard = none
 op : ∃ tys, I.y.op = .call ⟨.value (.tmp I.yt), #[.tmp I.yx], tys⟩
 fn : ∃ fn, P.funcs[I.gf]? = some fn ∧ fn.body = some I.code ∧ fn.ntmps = I.nt ∧ fn.results = #[] ∧ (fn.name == "runtime.NumGoroutine") = false
theorem aPd {ρ : cN} {args : List DV} {args' : Array Value} (hargs : VRs ρ args args'.toList) (nt : Nat) (ds : List Deferred) : EnvR ρ (aI args) { tmps := args' ++ Array.replicate (nt - args'.size) undef, defers := ds } := by
 intro t
 unfold aI
 have hlen := hargs.length
 simp only [Array.length_toList] at hlen
 by_cases ht : t < args.length
 ·have hg : args[t]? = some args[t] := by simp [ht]
  obtain ⟨v', h2, h3⟩ := hargs.get t _ hg
  simp only [Array.getElem?_toList] at h2
  rw [show args.getD t aY = args[t] by simp [List.getD, hg]]
  have : (args' ++ Array.replicate (nt - args'.size) undef).getD t undef = v' := by
   simp [Array.getElem?_append_left (show t < args'.size by omega), h2]
  rw [this]
  exact h3
 ·have hg : args.getD t aY = aY := by simp [List.getD, List.getElem?_eq_none (Nat.le_of_not_lt ht)]
  rw [hg]
  have : (args' ++ Array.replicate (nt - args'.size) undef).getD t undef = undef := by
   rw [Array.getD_eq_getD_getElem?, Array.getElem?_append_right (by omega)]
   simp only [Array.getElem?_replicate]
   split <;> rfl
  rw [this]
  exact .t [] #[] .nil
def GD (G : Gd) (D : Nat) : Gd := ⟨G.B, fun k => G.X k ∨ k = D, G.N, G.W, G.ok⟩
theorem Ex.ofGD {G : Gd} {D : Nat} {ρ ρ' : cN} (h : Ex (GD G D) ρ ρ') : Ex G ρ ρ' := ⟨h.ext, h.new⟩
theorem Kp.ofGD {G : Gd} {D : Nat} {w w' : World} (h : Kp (GD G D) w w') : Kp G w w' := ⟨h.low, fun k hk => h.ex k (.inl hk)⟩
section
variable {C : Cfg} {G : Gd} {rec : FuncId → List DV → Hp → aH} {n : Nat} {I : ItC} {N : Nat}
def StM (DD : List Deferred) (G : Gd) (nt : Nat) (ρ : cN) (w0 : World) (k : K) (r : DV × Hp) (a : Act) (w : World) : Prop :=
 ∃ D ρ' env h, Ex G ρ ρ' ∧ HR (GD G D) ρ' h w ∧ EnvR ρ' env a ∧ Kp G w0 w ∧ nt ≤ a.tmps.size ∧ a.defers = { target := .collected D, args := #[] } :: DD ∧ Own G D ∧ w.heap[D]? = some (.deferred (some [])) ∧ k env h = some r
def QM (DD : List Deferred) (G : Gd) (nt : Nat) (ρ : cN) (w0 : World) (X : Nat → K) (kr k : K) (r : DV × Hp) : Exit → Act → World → Prop
 | .normal, a, w => StM DD G nt ρ w0 k r a w
 | .exit id, a, w => StM DD G nt ρ w0 (X id) r a w
 | .ret, a, w => StM DD G nt ρ w0 kr r a w
 | _, _, _ => False
structure Iv (G : Gd) (ρ : cN) (w0 : World) (D l : Nat) (rc : Loop) (ρ' : cN) (h : Hp) (W : World) : Prop where
 ex : Ex G ρ ρ'
 hr : HR (GD (GD G D) l) ρ' h W
 kp : Kp G w0 W
 hl : W.heap[l]? = some (.loop rc)
 hD : W.heap[D]? = some (.deferred (some []))
def SS (G : Gd) (ρ : cN) (w0 : World) (D l : Nat) (rc : Loop) (ds : List Deferred) (nt : Nat) (K : K) (r : DV × Hp) (a : Act) (W : World) : Prop :=
 ∃ ρ' env h, Iv G ρ w0 D l rc ρ' h W ∧ EnvR ρ' env a ∧ nt ≤ a.tmps.size ∧ a.defers = ds ∧ K env h = some r
def QS (G : Gd) (ρ : cN) (w0 : World) (D l : Nat) (rc : Loop) (ds : List Deferred) (nt : Nat) (X : Nat → K) (kr k : K) (r : DV × Hp) : Exit → Act → World → Prop
 | .normal, a, w => SS G ρ w0 D l rc ds nt k r a w
 | .exit id, a, w => SS G ρ w0 D l rc ds nt (X id) r a w
 | .ret, a, w => SS G ρ w0 D l rc ds nt kr r a w
 | _, _, _ => False
theorem Iv.step {ρ : cN} {w0 : World} {D l : Nat} {rc : Loop} {ρ' ρ2 : cN} {h h2 : Hp} {W W2 : World} (v : Iv G ρ w0 D l rc ρ' h W) (e : Ex (GD (GD G D) l) ρ' ρ2) (H : HR (GD (GD G D) l) ρ2 h2 W2) (k : Kp (GD (GD G D) l) W W2) : Iv G ρ w0 D l rc ρ2 h2 W2 where
 ex := v.ex.trans e.ofGD.ofGD
 hr := H
 kp := v.kp.trans k.ofGD.ofGD
 hl := by rw [k.ex l (.inr rfl)]; exact v.hl
 hD := by rw [k.ex D (.inl (.inr rfl))]; exact v.hD
theorem kC {ro : Option Nat} (K : OkC C rec) (hm : C.P.follows .mixedOrders = true) {ρ : cN} {w0 : World} {D l : Nat} {rc : Loop} {ds : List Deferred} {nt : Nat} {X : Nat → Dd.K} {kr k : Dd.K} {r : DV × Hp} {a : Act} {W : World} (c : Code) (hc : dT c = true)
  (h : SS G ρ w0 D l rc ds nt (aP C rec nt n c X kr k) r a W) : c.wpIn (Fw ro) N C.P (QS G ρ w0 D l rc ds nt X kr k r) a W := by
 obtain ⟨ρ', env, hp, v, he, hnt, hd, hk⟩ := h
 refine wpIn_mono (aZm (DD := ds) (G := GD (GD G D) l) (ρ := ρ') (w0 := W) K hm c hc X kr k a W ⟨ρ', env, hp, Ex.refl _ _, v.hr, he, Kp.refl _ _, hnt, hd, hk⟩) fun e a' w' hq => ?_
 cases e with
 | normal => obtain ⟨ρ2, env2, h2, e1, e2, e3, e4, e5, e6, e7⟩ := hq; exact ⟨ρ2, env2, h2, v.step e1 e2 e4, e3, e5, e6, e7⟩
 | exit id => obtain ⟨ρ2, env2, h2, e1, e2, e3, e4, e5, e6, e7⟩ := hq; exact ⟨ρ2, env2, h2, v.step e1 e2 e4, e3, e5, e6, e7⟩
 | ret => obtain ⟨ρ2, env2, h2, e1, e2, e3, e4, e5, e6, e7⟩ := hq; exact ⟨ρ2, env2, h2, v.step e1 e2 e4, e3, e5, e6, e7⟩
 | goto l => exact hq
 | panic ch => exact hq
 | outgrown => exact hq
theorem cBn {G : Gd} {ro : Option Nat} (K : OkC C rec) {nt : Nat} {DD : List Deferred} {ops : Array Oper} {Q : Exit → Act → World → Prop} {env' : aZ} {h' : Hp} (hops : ∀ o ∈ ops.toList, fX o = true) (hQo : ¬ LetsOut Q) (rest : List Nat) : ∀ (l : List Oper) (i : Nat) (ρ : cN) (env : aZ) (h : Hp) (a : Act) (w : World),
  (∀ j : Nat, j < l.length → l[j]? = ops[i + j]?) → wT C rec nt ops l env h env' h' → HR G ρ h w → EnvR ρ env a → nt ≤ a.tmps.size → a.defers = DD →
  (∀ ρ' a' w', Ex G ρ ρ' → HR G ρ' h' w' → EnvR ρ' env' a' → Kp G w w' → nt ≤ a'.tmps.size → a'.defers = DD → wpOpsIn (Fw ro) N C.P ops Q rest a' w') → wpOpsIn (Fw ro) N C.P ops Q (List.range' i l.length ++ rest) a w
 | [], i, ρ, env, h, a, w, _, hr, H, he, hnt, hd, hQ => by
  obtain ⟨rfl, rfl⟩ := hr
  exact hQ ρ a w (Ex.refl G ρ) H he (Kp.refl G w) hnt hd
 | o :: os, i, ρ, env, h, a, w, hl, hr, H, he, hnt, hd, hQ => by
  obtain ⟨hf, v, h1, hs, hr'⟩ := hr
  have hi : ops[i]? = some o := by simpa using (hl 0 (by simp)).symm
  simp only [List.length_cons, List.range'_succ, List.cons_append]
  rw [wpOpsIn_cons]
  refine aEi (K := fun a w => wpOpsIn (Fw ro) N C.P ops Q (List.range' (i + 1) os.length ++ rest) a w) hops hQo (fun _ _ h => h) (tZ (vW K H he hs) rfl hi H fun ρ' w' v' h2 h3 h4 h5 => ?_)
  refine cBn (DD := DD) K hops hQo rest os (i + 1) ρ' _ h1 _ w' (fun j hj => ?_) hr' h4 (he.put h2.ext h3 hf hnt) (by rw [lG]; exact hnt) (by rw [iP]; exact hd) fun ρ2 a2 w2 e1 e2 e3 e4 e5 e6 => ?_
  ·have := hl (j + 1) (by simpa using hj)
   simpa [Nat.add_assoc, Nat.add_comm 1 j] using this
  ·exact hQ ρ2 a2 w2 (h2.trans e1) e2 e3 (h5.trans e4) e5 e6
theorem aTu {ro : Option Nat} (K : OkC C rec) {ρ : cN} {w0 : World} {D l : Nat} {rc : Loop} {ds : List Deferred} {nt : Nat} {k : Dd.K} {r : DV × Hp} {a : Act} {W : World} {ops : Array Oper} {Q : Exit → Act → World → Prop} (hops : ∀ o ∈ ops.toList, fX o = true) (L : List Oper) (i : Nat) (hL : ∀ j : Nat, j < L.length → L[j]? = ops[i + j]?)
  (hQ : ¬ LetsOut Q) (h : SS G ρ w0 D l rc ds nt (gM C rec nt ops L k) r a W) (rest : List Nat) (hn : ∀ a W, SS G ρ w0 D l rc ds nt k r a W → wpOpsIn (Fw ro) N C.P ops Q rest a W) : wpOpsIn (Fw ro) N C.P ops Q (List.range' i L.length ++ rest) a W := by
 obtain ⟨ρ', env, hp, v, he, hnt, hd, hk⟩ := h
 obtain ⟨env', h', hr, hk'⟩ := mO L k env hp r hk
 exact cBn (G := GD (GD G D) l) (DD := ds) K hops hQ rest L i ρ' env hp a W hL hr v.hr he hnt hd fun ρ2 a2 w2 e1 e2 e3 e4 e5 e6 => hn a2 w2 ⟨ρ2, env', h', v.step e1 e2 e4, e3, e5, e6, hk'⟩
end
end Go.Dd

namespace Go.Dd
open Go.RowKit (Below)
theorem bMb {P : Program} {o : Oper} {a : Act} {W : World} {t x p : Tmp} {tys : Array TypeId} {l : Nat} {rc : Loop} (ho : o.op = .call ⟨.value (.tmp t), #[.tmp x], tys⟩) (ht : a.eval (.tmp t) = .func (.yield l) #[] #[])
  (hl : W.heap[l]? = some (.loop rc)) (hp : rc.params = #[p]) : (execOp a.eval o).run P W = .ok (.round l rc.fn (rc.tmps.setIfInBounds p (a.eval (.tmp x))) rc.assign rc.body) W := by
 have hy := run_yield (P := P) (args := #[a.eval (.tmp x)]) hl (by rw [hp]; rfl)
 rw [hp] at hy
 unfold execOp
 rw [ho]
 simp only [resolve, ht, Deferred.ofValue, Sem.run_bind, Sem.run_pure, Result.andThen, List.map_toArray, List.map_cons, List.map_nil]
 simp only [Array.map, List.map] at *
 simpa [invoke] using hy
section
variable {C : Cfg} {G : Gd} {rec : FuncId → List DV → Hp → aH} {n : Nat} {I : ItC} {N : Nat}
def nV (f : FuncId) (tmps : Array Value) (p : Tmp) (x y : Code) (D : Nat) (st : LoopState) (pe : Option Code) : Loop := { state := st, pending := pe, fn := f, tmps := tmps, params := #[p], assign := x, body := y, defers := D }
theorem Iv.put {ρ : cN} {w0 : World} {D l : Nat} {rc : Loop} {ρ' : cN} {h : Hp} {W : World} (v : Iv G ρ w0 D l rc ρ' h W) (rc' : Loop) (hD : D ≠ l) (hO : Own G l) (hs : ∀ k, G.X k → k < w0.heap.size) (hB : G.B ≤ w0.heap.size) : Iv G ρ w0 D l rc' ρ' h (W.putObj l (.loop rc')) where
 ex := v.ex
 hr := v.hr.putX hO.1 (.inr rfl) v.hl rfl rfl
 kp := v.kp.putX hO hs hB v.hl
 hl := World.putObj_heap_same (Array.getElem?_eq_some_iff.1 v.hl).1
 hD := by rw [World.putObj_heap_other hD]; exact v.hD
def QI (G : Gd) (ρ : cN) (w0 : World) (D l nt : Nat) (rc : LoopState → Option Code → Loop) (env : aZ) (X : Nat → K) (kr k : K) (r : DV × Hp) : Exit → Act → World → Prop
 | .normal, a, w => SS G ρ w0 D l (rc .ready none) [] nt (fun _ h => k env h) r a w
 | .ret, a, w => ∃ c J, ((c = .ret ∧ J = kr) ∨ ∃ i, c = .exit i ∧ J = X i) ∧ SS G ρ w0 D l (rc .done (some c)) [] nt (fun _ h => J env h) r a w
 | _, _, _ => False
theorem ItC.ops_size (I : ItC) : I.ops.size = I.front.length + (I.back.length + 1) := by simp [ItC.ops]
theorem ItC.ops_front (I : ItC) (j : Nat) (h : j < I.front.length) : I.front[j]? = I.ops[0 + j]? := by
 simp [ItC.ops, List.getElem?_append_left h]
theorem ItC.ops_y (I : ItC) : I.ops[I.front.length]? = some I.y := by simp [ItC.ops]
theorem ItC.ops_back (I : ItC) (j : Nat) (h : j < I.back.length) : I.back[j]? = I.ops[I.front.length + 1 + j]? := by
 simp only [ItC.ops, List.getElem?_toArray]
 rw [List.getElem?_append_right (by omega), show I.front.length + 1 + j - I.front.length = j + 1 by omega, List.getElem?_cons_succ]
theorem ItC.ops_range (I : ItC) : List.range I.ops.size = List.range' 0 I.front.length ++ I.front.length :: (List.range' (I.front.length + 1) I.back.length ++ []) := by
 rw [I.ops_size, List.range_eq_range', ← List.range'_append_1, List.append_nil, Nat.zero_add, List.range'_succ]
section
variable {ρ : cN} {w0 : World} {D l : Nat} {nt : Nat} {p : Tmp} {x y : Code} {f0 : FuncId} {a0 : Act} {env : aZ} {X : Nat → Dd.K} {kr k : Dd.K} {r : DV × Hp} {b : Pos}
theorem bLe (K : OkC C rec) (hm : C.P.follows .mixedOrders = true) (iOk : ItOk C.P I) {rc : LoopState → Option Code → Loop} {kk : Dd.K} {Qr : Exit → Act → World → Prop} (hQr : ¬ LetsOut Qr)
  (ih : ∀ a W, SS G ρ w0 D l (rc .ready none) [] I.nt kk r a W → Qr .normal a W) {a : Act} {W : World}
  (h : SS G ρ w0 D l (rc .ready none) [] I.nt (gM C rec I.nt I.ops I.back (aP C rec I.nt n I.after kB cM (aP C rec I.nt n I.post kB cM (aP C rec I.nt n I.step kB cM kk)))) r a W) :
  wpOpsIn (Fw none) N C.P I.ops (Exit.then (I.after.wpIn (Fw none) N C.P (Exit.then (I.post.wpIn (Fw none) N C.P (Exit.inBlock I.b1 (Exit.then (I.step.wpIn (Fw none) N C.P Qr) Qr))) (Exit.inBlock I.b1 (Exit.then (I.step.wpIn (Fw none) N C.P Qr) Qr)))) (Exit.then (I.post.wpIn (Fw none) N C.P (Exit.inBlock I.b1 (Exit.then (I.step.wpIn (Fw none) N C.P Qr) Qr))) (Exit.inBlock I.b1 (Exit.then (I.step.wpIn (Fw none) N C.P Qr) Qr))))
   (List.range' (I.front.length + 1) I.back.length ++ []) a W := by
 refine aTu K iOk.ops I.back (I.front.length + 1) (fun j hj => I.ops_back j hj) ?_ h [] fun a1 W1 h1 => ?_
 ·rintro ⟨a, w, q⟩
  exact hQr ⟨a, w, q⟩
 show I.after.wpIn (Fw none) N C.P _ a1 W1
 refine wpIn_mono (kC K hm I.after iOk.after h1) fun e a2 W2 hq => ?_
 cases e with
 | normal =>
  show I.post.wpIn (Fw none) N C.P _ a2 W2
  refine wpIn_mono (kC K hm I.post iOk.post hq) fun e a3 W3 hq => ?_
  cases e with
  | normal =>
   show I.step.wpIn (Fw none) N C.P Qr a3 W3
   refine wpIn_mono (kC K hm I.step iOk.step hq) fun e a4 W4 hq => ?_
   cases e with
   | normal => exact ih a4 W4 hq
   | exit id => obtain ⟨_, _, _, _, _, _, _, q⟩ := hq; cases q
   | ret => obtain ⟨_, _, _, _, _, _, _, q⟩ := hq; cases q
   | goto l => exact hq.elim
   | panic ch => exact hq.elim
   | outgrown => exact hq.elim
  | exit id => obtain ⟨_, _, _, _, _, _, _, q⟩ := hq; cases q
  | ret => obtain ⟨_, _, _, _, _, _, _, q⟩ := hq; cases q
  | goto l => exact hq.elim
  | panic ch => exact hq.elim
  | outgrown => exact hq.elim
 | exit id => obtain ⟨_, _, _, _, _, _, _, q⟩ := hq; cases q
 | ret => obtain ⟨_, _, _, _, _, _, _, q⟩ := hq; cases q
 | goto l => exact hq.elim
 | panic ch => exact hq.elim
 | outgrown => exact hq.elim
theorem zH (K : OkC C rec) (hm : C.P.follows .mixedOrders = true) (iOk : ItOk C.P I) {rc : Loop} {J : Dd.K} {Qr : Exit → Act → World → Prop} (hQr : ¬ LetsOut Qr)
  (ih : ∀ a W, SS G ρ w0 D l rc [] I.nt J r a W → Qr .ret a W) {a : Act} {W : World}
  (h : SS G ρ w0 D l rc [] I.nt (gM C rec I.nt I.ops I.back (aP C rec I.nt n I.after kB J cM)) r a W) :
  wpOpsIn (Fw none) N C.P I.ops (Exit.then (I.after.wpIn (Fw none) N C.P (Exit.then (I.post.wpIn (Fw none) N C.P (Exit.inBlock I.b1 (Exit.then (I.step.wpIn (Fw none) N C.P Qr) Qr))) (Exit.inBlock I.b1 (Exit.then (I.step.wpIn (Fw none) N C.P Qr) Qr)))) (Exit.then (I.post.wpIn (Fw none) N C.P (Exit.inBlock I.b1 (Exit.then (I.step.wpIn (Fw none) N C.P Qr) Qr))) (Exit.inBlock I.b1 (Exit.then (I.step.wpIn (Fw none) N C.P Qr) Qr))))
   (List.range' (I.front.length + 1) I.back.length ++ []) a W := by
 refine aTu K iOk.ops I.back (I.front.length + 1) (fun j hj => I.ops_back j hj) ?_ h [] fun a1 W1 h1 => ?_
 ·rintro ⟨a, w, q⟩
  exact hQr ⟨a, w, q⟩
 show I.after.wpIn (Fw none) N C.P _ a1 W1
 refine wpIn_mono (kC K hm I.after iOk.after h1) fun e a2 W2 hq => ?_
 cases e with
 | normal => obtain ⟨_, _, _, _, _, _, _, q⟩ := hq; cases q
 | exit id => obtain ⟨_, _, _, _, _, _, _, q⟩ := hq; cases q
 | ret => exact ih a2 W2 hq
 | goto l => exact hq.elim
 | panic ch => exact hq.elim
 | outgrown => exact hq.elim
end
end
end Go.Dd

namespace Go.Dd
open Go.RowKit (Below)
section
variable {C : Cfg} {G : Gd} {rec : FuncId → List DV → Hp → aH} {n : Nat} {I : ItC} {N : Nat}
variable {ρ : cN} {w0 : World} {D l : Nat} {nt : Nat} {p : Tmp} {x y : Code} {f0 : FuncId} {a0 : Act} {env : aZ} {X : Nat → Dd.K} {kr k : Dd.K} {r : DV × Hp} {b : Pos}
noncomputable def aQp (C : Cfg) (rec : FuncId → List DV → Hp → aH) (n : Nat) (I : ItC) (nt : Nat) (p : Tmp) (x y : Code) (env : aZ) (X : Nat → K) (kr k : K) (b : Pos) (kk : K) : K :=
 aP C rec I.nt n I.test (fun j => bif Nat.beq j I.b0 then (fun _ h => k env h) else cM) cM
  (gM C rec I.nt I.ops I.front (fun e1 h1 => cnd (ylB (e1 I.yt) b) (aCx C rec n I nt p x y env X kr kk e1 h1)))
theorem dQg {v : DV} {b : Pos} (h : ylB v b = true) : v = .yl b := by
 unfold ylB at h
 split at h
 ·rename_i b'
  have : b' = b := by simpa using h
  rw [this]
 ·cases h
theorem pX {c : Bool} {q : aH} {z : DV × Hp} (h : cnd c q = some z) : c = true ∧ q = some z := by
 cases c with
 | false => cases h
 | true => exact ⟨rfl, h⟩
theorem Iv.base {rc : Loop} {ρ' : cN} {h : Hp} {W : World} (v : Iv G ρ w0 D l rc ρ' h W) : Iv G ρ' w0 D l rc ρ' h W := ⟨Ex.refl _ _, v.hr, v.kp, v.hl, v.hD⟩
theorem Iv.up {rc : Loop} {ρ' ρ2 : cN} {h : Hp} {W : World} (v : Iv G ρ' w0 D l rc ρ2 h W) (e : Ex G ρ ρ') : Iv G ρ w0 D l rc ρ2 h W := ⟨e.trans v.ex, v.hr, v.kp, v.hl, v.hD⟩
theorem SS.out {rc : Loop} {ds : List Deferred} {nt : Nat} {a : Act} {W : World} (h : SS G ρ w0 D l rc ds nt cM r a W) : False := by
 obtain ⟨_, _, _, _, _, _, _, q⟩ := h
 cases q
theorem cXd (K : OkC C rec) (hm : C.P.follows .mixedOrders = true) (iOk : ItOk C.P I) (hx : dT x = true) (hy : dT y = true) (hDl : D ≠ l) (hOl : Own G l) (hs : ∀ k, G.X k → k < w0.heap.size) (hB : G.B ≤ w0.heap.size)
  (hb : ρ b = some ⟨l, 0, 0, none⟩) (he0 : EnvR ρ env a0) (hnt0 : nt ≤ a0.tmps.size) :
  ∀ (m : Nat) (a : Act) (W : World), SS G ρ w0 D l (nV f0 a0.tmps p x y D .ready none) [] I.nt (aK (aQp C rec n I nt p x y env X kr k b) m) r a W →
   Code.roundsIn (Fw none) N C.P I.round (Exit.inBlock I.b0 (QI G ρ w0 D l I.nt (nV f0 a0.tmps p x y D) env X kr k r)) m a W := by
 intro m
 induction m with
 | zero => intro a W h; exact h.out.elim
 | succ m ih =>
  intro a W h
  rw [roundsIn_succ]
  change SS G ρ w0 D l _ [] I.nt (aQp C rec n I nt p x y env X kr k b (aK (aQp C rec n I nt p x y env X kr k b) m)) r a W at h
  refine wpIn_seq (wpIn_mono (kC K hm I.test iOk.test h) fun e a1 W1 hq => ?_)
  cases e with
  | exit id =>
   obtain ⟨ρ', e', h', v, h2, h3, h4, h5⟩ := hq
   dsimp only at h5
   show Exit.inBlock I.b0 (QI G ρ w0 D l I.nt (nV f0 a0.tmps p x y D) env X kr k r) (.exit id) a1 W1
   cases hid : Nat.beq id I.b0 with
   | false => rw [hid] at h5; cases h5
   | true =>
    rw [hid] at h5
    have e0 : id = I.b0 := Nat.eq_of_beq_eq_true hid
    unfold Exit.inBlock
    simp only
    rw [if_pos e0]
    exact ⟨ρ', e', h', v, h2, h3, h4, h5⟩
  | ret => exact (SS.out hq).elim
  | goto l => exact hq.elim
  | panic ch => exact hq.elim
  | outgrown => exact hq.elim
  | normal =>
   have hQr : ¬ LetsOut (Exit.then (Code.roundsIn (Fw none) N C.P I.round (Exit.inBlock I.b0 (QI G ρ w0 D l I.nt (nV f0 a0.tmps p x y D) env X kr k r)) m) (Exit.inBlock I.b0 (QI G ρ w0 D l I.nt (nV f0 a0.tmps p x y D) env X kr k r))) := fun ⟨_, _, q⟩ => q
   show (Code.seq _ _).wpIn (Fw none) N C.P _ a1 W1
   refine wpIn_seq (wpIn_block (wpIn_seq (wpIn_seq (wpIn_region ?_))))
   rw [I.ops_range]
   refine aTu K iOk.ops I.front 0 (fun j hj => I.ops_front j hj) ?_ hq _ fun a2 W2 h2 => ?_
   ·rintro ⟨_, _, q⟩
    exact q
   obtain ⟨ρ', e1, h1, v, he, hnt, hd, hk⟩ := h2
   obtain ⟨hyl, hk⟩ := pX hk
   obtain ⟨hfp, hk⟩ := pX hk
   have hyv := he I.yt
   rw [dQg hyl] at hyv
   obtain ⟨L, hL, hyv'⟩ : ∃ L, ρ' b = some L ∧ a2.tmps.getD I.yt undef = .func (.yield L.bl) #[] #[] := by
    generalize hz : a2.tmps.getD I.yt undef = z at hyv
    cases hyv with
    | yl _ L h => exact ⟨L, h, rfl⟩
   rw [v.ex.ext _ _ hb] at hL
   cases hL
   obtain ⟨tys, hop⟩ := iOk.op
   have hrun := bMb (P := C.P) (a := a2) (W := W2) hop hyv' v.hl rfl
   rw [wpOpsIn_cons]
   unfold wpOpIn
   rw [I.ops_y]
   have hw : Region.wanted I.y (yielded I.ops a2.tmps) = true := by simp [Region.wanted, iOk.guard]
   simp only [hw, if_true]
   refine ⟨fun _ _ => trivial, ?_⟩
   show I.y.uponIn (Fw none) N C.P a2 _ _ ((execOp a2.eval I.y).run C.P W2)
   rw [hrun]
   refine ⟨fun e => (by cases e), roundIn_of_wpIn (F := Fw none) trivial ?_⟩
   have put : ∀ (rc' : Loop) {ρ1 ρ2 : cN} {h2 : Hp} {W3 : World} {rc : Loop}, Iv G ρ1 w0 D l rc ρ2 h2 W3 → Iv G ρ1 w0 D l rc' ρ2 h2 (W3.putObj l (.loop rc')) := fun rc' _ _ _ _ _ v => v.put rc' hDl hOl hs hB
   have hass : SS G ρ' w0 D l (nV f0 a0.tmps p x y D .ready none) [] nt (aP C rec nt n x kB cM (aP C rec nt n y
     (fun i _ h2 => qZ C rec n I false (fun _ h3 => X i env h3) cM e1 h2)
     (fun _ h2 => qZ C rec n I false (fun _ h3 => kr env h3) cM e1 h2)
     (fun _ h2 => qZ C rec n I true cM (aP C rec I.nt n I.post kB cM (aP C rec I.nt n I.step kB cM (aK (aQp C rec n I nt p x y env X kr k b) m))) e1 h2))) r
     { tmps := a0.tmps.setIfInBounds p (a2.eval (.tmp I.yx)), defers := [] } W2 :=
    ⟨ρ', bG env (some p) (e1 I.yx), h1, v.base, (he0.mono v.ex.ext).put (fun _ _ h => h) (he I.yx) hfp hnt0, by simpa using hnt0, rfl, hk⟩
   refine wpIn_mono (kC (ro := some l) K hm x hx hass) fun e a3 W3 hq => ?_
   cases e with
   | exit id => exact (SS.out hq).elim
   | ret => exact (SS.out hq).elim
   | goto l => exact hq.elim
   | panic ch => exact hq.elim
   | outgrown => exact hq.elim
   | normal =>
    obtain ⟨ρ3, e3, h3, v3, he3, hnt3, hd3, hk3⟩ := hq
    refine ⟨_, run_beginRound v3.hl rfl, ?_⟩
    have v4 := put (nV f0 a0.tmps p x y D .busy none) v3
    have key : ∀ (bb : Bool) (kr' k' : Dd.K) {ρ5 : cN} {h5 : Hp} {W5 : World} {rc : Loop}, Iv G ρ w0 D l rc ρ5 h5 W5 → Ext ρ' ρ5 → qZ C rec n I bb kr' k' e1 h5 = some r →
      SS G ρ w0 D l rc [] I.nt (gM C rec I.nt I.ops I.back (aP C rec I.nt n I.after kB kr' k')) r (a2.put (some I.yd) (.bool bb)) W5 := by
     intro bb kr' k' ρ5 h5 W5 rc v5 hext hbk
     obtain ⟨hf5, hk5⟩ := pX hbk
     exact ⟨ρ5, _, h5, v5, he.put hext (.b bb) hf5 hnt, by rw [lG]; exact hnt, by rw [iP]; exact hd, hk5⟩
    refine wpIn_mono (kC (ro := some l) K hm y hy ⟨ρ3, e3, h3, v4, he3, hnt3, hd3, hk3⟩) fun e a5 W5 hq => ?_
    cases e with
    | normal =>
     obtain ⟨ρ5, e5, h5, v5, he5, hnt5, hd5, hk5⟩ := hq
     refine ⟨_, _, run_endRound none v5.hl, ?_⟩
     show wpOpsIn (Fw none) N C.P I.ops _ _ (a2.put I.y.dst (.bool true)) _
     rw [iOk.dst]
     exact bLe K hm iOk hQr (fun a W h => ih a W h) (key true _ _ ((put (nV f0 a0.tmps p x y D .ready none) v5).up v.ex) v5.ex.ext hk5)
    | exit i =>
     obtain ⟨ρ5, e5, h5, v5, he5, hnt5, hd5, hk5⟩ := hq
     refine ⟨_, _, run_endRound (some (.exit i)) v5.hl, ?_⟩
     show wpOpsIn (Fw none) N C.P I.ops _ _ (a2.put I.y.dst (.bool false)) _
     rw [iOk.dst]
     exact zH K hm iOk hQr (fun a W h => ⟨_, X i, .inr ⟨i, rfl, rfl⟩, h⟩) (key false _ _ ((put (nV f0 a0.tmps p x y D .done (some (.exit i))) v5).up v.ex) v5.ex.ext hk5)
    | ret =>
     obtain ⟨ρ5, e5, h5, v5, he5, hnt5, hd5, hk5⟩ := hq
     refine ⟨_, _, run_endRound (some .ret) v5.hl, ?_⟩
     show wpOpsIn (Fw none) N C.P I.ops _ _ (a2.put I.y.dst (.bool false)) _
     rw [iOk.dst]
     exact zH K hm iOk hQr (fun a W h => ⟨_, kr, .inl ⟨rfl, rfl⟩, h⟩) (key false _ _ ((put (nV f0 a0.tmps p x y D .done (some .ret)) v5).up v.ex) v5.ex.ext hk5)
    | goto l => exact hq.elim
    | panic ch => exact hq.elim
    | outgrown => exact hq.elim
end
end Go.Dd

namespace Go.Dd
open Go.RowKit (Below)
section
variable {C : Cfg} {G : Gd} {rec : FuncId → List DV → Hp → aH} {n : Nat} {I : ItC} {N : Nat}
theorem aGw {P : Program} {fn : Func} (h : fn.results = #[]) (tmps : Array Value) (w : World) : ∃ v, (results fn tmps).run P w = .ok v w := by
 rw [oS, h]
 exact ⟨.tuple #[], by simp [go_sem]⟩
theorem cFo (K : OkC C rec) (hm : C.P.follows .mixedOrders = true) (iOk : ItOk C.P I) {DD : List Deferred} {nt : Nat} {ρ : cN} {w0 : World} {g : Operand} {p : Tmp} {x y : Code} (hx : dT x = true) (hy : dT y = true)
  {X : Nat → Dd.K} {kr k : Dd.K} {r : DV × Hp} {a : Act} {w : World} (h : St DD G nt ρ w0 (mY C rec n I nt g p x y X kr k) r a w) :
  (Code.rangeFunc g #[p] x y).wpIn (Fw none) N C.P (QM DD G nt ρ w0 X kr k r) a w := by
 obtain ⟨ρ1, env, h0, e1, H, he, kp, hnt, hd, hk⟩ := h
 unfold mY at hk
 split at hk <;> (try (cases hk; done))
 rename_i gf cap hg
 obtain ⟨hgf, hk2⟩ := pX hk
 clear hk
 have hgf' : gf = I.gf := Nat.eq_of_beq_eq_true hgf
 subst hgf'
 have hv := bE he g
 rw [hg] at hv
 obtain ⟨lb, hlb, hge⟩ : ∃ lb, VRs ρ1 cap lb.toList ∧ a.eval g = .func (.func I.gf) #[] lb := by
  generalize a.eval g = z at hv
  cases hv with
  | f _ _ _ x' y' h1 h2 =>
   refine ⟨y', h2, ?_⟩
   have : x' = #[] := by
    obtain ⟨q⟩ := x'
    cases h1
    rfl
   rw [this]
 obtain ⟨fnI, hf, hb, hntI, hres, hname⟩ := iOk.fn
 refine wpIn_rangeFunc ?_
 intro fn _
 obtain ⟨W1, hW1⟩ : ∃ W1, (w.alloc (.deferred (some []))).alloc (.loop (nV fn a.tmps p x y w.heap.size .ready none)) = W1 := ⟨_, rfl⟩
 have hL1 : W1.heap[w.heap.size + 1]? = some (.loop (nV fn a.tmps p x y w.heap.size .ready none)) := by
  rw [← hW1]
  have := World.alloc_heap_new (w.alloc (.deferred (some []))) (.loop (nV fn a.tmps p x y w.heap.size .ready none))
  rwa [World.size_alloc] at this
 have hD1 : W1.heap[w.heap.size]? = some (.deferred (some [])) := by
  rw [← hW1]
  exact (Below.heap_alloc _ _ _ (by simp)).trans (World.alloc_heap_new w _)
 obtain ⟨iargs, hia⟩ : ∃ iargs : Array Value, #[Value.func (.yield (w.heap.size + 1)) #[] #[]] ++ lb = iargs := ⟨_, rfl⟩
 refine ⟨w.heap.size + 1, [{ target := .collected w.heap.size, args := #[] }], W1, { target := .fn (.func I.gf) lb, args := #[Value.func (.yield (w.heap.size + 1)) #[] #[]] }, W1, I.gf,
  iargs, W1, ?_, ?_, fun _ _ => trivial, ?_, fun e => (by cases e), ?_⟩
 ·rw [← hW1]
  exact run_enterLoop_outer _ _ _ _ _
 ·simp only [resolve, hge]
  simp [go_sem]
 ·have hn : ¬ fnI.name = "runtime.NumGoroutine" := by simpa using hname
  unfold invoke
  simp only
  rw [hia]
  unfold callFunc
  simp [hf, hn, hb]
 ·
  have hno : ∀ b : Pos, h0.next.toNat ≤ b.toNat → ρ1 b = none := fun b hb => by
   cases e : ρ1 b with
   | none => rfl
   | some L => have := H.lt b L e; omega
  obtain ⟨n1, n2⟩ := rK 2 h0
  have hN2 : (resv 2 h0).next.toNat = h0.next.toNat + 2 := by rw [n1, dJ]
  have hsucc := eMv h0.next
  have H1 := H.reserve 2
  have H2 := H1.earlyO (b := h0.next.succ) (hno _ (by omega)) (by omega) (.deferred (some []))
  have hne : h0.next ≠ h0.next.succ := fun e => by have := congrArg Pos.toNat e; omega
  have H3 := H2.earlyO (b := h0.next) (by rw [aV _ _ hne]; exact hno _ (Nat.le_refl _)) (by omega) (.loop (nV fn a.tmps p x y w.heap.size .ready none))
  rw [hW1] at H3
  obtain ⟨ρ2, hρ2⟩ : ∃ ρ2, mH (mH ρ1 h0.next.succ ⟨w.heap.size, 0, 0, none⟩) h0.next ⟨(w.alloc (.deferred (some []))).heap.size, 0, 0, none⟩ = ρ2 := ⟨_, rfl⟩
  rw [hρ2] at H3
  have hb2 : ρ2 h0.next = some ⟨w.heap.size + 1, 0, 0, none⟩ := by rw [← hρ2, cB, World.size_alloc]
  have ex2 : Ex G ρ1 ρ2 := by
   refine ⟨fun b L hL => ?_, fun b L hL => ?_⟩
   ·have h1 : b ≠ h0.next := fun e => by rw [e, hno _ (Nat.le_refl _)] at hL; cases hL
    have h2 : b ≠ h0.next.succ := fun e => by rw [e, hno _ (by omega)] at hL; cases hL
    rw [← hρ2, aV _ _ h1, aV _ _ h2]
    exact hL
   ·have hx := H.nx
    by_cases h1 : b = h0.next
    ·exact .inr (by rw [h1]; exact hx)
    ·by_cases h2 : b = h0.next.succ
     ·exact .inr (by rw [h2]; omega)
     ·rw [← hρ2, aV _ _ h1, aV _ _ h2] at hL
      exact .inl hL
  have H4 : HR (GD (GD G w.heap.size) (w.heap.size + 1)) ρ2 (resv 2 h0) W1 := H3.weak rfl (fun k hk => by rw [World.size_alloc]; exact hk) (by have := H.nx; show G.N ≤ (resv 2 h0).next.toNat; omega) rfl
  have kp1 : Kp G w W1 := by
   rw [← hW1]
   refine (dV H.sz _).trans (dV ⟨?_, fun k hk => ?_⟩ _)
   ·have := H.sz.1; simp; omega
   ·have := H.sz.2 k hk; simp; omega
  have hOD : Own G w.heap.size := ⟨H.sz.1, fun hX => Nat.lt_irrefl _ (H.sz.2 _ hX)⟩
  have hOl : Own G (w.heap.size + 1) := ⟨by have := H.sz.1; omega, fun hX => by have := H.sz.2 _ hX; omega⟩
  have hbody : I.code.wpIn (Fw none) (N - 1) C.P (QI G ρ2 w w.heap.size (w.heap.size + 1) I.nt (nV fn a.tmps p x y w.heap.size) env X kr k r)
    { tmps := iargs ++ Array.replicate (fnI.ntmps - iargs.size) undef, defers := [] } W1 := by
   have hargs : VRs ρ2 (.yl h0.next :: cap) iargs.toList := by
    rw [← hia]
    have := VRs.cons (ρ := ρ2) _ _ _ _ (.yl h0.next _ hb2) (hlb.mono ex2.ext)
    simpa using this
   have hss : SS G ρ2 w w.heap.size (w.heap.size + 1) (nV fn a.tmps p x y w.heap.size .ready none) [] I.nt
     (aP C rec I.nt n I.pre kB cM (aK (aQp C rec n I nt p x y env X kr k h0.next) n)) r
     { tmps := iargs ++ Array.replicate (fnI.ntmps - iargs.size) undef, defers := [] } W1 :=
    ⟨ρ2, _, _, ⟨Ex.refl _ _, H4, kp1, hL1, hD1⟩, aPd hargs _ _, by rw [hntI]; simp; omega, rfl, hk2⟩
   refine wpIn_seq (wpIn_mono (kC K hm I.pre iOk.pre hss) fun e a1 W2 hq => ?_)
   cases e with
   | exit id => exact (SS.out hq).elim
   | ret => exact (SS.out hq).elim
   | goto l => exact hq.elim
   | panic ch => exact hq.elim
   | outgrown => exact hq.elim
   | normal =>
    show (Code.block I.b0 (.loop I.round)).wpIn (Fw none) (N - 1) C.P _ a1 W2
    exact wpIn_block (wpIn_loop_rounds n (cXd K hm iOk hx hy (by omega) hOl H.sz.2 H.sz.1 hb2 (he.mono ex2.ext) hnt n a1 W2 hq))
  refine callsIn_of_wp hf hb trivial (wpIn_mono hbody fun e a' W' hq => ?_)
  have fin : ∀ (rc : Loop) (J : Dd.K), rc.state ≠ .busy → SS G ρ2 w w.heap.size (w.heap.size + 1) rc [] I.nt (fun _ h => J env h) r a' W' →
    a'.defers = [] ∧ (Instr.endLoop (w.heap.size + 1)).run C.P W' = .ok rc.pending (W'.putObj (w.heap.size + 1) (.loop { rc with state := .exhausted })) ∧
    StM DD G nt ρ w0 J r { a with defers := [{ target := .collected w.heap.size, args := #[] }] ++ a.defers } (W'.putObj (w.heap.size + 1) (.loop { rc with state := .exhausted })) := by
   rintro rc J hst ⟨ρ', e', h', v, _, _, hd', hk'⟩
   have v' := v.put { rc with state := .exhausted } (by omega) hOl H.sz.2 H.sz.1
   refine ⟨hd', run_endLoop v.hl hst, w.heap.size, ρ', env, h', e1.trans (ex2.trans v.ex), v'.hr.weak rfl (fun k hk => .inl hk) (Nat.le_refl _) rfl, he.mono (ex2.trans v.ex).ext, kp.trans v'.kp, hnt, ?_, hOD, v'.hD, hk'⟩
   rw [← hd]
   rfl
  obtain ⟨vv, hvv⟩ := aGw (P := C.P) hres a'.tmps W'
  cases e with
  | normal =>
   obtain ⟨q1, q2, q3⟩ := fin _ k (by intro e; cases e) hq
   exact ⟨q1, vv, hvv, _, _, q2, q3⟩
  | ret =>
   obtain ⟨c, J, hcj, hss⟩ := hq
   obtain ⟨q1, q2, q3⟩ := fin _ J (by intro e; cases e) hss
   refine ⟨q1, vv, hvv, _, _, q2, ?_⟩
   rcases hcj with ⟨rfl, rfl⟩ | ⟨i, rfl, rfl⟩
   ·exact wpIn_ret q3
   ·exact wpIn_exit q3
  | exit id => exact hq.elim
  | goto l => exact hq.elim
  | panic ch => exact hq.elim
  | outgrown => exact hq.elim
end
end Go.Dd

namespace Go.Dd
open Go.RowKit (Below)
noncomputable def dIu (ps : Array Tmp) (k : Tmp → K) : K := match ps.toList with
 | [p] => k p
 | _ => cM
section
variable (C : Cfg) (rec : FuncId → List DV → Hp → aH) (nt n : Nat) (I : ItC)
noncomputable def nZ (c : Code) : (Nat → K) → K → K → K :=
 Code.rec (motive := fun _ => (Nat → K) → K → K → K)
  (fun _ _ k => k)
  (fun _ ops dr _ _ k => Bool.rec (motive := fun _ => K) (gM C rec nt ops ops.toList k) (Bool.rec (motive := fun _ => K) cM (gQ C rec nt ops k) (eE C.P ops)) dr)
  (fun _ _ iha ihb X kr k => iha X kr (ihb X kr k))
  (fun c _ _ iha ihb X kr k => fun env h => aU (opr env c) (iha X kr k env h) (ihb X kr k env h))
  (fun id _ ih X kr k => ih (fun j => bif Nat.beq j id then k else X j) kr k)
  (fun _ ih X kr _ => aK (fun kk => ih X kr kk) n)
  (fun g ps x y _ _ X kr k => dIu ps fun p => mY C rec n I nt g p x y X kr k)
  (fun id X _ _ => X id)
  (fun _ _ _ _ _ => cM)
  (fun _ _ _ _ => cM)
  (fun _ _ _ _ => cM)
  (fun _ kr _ => kr)
  (fun _ _ _ _ => cM) c
noncomputable def jF (f : FuncId) (args : List DV) (h : Hp) : aH :=
 match C.P.funcs[f]? with
 | some fn => match fn.body with
  | some c => nZ C rec fn.ntmps n I c (fun _ => cM) (aQ C fn) (aQ C fn) (aI args) h
  | none => none
 | none => none
end
def fZ : Code → Bool
 | .skip => true
 | .region _ ops _ => ops.toList.all fX
 | .seq x y => fZ x && fZ y
 | .cond _ x y => fZ x && fZ y
 | .block _ x => fZ x
 | .loop x => fZ x
 | .rangeFunc _ _ x y => dT x && dT y
 | .exit _ => true
 | .ret => true
 | _ => false
def GDs (G : Gd) (Ds : List Nat) : Gd := ⟨G.B, fun k => G.X k ∨ k ∈ Ds, G.N, G.W, G.ok⟩
def mkD (D : Nat) : Deferred := { target := .collected D, args := #[] }
theorem Ex.ofGDs {G : Gd} {Ds : List Nat} {ρ ρ' : cN} (h : Ex (GDs G Ds) ρ ρ') : Ex G ρ ρ' := ⟨h.ext, h.new⟩
theorem Kp.ofGDs {G : Gd} {Ds : List Nat} {w w' : World} (h : Kp (GDs G Ds) w w') : Kp G w w' := ⟨h.low, fun k hk => h.ex k (.inl hk)⟩
section
variable {C : Cfg} {G : Gd} {rec : FuncId → List DV → Hp → aH} {nt n : Nat} {I : ItC}
def StL (G : Gd) (nt : Nat) (ρ : cN) (w0 : World) (k : K) (r : DV × Hp) (a : Act) (w : World) : Prop :=
 ∃ Ds ρ' env h, Ex G ρ ρ' ∧ HR (GDs G Ds) ρ' h w ∧ EnvR ρ' env a ∧ Kp G w0 w ∧ nt ≤ a.tmps.size ∧ a.defers = Ds.map mkD ∧ Ds.Nodup ∧ (∀ D ∈ Ds, Own G D ∧ w.heap[D]? = some (.deferred (some []))) ∧ k env h = some r
def QL (G : Gd) (nt : Nat) (ρ : cN) (w0 : World) (X : Nat → K) (kr k : K) (r : DV × Hp) : Exit → Act → World → Prop
 | .normal, a, w => StL G nt ρ w0 k r a w
 | .exit id, a, w => StL G nt ρ w0 (X id) r a w
 | .ret, a, w => StL G nt ρ w0 kr r a w
 | _, _, _ => False
theorem bOf {N : Nat} (K : OkC C rec) (hm : C.P.follows .mixedOrders = true) (iOk : ItOk C.P I) {ρ : cN} {w0 : World} {r : DV × Hp} : ∀ (c : Code), fZ c = true → ∀ (X : Nat → Dd.K) (kr k : Dd.K) (a : Act) (w : World),
  StL G nt ρ w0 (nZ C rec nt n I c X kr k) r a w → c.wpIn (Fw none) N C.P (QL G nt ρ w0 X kr k r) a w := by
 have plain : ∀ (c : Code), dT c = true → ∀ (X : Nat → Dd.K) (kr k : Dd.K) (a : Act) (w : World), StL G nt ρ w0 (aP C rec nt n c X kr k) r a w → c.wpIn (Fw none) N C.P (QL G nt ρ w0 X kr k r) a w := by
  rintro c hc X kr k a w ⟨Ds, ρ', env, h, e1, e2, e3, e4, e5, e6, e7, e8, e9⟩
  have back : ∀ (J : Dd.K) (a' : Act) (w' : World), St (Ds.map mkD) (GDs G Ds) nt ρ' w J r a' w' → StL G nt ρ w0 J r a' w' := by
   rintro J a' w' ⟨ρ2, env2, h2, q1, q2, q3, q4, q5, q6, q7⟩
   exact ⟨Ds, ρ2, env2, h2, e1.trans q1.ofGDs, q2, q3, e4.trans q4.ofGDs, q5, q6, e7, fun D hD => ⟨(e8 D hD).1, by rw [q4.ex D (.inr hD)]; exact (e8 D hD).2⟩, q7⟩
  refine wpIn_mono (aZm (DD := Ds.map mkD) (G := GDs G Ds) (ρ := ρ') (w0 := w) K hm c hc X kr k a w ⟨ρ', env, h, Ex.refl _ _, e2, e3, Kp.refl _ _, e5, e6, e9⟩) fun e a' w' hq => ?_
  cases e with
  | normal => exact back _ _ _ hq
  | exit id => exact back _ _ _ hq
  | ret => exact back _ _ _ hq
  | goto l => exact hq
  | panic ch => exact hq
  | outgrown => exact hq
 intro c
 induction c with
 | skip => intro _ X kr k a w h; exact wpIn_skip h
 | region id ops dr => intro hpc X kr k a w h; exact plain (.region id ops dr) hpc X kr k a w h
 | seq x y ihx ihy =>
  intro hpc X kr k a w h
  simp only [fZ, Bool.and_eq_true] at hpc
  refine wpIn_seq (wpIn_mono (ihx hpc.1 X kr (nZ C rec nt n I y X kr k) a w h) fun e a' w' hq => ?_)
  cases e with
  | normal => exact ihy hpc.2 X kr k a' w' hq
  | exit id => exact hq
  | ret => exact hq
  | goto l => exact hq
  | panic ch => exact hq
  | outgrown => exact hq
 | cond c x y ihx ihy =>
  intro hpc X kr k a w h
  simp only [fZ, Bool.and_eq_true] at hpc
  obtain ⟨Ds, ρ', env, hp, h1, h2, h3, h4, h5, h6, h8, h9, h7⟩ := h
  change aU (opr env c) (nZ C rec nt n I x X kr k env hp) (nZ C rec nt n I y X kr k env hp) = some r at h7
  have hc := bE h3 c
  unfold aU at h7
  split at h7 <;> (try (cases h7; done))
  ·rename_i hcb
   rw [hcb] at hc
   generalize hcv : a.eval c = cv at hc
   cases hc
   exact wpIn_cond_true hcv (ihx hpc.1 X kr k a w ⟨Ds, ρ', env, hp, h1, h2, h3, h4, h5, h6, h8, h9, h7⟩)
  ·rename_i hcb
   rw [hcb] at hc
   generalize hcv : a.eval c = cv at hc
   cases hc
   exact wpIn_cond_false hcv (ihy hpc.2 X kr k a w ⟨Ds, ρ', env, hp, h1, h2, h3, h4, h5, h6, h8, h9, h7⟩)
 | block id x ih =>
  intro hpc X kr k a w h
  refine wpIn_block (wpIn_mono (ih hpc (fun j => bif Nat.beq j id then k else X j) kr k a w h) fun e a' w' hq => ?_)
  cases e with
  | normal => exact hq
  | exit id' =>
   simp only [QL] at hq
   simp only [Exit.inBlock, QL]
   split
   ·rename_i e
    subst e
    have hb : Nat.beq id' id' = true := Nat.beq_refl id'
    rw [hb] at hq
    exact hq
   ·rename_i e
    have : Nat.beq id' id = false := by
     cases hb : Nat.beq id' id with
     | false => rfl
     | true => exact absurd (Nat.eq_of_beq_eq_true hb) e
    rw [this] at hq
    exact hq
  | ret => exact hq
  | goto l => exact hq
  | panic ch => exact hq
  | outgrown => exact hq
 | loop x ih =>
  intro hpc X kr k a w h
  have key : ∀ (m : Nat) (a : Act) (w : World), StL G nt ρ w0 (aK (fun kk => nZ C rec nt n I x X kr kk) m) r a w → Code.roundsIn (Fw none) N C.P x (QL G nt ρ w0 X kr k r) m a w := by
   intro m
   induction m with
   | zero =>
    rintro a w ⟨Ds, ρ', env, hp, h1, h2, h3, h4, h5, h6, h8, h9, h7⟩
    cases h7
   | succ m ihm =>
    intro a w hs
    rw [roundsIn_succ]
    refine wpIn_mono (ih hpc X kr (aK (fun kk => nZ C rec nt n I x X kr kk) m) a w hs) fun e a' w' hq => ?_
    cases e with
    | normal => exact ihm a' w' hq
    | exit id => exact hq
    | ret => exact hq
    | goto l => exact hq
    | panic ch => exact hq
    | outgrown => exact hq
  exact wpIn_loop_rounds n (key n a w h)
 | rangeFunc g ps x y ihx ihy =>
  intro hpc X kr k a w h
  simp only [fZ, Bool.and_eq_true] at hpc
  obtain ⟨Ds, ρ', env, hp, h1, h2, h3, h4, h5, h6, h8, h9, h7⟩ := h
  change dIu ps (fun p => mY C rec n I nt g p x y X kr k) env hp = some r at h7
  obtain ⟨p, hps, h7⟩ : ∃ p, ps = #[p] ∧ mY C rec n I nt g p x y X kr k env hp = some r := by
   unfold dIu at h7
   obtain ⟨l⟩ := ps
   match l, h7 with
   | [p], h7 => exact ⟨p, rfl, h7⟩
   | [], h7 => cases h7
   | _ :: _ :: _, h7 => cases h7
  subst hps
  have back : ∀ (J : Dd.K) (a' : Act) (w' : World), StM (Ds.map mkD) (GDs G Ds) nt ρ' w J r a' w' → StL G nt ρ w0 J r a' w' := by
   rintro J a' w' ⟨D, ρ2, env2, h2, q1, q2, q3, q4, q5, q6, q7, q8, q9⟩
   have hn : D ∉ Ds := fun hD => q7.2 (.inr hD)
   refine ⟨D :: Ds, ρ2, env2, h2, h1.trans q1.ofGDs, q2.weak rfl (fun k hk => ?_) (Nat.le_refl _) rfl, q3, h4.trans q4.ofGDs, q5, q6, List.nodup_cons.2 ⟨hn, h8⟩, fun E hE => ?_, q9⟩
   ·rcases hk with hk | hk
    ·exact .inl (.inl hk)
    ·rcases List.mem_cons.1 hk with rfl | hk
     ·exact .inr rfl
     ·exact .inl (.inr hk)
   ·rcases List.mem_cons.1 hE with rfl | hE
    ·exact ⟨⟨q7.1, fun hX => q7.2 (.inl hX)⟩, q8⟩
    ·exact ⟨(h9 E hE).1, by rw [q4.ex E (.inr hE)]; exact (h9 E hE).2⟩
  refine wpIn_mono (cFo (DD := Ds.map mkD) (G := GDs G Ds) (ρ := ρ') (w0 := w) K hm iOk hpc.1 hpc.2 ⟨ρ', env, hp, Ex.refl _ _, h2, h3, Kp.refl _ _, h5, h6, h7⟩) fun e a' w' hq => ?_
  cases e with
  | normal => exact back _ _ _ hq
  | exit id => exact back _ _ _ hq
  | ret => exact back _ _ _ hq
  | goto l => exact hq
  | panic ch => exact hq
  | outgrown => exact hq
 | exit id => intro _ X kr k a w h; exact wpIn_exit h
 | ret => intro _ X kr k a w h; exact wpIn_ret h
 | _ => intro hpc; cases hpc
theorem bDi {N : Nat} {fn : Func} {ρ : cN} {w0 : World} {v : DV} {h1 : Hp} {a : Act} : ∀ (Ds : List Nat) (w : World), (∃ ρ' env h, Ex G ρ ρ' ∧ HR (GDs G Ds) ρ' h w ∧ EnvR ρ' env a ∧ Kp G w0 w ∧ aQ C fn env h = some (v, h1)) →
  G.B ≤ w0.heap.size → (∀ k, G.X k → k < w0.heap.size) → Ds.Nodup → (∀ D ∈ Ds, Own G D ∧ w.heap[D]? = some (.deferred (some []))) →
  LeavesInM (Fw none) N C.P fn a.tmps (jB G ρ w0 v h1) (Ds.map mkD) .returning w
 | [], w, ⟨ρ', env, h, e1, e2, e3, e4, e5⟩, _, _, _, _ => by
  obtain ⟨rfl, v', r1, r2⟩ := uM e2 e3 e5
  exact ⟨v', r1, ρ', v', rfl, e1, r2, e2.weak rfl (fun k hk => .inl hk) (Nat.le_refl _) rfl, e4⟩
 | D :: Ds, w, ⟨ρ', env, h, e1, e2, e3, e4, e5⟩, hB, hs, hnd, hD => by
  obtain ⟨o1, o2⟩ := hD D (by simp)
  have hnd' := List.nodup_cons.1 hnd
  refine ⟨by simp, .inl ⟨D, _, rfl, run_takeDeferred o2, ?_⟩⟩
  refine bDi Ds _ ⟨ρ', env, h, e1, (e2.putX (l := D) (o := .deferred (some [])) (o' := .deferred none) o1.1 (.inr (by simp)) o2 rfl rfl).weak rfl (fun k hk => ?_) (Nat.le_refl _) rfl, e3, e4.putX o1 hs hB o2, e5⟩ hB hs hnd'.2 fun E hE => ?_
  ·rcases hk with hk | hk
   ·exact .inl hk
   ·exact .inr (List.mem_cons_of_mem _ hk)
  ·have hne : E ≠ D := fun e => hnd'.1 (by rw [← e]; exact hE)
   exact ⟨(hD E (List.mem_cons_of_mem _ hE)).1, by rw [World.putObj_heap_other hne]; exact (hD E (List.mem_cons_of_mem _ hE)).2⟩
theorem bRp (K : OkC C rec) (hP : POk C.P) (iOk : ItOk C.P I) (n : Nat) (f : FuncId) (hc : ∀ fn c, C.P.funcs[f]? = some fn → fn.body = some c → fZ c = true) : kA C.P G f (jF C rec n I f) := by
 intro args h v h1 hr ρ w args' H hargs
 unfold jF at hr
 split at hr <;> (try (cases hr; done))
 rename_i fn hf
 split at hr <;> (try (cases hr; done))
 rename_i c hb
 refine .inl ⟨?_, ?_⟩
 ·unfold callFunc
  have hn : ¬ fn.name = "runtime.NumGoroutine" := by simpa using hP.names f fn hf
  simp [hf, hn, hb]
 ·refine (callsIn_wide (n := 3)).1 ?_
  show CallsIn (Fw none) 3 C.P f args' w _
  refine callsIn_of_wp_marks hf hb trivial ?_
  have he := aPd hargs fn.ntmps []
  have hst : StL G fn.ntmps ρ w (nZ C rec fn.ntmps n I c (fun _ => cM) (aQ C fn) (aQ C fn)) (v, h1) { tmps := args' ++ Array.replicate (fn.ntmps - args'.size) undef, defers := [] } w :=
   ⟨[], ρ, aI args, h, Ex.refl G ρ, H.weak rfl (fun k hk => by rcases hk with hk | hk; exact hk; cases hk) (Nat.le_refl _) rfl, he, Kp.refl G w, by simp; omega, rfl, List.nodup_nil, (by simp), hr⟩
  refine wpIn_mono (bOf K hP.mixed iOk c (hc fn c hf hb) _ _ _ _ _ hst) fun e a' w' hq => ?_
  have hfin : StL G fn.ntmps ρ w (aQ C fn) (v, h1) a' w' → LeavesInM (Fw none) 3 C.P fn a'.tmps (jB G ρ w v h1) a'.defers .returning w' := by
   rintro ⟨Ds, ρ', env, h', e1, e2, e3, e4, e5, e6, e7, e8, e9⟩
   rw [e6]
   exact bDi Ds w' ⟨ρ', env, h', e1, e2, e3, e4, e9⟩ H.sz.1 H.sz.2 e7 e8
  cases e with
  | normal => exact hfin hq
  | ret => exact hfin hq
  | exit id =>
   obtain ⟨Ds, ρ', env, h', e1, e2, e3, e4, e5, e6, e7, e8, e9⟩ := hq
   cases e9
  | goto l => exact hq.elim
  | panic ch => exact hq.elim
  | outgrown => exact hq.elim
end
end Go.Dd

namespace Go.Dd
noncomputable section
def WT.get (t : WT) : Nat → Int :=
 WT.rec (motive := fun _ => Nat → Int) (fun _ => .ofNat 0)
  (fun _ v _ ihl ihr k => bif Nat.beq k 0 then v else bif Nat.beq (Nat.mod k 2) 1 then ihl (Nat.div k 2) else ihr (Nat.div (Nat.sub k 1) 2)) t
def eNn (x : Int) (fuel : Nat) : Nat → WT → WT :=
 Nat.rec (motive := fun _ => Nat → WT → WT) (fun _ t => t)
  (fun _ ih k t => WT.rec (motive := fun _ => WT)
   (bif Nat.beq k 0 then .n .e x .e else bif Nat.beq (Nat.mod k 2) 1 then .n (ih (Nat.div k 2) .e) (.ofNat 0) .e else .n .e (.ofNat 0) (ih (Nat.div (Nat.sub k 1) 2) .e))
   (fun l v r _ _ => bif Nat.beq k 0 then .n l x r else bif Nat.beq (Nat.mod k 2) 1 then .n (ih (Nat.div k 2) l) v r else .n l v (ih (Nat.div (Nat.sub k 1) 2) r)) t) fuel
def WT.set (t : WT) (k : Nat) (x : Int) : WT := eNn x 24 k t
theorem WT.get_e (k : Nat) : WT.e.get k = 0 := rfl
theorem eNj (l : WT) (v : Int) (r : WT) (k : Nat) : (WT.n l v r).get k = if k = 0 then v else if k % 2 = 1 then l.get (k / 2) else r.get ((k - 1) / 2) := by
 show (bif Nat.beq k 0 then v else bif Nat.beq (Nat.mod k 2) 1 then l.get (Nat.div k 2) else r.get (Nat.div (Nat.sub k 1) 2)) = _
 cases h0 : Nat.beq k 0 with
 | true => have := Nat.eq_of_beq_eq_true h0; subst this; rfl
 | false =>
  have n0 : k ≠ 0 := by intro e; subst e; cases h0
  rw [if_neg n0]
  cases h1 : Nat.beq (Nat.mod k 2) 1 with
  | true => have : k % 2 = 1 := Nat.eq_of_beq_eq_true h1; rw [if_pos this]; rfl
  | false =>
   have n1 : k % 2 ≠ 1 := by intro e; have e' : Nat.mod k 2 = 1 := e; rw [e'] at h1; cases h1
   rw [if_neg n1]; rfl
theorem eNt (x : Int) (f k : Nat) (t : WT) : eNn x (f + 1) k t = match t with
  | .e => if k = 0 then .n .e x .e else if k % 2 = 1 then .n (eNn x f (k / 2) .e) 0 .e else .n .e 0 (eNn x f ((k - 1) / 2) .e)
  | .n l v r => if k = 0 then .n l x r else if k % 2 = 1 then .n (eNn x f (k / 2) l) v r else .n l v (eNn x f ((k - 1) / 2) r) := by
 have hb : ∀ {α : Type} (a b c : α), (bif Nat.beq k 0 then a else bif Nat.beq (Nat.mod k 2) 1 then b else c) = if k = 0 then a else if k % 2 = 1 then b else c := by
  intro α a b c
  cases h0 : Nat.beq k 0 with
  | true => have := Nat.eq_of_beq_eq_true h0; subst this; rfl
  | false =>
   have n0 : k ≠ 0 := by intro e; subst e; cases h0
   rw [if_neg n0]
   cases h1 : Nat.beq (Nat.mod k 2) 1 with
   | true => have : k % 2 = 1 := Nat.eq_of_beq_eq_true h1; rw [if_pos this]; rfl
   | false =>
    have n1 : k % 2 ≠ 1 := by intro e; have e' : Nat.mod k 2 = 1 := e; rw [e'] at h1; cases h1
    rw [if_neg n1]; rfl
 cases t with
 | e => exact hb _ _ _
 | n l v r => exact hb _ _ _
theorem eNp (x : Int) : ∀ (f k : Nat) (t : WT) (j : Nat), k + 1 < 2 ^ f → (eNn x f k t).get j = if j = k then x else t.get j
 | 0, k, t, j, h => by simp at h
 | f + 1, k, t, j, h => by
  have h2 : 2 ^ (f + 1) = 2 * 2 ^ f := by rw [Nat.pow_succ]; omega
  have ih := fun k t j (h : k + 1 < 2 ^ f) => eNp x f k t j h
  rw [eNt]
  cases t with
  | e =>
   simp only
   split
   ·subst_vars
    rw [eNj]
    split
    ·rfl
    ·simp [WT.get_e]
   ·split
    ·rw [eNj]
     split
     ·subst_vars; rw [if_neg (by omega)]; rfl
     ·split
      ·rw [ih _ _ _ (by omega), WT.get_e, WT.get_e]
       by_cases hj : j = k
       ·rw [if_pos hj, if_pos (by omega)]
       ·rw [if_neg hj, if_neg (by omega)]
      ·rw [WT.get_e, if_neg (by omega)]; rfl
    ·rw [eNj]
     split
     ·subst_vars; rw [if_neg (by omega)]; rfl
     ·split
      ·rw [WT.get_e, if_neg (by omega)]; rfl
      ·rw [ih _ _ _ (by omega), WT.get_e, WT.get_e]
       by_cases hj : j = k
       ·rw [if_pos hj, if_pos (by omega)]
       ·rw [if_neg hj, if_neg (by omega)]
  | n l v r =>
   simp only
   split
   ·subst_vars
    rw [eNj, eNj]
    split
    ·rfl
    ·rfl
   ·split
    ·rw [eNj, eNj]
     split
     ·subst_vars; rw [if_neg (by omega)]
     ·split
      ·rw [ih _ _ _ (by omega)]
       by_cases hj : j = k
       ·rw [if_pos hj, if_pos (by omega)]
       ·rw [if_neg hj, if_neg (by omega)]
      ·rw [if_neg (by omega)]
    ·rw [eNj, eNj]
     split
     ·subst_vars; rw [if_neg (by omega)]
     ·split
      ·rw [if_neg (by omega)]
      ·rw [ih _ _ _ (by omega)]
       by_cases hj : j = k
       ·rw [if_pos hj, if_pos (by omega)]
       ·rw [if_neg hj, if_neg (by omega)]
theorem WT.get_set (t : WT) (k : Nat) (x : Int) (j : Nat) (h : k < 16000000) : (t.set k x).get j = if j = k then x else t.get j :=
 eNp x 24 k t j (by omega)
def iH (n : Nat) (t : WT) : List DV := (List.range n).map fun i => .i .i64 (t.get i)
def tR (g : Bool) : Ob → Ob → Prop
 | .big n t, o => if g then o = .big n t else o = .row .ex (iH n t)
 | .mi t, o => if g then o = .mi t else ∃ es, o = .mp es ∧ ∀ a : Int, iJ (.int .i64) (.i .i64 a) es = some (if 0 ≤ a ∧ t.get a.toNat ≠ 0 then some (.b true) else none)
 | o, o' => o' = o
structure Sim (g : Bool) (h h' : Hp) : Prop where
 next : h'.next = h.next
 get : ∀ b o, h.bl.get b = some o → ∃ o', h'.bl.get b = some o' ∧ tR g o o'
def SimR (g : Bool) (r r' : aH) : Prop := ∀ v h, r = some (v, h) → ∃ h', r' = some (v, h') ∧ Sim g h h'
def SimP (g : Bool) (p p' : Hp → aH) : Prop := ∀ h h', Sim g h h' → SimR g (p h) (p' h')
variable {h h' : Hp} {g : Bool}
theorem Sim.row (S : Sim g h h') {b : Pos} {k : Kind} {l : List DV} (hb : h.bl.get b = some (.row k l)) : h'.bl.get b = some (.row k l) := by
 obtain ⟨o', h1, h2⟩ := S.get b _ hb
 rw [h1, show o' = .row k l from h2]
theorem Sim.it (S : Sim g h h') {b : Pos} {s : List Nat} {p : Nat} (hb : h.bl.get b = some (.it s p)) : h'.bl.get b = some (.it s p) := by
 obtain ⟨o', h1, h2⟩ := S.get b _ hb
 rw [h1, show o' = .it s p from h2]
theorem Sim.mp (S : Sim g h h') {b : Pos} {es : List (DV × DV)} (hb : h.bl.get b = some (.mp es)) : h'.bl.get b = some (.mp es) := by
 obtain ⟨o', h1, h2⟩ := S.get b _ hb
 rw [h1, show o' = .mp es from h2]
theorem Sim.set (S : Sim g h h') {o o' : Ob} (hr : tR g o o') (b n : Pos) : Sim g ⟨n, Tr.set o b h.bl⟩ ⟨n, Tr.set o' b h'.bl⟩ := by
 refine ⟨rfl, fun x ob hx => ?_⟩
 by_cases e : x = b
 ·subst e
  simp only [eMs, bD] at hx ⊢
  subst hx
  exact ⟨o', rfl, hr⟩
 ·simp only [eMr _ _ _ _ e] at hx ⊢
  exact S.get x ob hx
theorem Sim.setR (S : Sim g h h') (k : Kind) (l : List DV) (b n : Pos) : Sim g ⟨n, Tr.set (.row k l) b h.bl⟩ ⟨n, Tr.set (.row k l) b h'.bl⟩ := S.set (show tR g (.row k l) (.row k l) from rfl) b n
theorem Sim.setM (S : Sim g h h') (es : List (DV × DV)) (b n : Pos) : Sim g ⟨n, Tr.set (.mp es) b h.bl⟩ ⟨n, Tr.set (.mp es) b h'.bl⟩ := S.set (show tR g (.mp es) (.mp es) from rfl) b n
theorem Sim.setI (S : Sim g h h') (s : List Nat) (p : Nat) (b n : Pos) : Sim g ⟨n, Tr.set (.it s p) b h.bl⟩ ⟨n, Tr.set (.it s p) b h'.bl⟩ := S.set (show tR g (.it s p) (.it s p) from rfl) b n
theorem Sim.new (S : Sim g h h') {o o' : Ob} (hr : tR g o o') : Sim g ⟨h.next.succ, Tr.set o h.next h.bl⟩ ⟨h'.next.succ, Tr.set o' h'.next h'.bl⟩ := by
 rw [S.next]; exact S.set hr _ _
theorem SimR.none (r : aH) : SimR g none r := fun v h e => by cases e
theorem SimR.some (S : Sim g h h') (v : DV) : SimR g (some (v, h)) (some (v, h')) := fun u k e => by
 simp only [bD, bM] at e
 obtain ⟨rfl, rfl⟩ := e
 exact ⟨h', rfl, S⟩
theorem eMu {F : Hp → aH} (hF : PureP F) : SimP g F F := fun h h' S v k e => by
 obtain ⟨rfl, h2⟩ := hF h v k e
 exact ⟨h', h2 h', S⟩
theorem Sim.rowOf (S : Sim g h h') {b : Pos} {l : List DV} (hb : rowOf b h = some l) : rowOf b h' = some l := by
 unfold Dd.rowOf at hb ⊢
 split at hb <;> (try (cases hb; done))
 rename_i k l0 h0
 rw [S.row h0]; exact hb
theorem Sim.cellsAt (S : Sim g h h') {b : Pos} {o n : Nat} {cs : List DV} (hb : cellsAt b o n h = some cs) : cellsAt b o n h' = some cs := by
 unfold Dd.cellsAt at hb ⊢
 split at hb <;> (try (cases hb; done))
 rename_i l h0
 rw [S.rowOf h0]; exact hb
theorem Sim.cellD (S : Sim g h h') {b : Pos} {o : Nat} {v : DV} (hb : cellD b o h = some v) : cellD b o h' = some v := by
 unfold Dd.cellD at hb ⊢
 split at hb <;> (try (cases hb; done))
 rename_i l h0
 rw [S.rowOf h0]; exact hb
theorem Sim.storeAt (S : Sim g h h') {b : Pos} {o : Nat} {vs : List DV} {k : Hp} (hb : dF b o vs h = some k) : ∃ k', dF b o vs h' = some k' ∧ Sim g k k' := by
 unfold dF at hb ⊢
 split at hb <;> (try (cases hb; done))
 rename_i kd l h0
 rw [S.row h0]
 dsimp only
 split at hb <;> (try (cases hb; done))
 rename_i hw
 rw [if_pos hw]
 split at hb <;> (try (cases hb; done))
 rename_i l' hp
 simp only [bD] at hb
 subst hb
 try simp only [hp]
 exact ⟨_, rfl, by rw [S.next]; exact S.set (show tR g (.row kd l') (.row kd l') from rfl) _ _⟩
theorem aKg (cs : List DV) : SimP g (bS cs) (bS cs) := fun h h' S v k e => by
 simp only [bS, bD, bM] at e ⊢
 obtain ⟨rfl, rfl⟩ := e
 exact ⟨_, ⟨by rw [S.next], rfl⟩, S.new rfl⟩
theorem aBr (b : Pos) (cs : List DV) : SimP g (iQ b cs) (iQ b cs) := fun h h' S v k e => by
 simp only [iQ, bD, bM] at e ⊢
 obtain ⟨rfl, rfl⟩ := e
 exact ⟨_, ⟨rfl, rfl⟩, by rw [S.next]; first | exact S.setR _ _ _ _ | exact S.setM _ _ _ | exact S.setI _ _ _ _⟩
theorem cTm (x : DV) : SimP g (bQ x) (bQ x) := by
 unfold bQ
 cases dR x with
 | none => exact fun h h' S => SimR.none _
 | some cs => exact aKg cs
theorem bMk (b : Pos) (x : DV) : SimP g (xJ b x) (xJ b x) := by
 unfold xJ
 cases dR x with
 | none => exact fun h h' S => SimR.none _
 | some cs => exact aBr b cs
theorem iO (x : DV) : SimP g (aA x) (aA x) := fun h h' S v k e => by
 unfold aA at e ⊢
 split at e <;> (try (cases e; done))
 split at e <;> (try (cases e; done))
 rename_i hc
 simp only [bD, bM] at e
 obtain ⟨rfl, rfl⟩ := e
 simp only [S.cellD hc]
 exact ⟨_, rfl, S⟩
theorem jL (n : Nat) (x : DV) : SimP g (aL n x) (aL n x) := fun h h' S v k e => by
 unfold aL at e ⊢
 split at e <;> (try (cases e; done))
 split at e <;> (try (cases e; done))
 rename_i hc
 simp only [bD, bM] at e
 obtain ⟨rfl, rfl⟩ := e
 simp only [S.cellsAt hc]
 exact ⟨_, rfl, S⟩
theorem jJ (n : Nat) (x y : DV) : SimP g (aJ n x y) (aJ n x y) := fun h h' S v k e => by
 unfold aJ at e ⊢
 split at e <;> (try (cases e; done))
 rename_i b o cs hc
 try rw [hc]
 try dsimp only
 split at e <;> (try (cases e; done))
 rename_i hn
 rw [if_pos hn]
 split at e <;> (try (cases e; done))
 rename_i k0 hs
 simp only [bD, bM] at e
 obtain ⟨rfl, rfl⟩ := e
 obtain ⟨k', h1, h2⟩ := S.storeAt hs
 try simp only [h1]
 exact ⟨_, rfl, h2⟩
theorem bLm (size : Nat) (x : DV) (lo hi : Option DV) : SimP g (cT size x lo hi) (cT size x lo hi) := fun h h' S v k e => by
 unfold cT at e ⊢
 split at e <;> (try (cases e; done))
 ·split at e <;> (try (cases e; done))
  rename_i en he
  try simp only [he]
  split at e <;> (try (cases e; done))
  rename_i s hs
  try simp only [hs]
  split at e <;> (try (cases e; done))
  ·rename_i l0 hb
   rw [S.row hb]
   simp only [bD, bM] at e
   obtain ⟨rfl, rfl⟩ := e
   exact ⟨_, rfl, S⟩
  ·rename_i l0 hb
   rw [S.row hb]
   simp only [bD, bM] at e
   obtain ⟨rfl, rfl⟩ := e
   exact ⟨_, rfl, S⟩
  ·rename_i k0 l0 n1 n2 hb
   rw [S.row hb]
   cases k0 with
   | ro => exact absurd rfl n1
   | ex => exact absurd rfl n2
   | gr es =>
    dsimp only
    split at e
    ·rename_i hcs
     simp only [bD, bM] at e
     obtain ⟨rfl, rfl⟩ := e
     rw [if_pos hcs]
     exact ⟨_, rfl, S⟩
    ·rename_i hcs
     simp only [bD, bM] at e
     obtain ⟨rfl, rfl⟩ := e
     rw [if_neg hcs]
     exact ⟨_, rfl, S⟩
   | sp =>
    dsimp only
    split at e
    ·rename_i hcs
     simp only [bD, bM] at e
     obtain ⟨rfl, rfl⟩ := e
     rw [if_pos hcs]
     exact ⟨_, rfl, S⟩
    ·rename_i hcs
     simp only [bD, bM] at e
     obtain ⟨rfl, rfl⟩ := e
     rw [if_neg hcs]
     exact ⟨_, rfl, S⟩
 all_goals
  split at e <;> (try (cases e; done))
  rename_i en he
  try simp only [he]
  split at e <;> (try (cases e; done))
  rename_i s hs
  try simp only [hs]
  simp only [bD, bM] at e
  obtain ⟨rfl, rfl⟩ := e
  exact ⟨_, rfl, S⟩
theorem aSk (x : DV) (lo : Option DV) (hi mx : DV) : SimP g (nQ x lo hi mx) (nQ x lo hi mx) := fun h h' S v k e => by
 unfold nQ at e ⊢
 split at e <;> (try (cases e; done))
 all_goals
  split at e <;> (try (cases e; done))
 ·rename_i m e1
  try simp only [e1]
  split at e <;> (try (cases e; done))
  rename_i n e2
  try simp only [e2]
  simp only [bD, bM] at e
  obtain ⟨rfl, rfl⟩ := e
  exact ⟨_, rfl, S⟩
 ·rename_i m e1
  try simp only [e1]
  split at e <;> (try (cases e; done))
  rename_i n e2
  try simp only [e2]
  simp only [bD, bM] at e
  obtain ⟨rfl, rfl⟩ := e
  exact ⟨_, rfl, S⟩
 ·rename_i n1 n2 e1 e2
  try simp only [e1, e2]
  simp only [bD, bM] at e
  obtain ⟨rfl, rfl⟩ := e
  exact ⟨_, rfl, S⟩
 ·rename_i n1 n2 e1 e2
  try simp only [e1, e2]
  simp only [bD, bM] at e
  obtain ⟨rfl, rfl⟩ := e
  exact ⟨_, rfl, S⟩
theorem bLn (x : DV) : SimP g (gY x) (gY x) := fun h h' S v k e => by
 unfold gY at e ⊢
 split at e <;> (try (cases e; done))
 ·simp only [bD, bM] at e
  obtain ⟨rfl, rfl⟩ := e
  exact ⟨_, rfl, S⟩
 ·split at e <;> (try (cases e; done))
  rename_i cs hc
  simp only [S.cellsAt hc]
  split at e <;> (try (cases e; done))
  rename_i l hl
  try simp only [hl]
  simp only [bD, bM] at e
  obtain ⟨rfl, rfl⟩ := e
  exact ⟨_, rfl, S⟩
theorem xW (z : List DV) (n : Nat) (ps : List (Nat × Nat × DV)) : SimP g (aO z n ps) (aO z n ps) := fun h h' S v k e => by
 unfold aO at e ⊢
 split at e <;> (try (cases e; done))
 rename_i cs hf
 try simp only [hf]
 simp only [bD, bM] at e ⊢
 obtain ⟨rfl, rfl⟩ := e
 exact ⟨_, ⟨by rw [S.next], rfl⟩, S.new rfl⟩
theorem sR (b : Pos) (z : List DV) (n : Nat) (ps : List (Nat × Nat × DV)) : SimP g (bB b z n ps) (bB b z n ps) := fun h h' S v k e => by
 unfold bB at e ⊢
 split at e <;> (try (cases e; done))
 rename_i cs hf
 try simp only [hf]
 simp only [bD, bM] at e ⊢
 obtain ⟨rfl, rfl⟩ := e
 exact ⟨_, ⟨rfl, rfl⟩, by rw [S.next]; first | exact S.setR _ _ _ _ | exact S.setM _ _ _ | exact S.setI _ _ _ _⟩
theorem aOd : SimP g dX dX := fun h h' S v k e => by
 simp only [dX, bD, bM] at e ⊢
 obtain ⟨rfl, rfl⟩ := e
 exact ⟨_, ⟨by rw [S.next], rfl⟩, S.new rfl⟩
theorem Sim.entries (S : Sim g h h') {x : DV} {es : List (DV × DV)} (he : jS x h = some es) : jS x h' = some es := by
 unfold jS at he ⊢
 split at he <;> (try (cases he; done))
 ·exact he
 ·split at he <;> (try (cases he; done))
  rename_i hb
  rw [S.mp hb]; exact he
theorem aUt (d : TypeDesc) (z : DV) (ok : Bool) (x key : DV) : SimP g (gG d z ok x key) (gG d z ok x key) := fun h h' S v k e => by
 unfold gG at e ⊢
 split at e <;> (try (cases e; done))
 rename_i es he
 simp only [S.entries he]
 split at e <;> (try (cases e; done))
 all_goals
  rename_i hf
  try simp only [hf]
  simp only [bD, bM] at e
  obtain ⟨rfl, rfl⟩ := e
  exact ⟨_, rfl, S⟩
theorem aSf (d : TypeDesc) (x key y : DV) : SimP g (gI d x key y) (gI d x key y) := fun h h' S v k e => by
 unfold gI at e ⊢
 split at e <;> (try (cases e; done))
 split at e <;> (try (cases e; done))
 rename_i b _ es hb
 rw [S.mp hb]
 dsimp only
 split at e <;> (try (cases e; done))
 rename_i hf
 try simp only [hf]
 simp only [bD, bM] at e
 obtain ⟨rfl, rfl⟩ := e
 exact ⟨_, rfl, by rw [S.next]; first | exact S.setR _ _ _ _ | exact S.setM _ _ _ | exact S.setI _ _ _ _⟩
theorem aDn (d : TypeDesc) (z x key : DV) : SimP g (iM d z x key) (iM d z x key) := fun h h' S v k e => by
 unfold iM at e ⊢
 split at e <;> (try (cases e; done))
 split at e <;> (try (cases e; done))
 rename_i b _ es hb
 rw [S.mp hb]
 dsimp only
 split at e <;> (try (cases e; done))
 all_goals
  rename_i hf
  try simp only [hf]
  simp only [bD, bM] at e
  obtain ⟨rfl, rfl⟩ := e
  exact ⟨_, rfl, by rw [S.next]; first | exact S.setR _ _ _ _ | exact S.setM _ _ _ | exact S.setI _ _ _ _⟩
theorem xV (x s y : DV) : SimP g (fR x s y) (fR x s y) := fun h h' S v k e => by
 unfold fR at e ⊢
 split at e <;> (try (cases e; done))
 split at e <;> (try (cases e; done))
 rename_i es hb
 rw [S.mp hb]
 dsimp only
 split at e <;> (try (cases e; done))
 rename_i hf
 try simp only [hf]
 simp only [bD, bM] at e
 obtain ⟨rfl, rfl⟩ := e
 exact ⟨_, rfl, by rw [S.next]; first | exact S.setR _ _ _ _ | exact S.setM _ _ _ | exact S.setI _ _ _ _⟩
theorem aAw (size bytes : Nat) (z : List DV) (n c : DV) : SimP g (cJ size bytes z n c) (cJ size bytes z n c) := fun h h' S v k e => by
 unfold cJ at e ⊢
 split at e <;> (try (cases e; done))
 split at e <;> (try (cases e; done))
 rename_i hc
 rw [if_pos hc]
 simp only [bD, bM] at e ⊢
 obtain ⟨rfl, rfl⟩ := e
 exact ⟨_, ⟨by rw [S.next], rfl⟩, S.new rfl⟩
theorem bKg (z : List DV) (x : DV) : SimP g (jZ z x) (jZ z x) := fun h h' S v k e => by
 unfold jZ at e ⊢
 split at e <;> (try (cases e; done))
 ·simp only [bD, bM] at e
  obtain ⟨rfl, rfl⟩ := e
  exact ⟨_, rfl, S⟩
 ·simp only [bD, bM] at e
  obtain ⟨rfl, rfl⟩ := e
  exact ⟨_, rfl, S⟩
 ·split at e
  ·rename_i hn
   simp only [bD, bM] at e
   obtain ⟨rfl, rfl⟩ := e
   simp only [hn, if_true]
   exact ⟨_, rfl, S⟩
  ·rename_i hn
   rw [if_neg hn]
   split at e <;> (try (cases e; done))
   rename_i k0 hs
   simp only [bD, bM] at e
   obtain ⟨rfl, rfl⟩ := e
   obtain ⟨k', h1, h2⟩ := S.storeAt hs
   try simp only [h1]
   exact ⟨_, rfl, h2⟩
theorem Sim.src (S : Sim g h h') {size : Nat} {x : DV} {r : Nat × List DV} (hs : aAy size x h = some r) : aAy size x h' = some r := by
 unfold aAy at hs ⊢
 split at hs <;> (try (cases hs; done))
 ·exact hs
 ·exact hs
 ·split at hs <;> (try (cases hs; done))
  rename_i hc
  simp only [S.cellsAt hc]; exact hs
 ·split at hs <;> (try (cases hs; done))
  rename_i hc
  simp only [S.cellsAt hc]; exact hs
 ·exact hs
theorem aRh (size bytes : Nat) (s x : DV) : SimP g (aW size bytes s x) (aW size bytes s x) := fun h h' S v k e => by
 unfold aW at e ⊢
 split at e <;> (try (cases e; done))
 rename_i n new hs
 simp only [S.src hs]
 split at e <;> (try (cases e; done))
 ·split at e
  ·rename_i hn
   rw [if_pos hn]
   simp only [bD, bM] at e
   obtain ⟨rfl, rfl⟩ := e
   exact ⟨_, rfl, S⟩
  ·rename_i hn
   rw [if_neg hn]
   split at e <;> (try (cases e; done))
   rename_i hr
   rw [if_pos hr]
   simp only [bD, bM] at e ⊢
   obtain ⟨rfl, rfl⟩ := e
   exact ⟨_, ⟨by rw [S.next], rfl⟩, S.new rfl⟩
 ·split at e <;> (try (cases e; done))
  rename_i hn
  rw [if_pos hn]
  simp only [bD, bM] at e
  obtain ⟨rfl, rfl⟩ := e
  exact ⟨_, rfl, S⟩
 ·rename_i b o len cap
  split at e
  ·rename_i hle
   rw [if_pos hle]
   split at e <;> (try (cases e; done))
   rename_i k0 hst
   simp only [bD, bM] at e
   obtain ⟨rfl, rfl⟩ := e
   obtain ⟨k', h1, h2⟩ := S.storeAt hst
   try simp only [h1]
   exact ⟨_, rfl, h2⟩
  ·rename_i hle
   rw [if_neg hle]
   split at e <;> (try (cases e; done))
   rename_i k0 l old hb hold
   rw [S.row hb, S.cellsAt hold]
   dsimp only
   split at e <;> (try (cases e; done))
   rename_i hroom
   rw [if_pos hroom]
   split at e <;> (try (cases e; done))
   ·simp only [bD, bM] at e ⊢
    obtain ⟨rfl, rfl⟩ := e
    exact ⟨_, ⟨by rw [S.next], rfl⟩, S.new rfl⟩
   ·simp only [bD, bM] at e ⊢
    obtain ⟨rfl, rfl⟩ := e
    exact ⟨_, ⟨by rw [S.next], rfl⟩, S.new rfl⟩
   ·split at e <;> (try (cases e; done))
    rename_i hes
    rw [if_pos hes]
    simp only [bD, bM] at e ⊢
    obtain ⟨rfl, rfl⟩ := e
    refine ⟨_, ⟨by rw [S.next], rfl⟩, ?_⟩
    have S1 : Sim g ⟨h.next, Tr.set (.row .sp (bV o l)) b h.bl⟩ ⟨h'.next, Tr.set (.row .sp (bV o l)) b h'.bl⟩ := by
     rw [S.next]; exact S.set (show tR g (.row .sp (bV o l)) (.row .sp (bV o l)) from rfl) _ _
    exact S1.new rfl
 ·rename_i b o len cap
  split at e
  ·rename_i hn
   rw [if_pos hn]
   split at e <;> (try (cases e; done))
   rename_i hc
   rw [if_pos hc]
   simp only [bD, bM] at e
   obtain ⟨rfl, rfl⟩ := e
   exact ⟨_, rfl, S⟩
  ·rename_i hn
   rw [if_neg hn]
   split at e <;> (try (cases e; done))
   rename_i hc
   rw [if_neg hc]
   split at e <;> (try (cases e; done))
   rename_i old hold
   simp only [S.cellsAt hold]
   split at e <;> (try (cases e; done))
   rename_i hr
   rw [if_pos hr]
   simp only [bD, bM] at e ⊢
   obtain ⟨rfl, rfl⟩ := e
   exact ⟨_, ⟨by rw [S.next], rfl⟩, S.new rfl⟩
theorem bKm (x : DV) : SimP g (pO x) (pO x) := fun h h' S v k e => by
 unfold pO at e ⊢
 split at e <;> (try (cases e; done))
 simp only [bD, bM] at e ⊢
 obtain ⟨rfl, rfl⟩ := e
 exact ⟨_, ⟨by rw [S.next], rfl⟩, S.new rfl⟩
theorem cAs (x : DV) : SimP g (xH x) (xH x) := fun h h' S v k e => by
 unfold xH at e ⊢
 split at e <;> (try (cases e; done))
 split at e <;> (try (cases e; done))
 rename_i b _ l pos hb
 rw [S.it hb]
 dsimp only
 split at e
 ·rename_i c hc
  try simp only [hc]
  split at e <;> (try (cases e; done))
  rename_i hlt
  rw [if_pos hlt]
  simp only [bD, bM] at e ⊢
  obtain ⟨rfl, rfl⟩ := e
  exact ⟨_, ⟨rfl, rfl⟩, by rw [S.next]; first | exact S.setR _ _ _ _ | exact S.setM _ _ _ | exact S.setI _ _ _ _⟩
 ·rename_i hc
  try simp only [hc]
  simp only [bD, bM] at e ⊢
  obtain ⟨rfl, rfl⟩ := e
  exact ⟨_, ⟨rfl, rfl⟩, S⟩
end
end Go.Dd

namespace Go.Dd
theorem SimP.none {gg : Bool} (p : Hp → aH) : SimP gg (fun _ => Option.none) p := fun h h' S => SimR.none _
theorem SimP.val {gg : Bool} (v : DV) : SimP gg (fun h => some (v, h)) (fun h => some (v, h)) := fun h h' S => SimR.some S v
section
variable {gg : Bool} {P : Program} {I2 I1 : FuncId → Option (List DV → Hp → aH)} {rec2 rec1 : FuncId → List DV → Hp → aH}
theorem aOc (b : Builtin) (ts : List TypeId) (args : List DV) : SimP gg (jR ⟨P, I2⟩ b ts args) (jR ⟨P, I1⟩ b ts args) := by
 unfold jR
 cases b <;> try exact SimP.none _
 case len =>
  match ts, args with
  | [t], [x] =>
   dsimp only
   cases P.underlying t with
   | none => exact SimP.none _
   | some d => cases d <;> first | exact SimP.none _ | exact eMu (aBj x) | exact eMu (jP x)
  | [], _ => exact SimP.none _
  | [_], [] => exact SimP.none _
  | [_], _ :: _ :: _ => exact SimP.none _
  | _ :: _ :: _, _ => exact SimP.none _
 case min =>
  show SimP gg (sJ args) (sJ args)
  unfold sJ
  match args with
  | [x, y] => exact eMu (aQm x y)
  | [] => exact SimP.none _
  | [_] => exact SimP.none _
  | _ :: _ :: _ :: _ => exact SimP.none _
 case max =>
  show SimP gg (rV args) (rV args)
  unfold rV
  match args with
  | [x, y] => exact eMu (aPa x y)
  | [] => exact SimP.none _
  | [_] => exact SimP.none _
  | _ :: _ :: _ :: _ => exact SimP.none _
 case clear =>
  match ts, args with
  | [t], [x] =>
   dsimp only
   cases P.underlying t with
   | none => exact SimP.none _
   | some d =>
    cases d <;> try exact SimP.none _
    rename_i e
    dsimp only
    cases P.info? e with
    | none => exact SimP.none _
    | some i =>
     dsimp only
     cases i.zero with
     | none => exact SimP.none _
     | some z =>
      dsimp only
      by_cases h0 : 0 < z.cells.size
      ·simp only [h0, if_true]; exact bKg _ _
      ·simp only [h0, if_false]; exact SimP.none _
  | [], _ => exact SimP.none _
  | [_], [] => exact SimP.none _
  | [_], _ :: _ :: _ => exact SimP.none _
  | _ :: _ :: _, _ => exact SimP.none _
 case append =>
  match ts, args with
  | [t, u], [s, x] =>
   dsimp only
   have hmain : ∀ e, SimP gg (fun h => match P.info? e with
     | some i => match i.zero with
      | some z => if 0 < i.size ∧ 0 < i.bytes ∧ z.cells.size = i.size then aW i.size i.bytes s x h else none
      | none => none
     | none => none) (fun h => match P.info? e with
     | some i => match i.zero with
      | some z => if 0 < i.size ∧ 0 < i.bytes ∧ z.cells.size = i.size then aW i.size i.bytes s x h else none
      | none => none
     | none => none) := by
    intro e
    cases P.info? e with
    | none => exact SimP.none _
    | some i =>
     dsimp only
     cases i.zero with
     | none => exact SimP.none _
     | some z =>
      dsimp only
      split
      ·exact aRh _ _ _ _
      ·exact SimP.none _
   cases P.underlying t with
   | none => exact SimP.none _
   | some d =>
    cases d <;> try exact SimP.none _
    rename_i e
    cases P.underlying u with
    | none => exact SimP.none _
    | some d2 => cases d2 <;> first | exact SimP.none _ | exact hmain e
  | [], _ => exact SimP.none _
  | [_], _ => exact SimP.none _
  | [_, _], [] => exact SimP.none _
  | [_, _], [_] => exact SimP.none _
  | [_, _], _ :: _ :: _ :: _ => exact SimP.none _
  | _ :: _ :: _ :: _, _ => exact SimP.none _
theorem aBu (HC : ∀ g args, SimP gg (bX ⟨P, I2⟩ rec2 g args) (bX ⟨P, I1⟩ rec1 g args)) (o : Oper) (env : aZ) : SimP gg (jE ⟨P, I2⟩ rec2 o env) (jE ⟨P, I1⟩ rec1 o env) := by
 obtain ⟨dst, op, ty, pos, after, guard⟩ := o
 unfold jE
 cases op <;> (try dsimp only) <;> try exact SimP.none _
 case move x => exact SimP.val _
 case assign x => exact SimP.val _
 case pick c x y => exact eMu (aBs _ _ _)
 case alloc t =>
  cases P.info? t with
  | none => exact SimP.none _
  | some i =>
   try dsimp only
   cases i.zero with
   | none => exact SimP.none _
   | some z => exact aKg _
 case box t x => exact cTm _
 case build t ps =>
  cases P.underlying t with
  | none => exact SimP.none _
  | some d =>
   cases d <;> (try dsimp only) <;> try exact SimP.none _
   case array n e =>
    cases P.info? t with
    | none => exact SimP.none _
    | some i =>
     try dsimp only
     split
     ·exact eMu (lU _ _)
     ·exact SimP.none _
   rename_i fs
   cases P.info? t with
   | none => exact SimP.none _
   | some i =>
    try dsimp only
    cases i.zero with
    | none => exact SimP.none _
    | some z =>
     try dsimp only
     generalize fs.toList.mapM (fun f => (P.info? f.type).map fun fi => (f.offset, fi.size)) = pl
     cases pl with
     | none => exact SimP.none _
     | some pl =>
      try dsimp only
      generalize ps.toList.mapM (fun (q : Nat × Operand) => (pl[q.1]?).map fun s => (s.1, s.2, opr env q.2)) = l
      cases l with
      | none => exact SimP.none _
      | some l => exact eMu (lU _ _)
 case buildSlice t n ps =>
  cases P.underlying t with
  | none => exact SimP.none _
  | some d =>
   cases d <;> (try dsimp only) <;> try exact SimP.none _
   rename_i e
   cases P.info? e with
   | none => exact SimP.none _
   | some i =>
    try dsimp only
    cases i.zero with
    | none => exact SimP.none _
    | some z =>
     try dsimp only
     split
     ·exact xW _ _ _
     ·exact SimP.none _
 case load t x =>
  cases P.underlying t with
  | none => exact SimP.none _
  | some d =>
   cases P.info? t with
   | none => exact SimP.none _
   | some i =>
    try dsimp only
    cases jG d with
    | true => exact jL _ _
    | false => exact iO _
 case store t x y =>
  cases P.info? t with
  | none => exact SimP.none _
  | some i => exact jJ _ _ _
 case nilCheck x => exact eMu (aOb _)
 case binOp op t x y yt =>
  cases P.underlying t with
  | none => exact SimP.none _
  | some d => cases d <;> first | exact eMu (aOn _ _ _ _) | exact eMu (aNz _ _ _ _ _)
 case unOp op t x => exact eMu (bEj _ _)
 case convert src dst x =>
  cases P.underlying src with
  | none => exact SimP.none _
  | some d =>
   cases P.underlying dst with
   | none => cases d <;> exact SimP.none _
   | some d2 =>
    cases d2 <;> cases d <;> (try dsimp only) <;> first | exact SimP.none _ | exact eMu (pB _ _) | exact eMu (oP _) | skip
    all_goals
     rename_i e
     cases P.underlying e with
     | none => exact SimP.none _
     | some d3 =>
      cases d3 <;> (try dsimp only) <;> try exact SimP.none _
      rename_i k
      cases k <;> first | exact SimP.none _ | exact bLn _
 case makeFunc fn first cap =>
  cases fn <;> first | exact SimP.none _ | exact SimP.val _
 case slice t x lo hi mx =>
  cases P.underlying t with
  | none => exact SimP.none _
  | some d =>
   cases mx with
   | none =>
    cases d <;> (try dsimp only) <;> first | exact SimP.none _ | exact eMu (nI _ _ _) | skip
    rename_i e
    cases P.info? e with
    | none => exact SimP.none _
    | some i => exact bLm _ _ _ _
   | some m =>
    cases d <;> (try dsimp only) <;> try exact SimP.none _
    rename_i e
    cases P.info? e with
    | none => exact SimP.none _
    | some i =>
     cases hi with
     | none => exact SimP.none _
     | some hv => exact aSk _ _ _ _
 case fieldAddr t x f =>
  cases P.underlying t with
  | none => exact SimP.none _
  | some d =>
   cases d <;> (try dsimp only) <;> try exact SimP.none _
   rename_i fs
   cases fs[f]? with
   | none => exact SimP.none _
   | some fl =>
    try dsimp only
    cases P.info? fl.type with
    | none => exact SimP.none _
    | some i =>
     try dsimp only
     split
     ·exact SimP.none _
     ·exact eMu (aAa _ _)
 case field t x f =>
  cases P.underlying t with
  | none => exact SimP.none _
  | some d =>
   cases d <;> (try dsimp only) <;> try exact SimP.none _
   rename_i fs
   cases fs[f]? with
   | none => exact SimP.none _
   | some fl =>
    try dsimp only
    cases P.underlying fl.type with
    | none => exact SimP.none _
    | some d2 =>
     cases P.info? fl.type with
     | none => exact SimP.none _
     | some i =>
      try dsimp only
      cases jG d2 with
      | true => exact eMu (wU _ _ _)
      | false => exact eMu (zP _ _)
 case indexAddr t x ix =>
  cases P.underlying t with
  | none => exact SimP.none _
  | some d =>
   cases d <;> (try dsimp only) <;> try exact SimP.none _
   ·rename_i e
    cases P.info? e with
    | none => exact SimP.none _
    | some i => exact eMu (mZ _ _ _)
   ·rename_i n e
    cases P.info? e with
    | none => exact SimP.none _
    | some i => exact eMu (oD _ _ _ _)
 case index t x ix =>
  cases P.underlying t with
  | none => exact SimP.none _
  | some d => cases d <;> first | exact SimP.none _ | exact eMu (sV _ _)
 case extract x i => exact eMu (rF _ _)
 case range t x =>
  cases P.underlying t with
  | none => exact SimP.none _
  | some d => cases d <;> first | exact SimP.none _ | exact bKm _
 case next x str =>
  cases str with
  | true => simp only [if_true]; exact cAs _
  | false => simp only [Bool.false_eq_true, if_false]; exact SimP.none _
 case makeMap t r => cases r <;> first | exact SimP.none _ | exact aOd
 case lookup t x k ok =>
  cases P.underlying t with
  | none => exact SimP.none _
  | some d =>
   cases d <;> (try dsimp only) <;> try exact SimP.none _
   rename_i kt et
   cases P.underlying kt with
   | none => exact SimP.none _
   | some d2 =>
    cases P.info? et with
    | none => exact SimP.none _
    | some i =>
     try dsimp only
     cases i.zero with
     | none => exact SimP.none _
     | some z =>
      try dsimp only
      cases jU d2 with
      | true => exact aUt _ _ _ _ _
      | false => exact SimP.none _
 case mapUpdate t m k x =>
  cases P.underlying t with
  | none => exact SimP.none _
  | some d =>
   cases d <;> (try dsimp only) <;> try exact SimP.none _
   rename_i kt et
   cases P.underlying kt with
   | none => exact SimP.none _
   | some d2 =>
    try dsimp only
    cases jU d2 with
    | true => exact aSf _ _ _ _
    | false => exact SimP.none _
 case mapEntry t m k =>
  cases P.underlying t with
  | none => exact SimP.none _
  | some d =>
   cases d <;> (try dsimp only) <;> try exact SimP.none _
   rename_i kt et
   cases P.underlying kt with
   | none => exact SimP.none _
   | some d2 =>
    cases P.info? et with
    | none => exact SimP.none _
    | some i =>
     try dsimp only
     cases i.zero with
     | none => exact SimP.none _
     | some z =>
      try dsimp only
      cases jU d2 with
      | true => exact aDn _ _ _ _
      | false => exact SimP.none _
 case entryStore t m s x => exact xV _ _ _
 case makeSlice t n c =>
  cases P.underlying t with
  | none => exact SimP.none _
  | some d =>
   cases d <;> (try dsimp only) <;> try exact SimP.none _
   rename_i e
   cases P.info? e with
   | none => exact SimP.none _
   | some i =>
    try dsimp only
    cases i.zero with
    | none => exact SimP.none _
    | some z =>
     try dsimp only
     split
     ·exact aAw _ _ _ _ _
     ·exact SimP.none _
 case call c =>
  obtain ⟨callee, args, ats⟩ := c
  cases callee with
  | value f =>
   try dsimp only
   unfold jX
   cases opr env f <;> first | exact SimP.none _ | exact HC _ _
  | invoke r m => exact SimP.none _
  | builtin b => exact aOc _ _ _
theorem lM (HC : ∀ g args, SimP gg (bX ⟨P, I2⟩ rec2 g args) (bX ⟨P, I1⟩ rec1 g args)) (all : Array Oper) (o : Oper) (env : aZ) :
  SimP gg (bH ⟨P, I2⟩ rec2 all o env) (bH ⟨P, I1⟩ rec1 all o env) := by
 unfold bH
 cases o.guard with
 | none => exact aBu HC o env
 | some g =>
  obtain ⟨j, want⟩ := g
  dsimp only
  unfold gD
  cases bGq all j env <;> try exact SimP.none _
  ·rename_i x
   dsimp only
   split
   ·exact aBu HC o env
   ·exact SimP.val _
  ·rename_i vs
   cases vs with
   | nil => exact SimP.val _
   | cons a b => exact SimP.none _
def SimK (gg : Bool) (k k' : K) : Prop := ∀ env, SimP gg (k env) (k' env)
theorem SimR.bnd {r r' : aH} {k k' : DV → Hp → aH} (h : SimR gg r r') (hk : ∀ v, SimP gg (k v) (k' v)) : SimR gg (bnd r k) (bnd r' k') := by
 intro v h1 e
 obtain ⟨u, h0, e1, e2⟩ := cO e
 obtain ⟨h0', f1, S⟩ := h u h0 e1
 obtain ⟨h1', g1, S1⟩ := hk u h0 h0' S v h1 e2
 exact ⟨h1', by rw [f1]; exact g1, S1⟩
theorem eNm {b b' : Bool} {r r' : aH} (hb : b = true → b' = true) (h : SimR gg r r') : SimR gg (cnd b r) (cnd b' r') := by
 cases b with
 | false => exact fun v k e => by cases e
 | true => rw [hb rfl]; exact h
theorem rH (HC : ∀ g args, SimP gg (bX ⟨P, I2⟩ rec2 g args) (bX ⟨P, I1⟩ rec1 g args)) (nt : Nat) (all : Array Oper) {k k' : K} (hk : SimK gg k k') :
  ∀ l : List Oper, SimK gg (gM ⟨P, I2⟩ rec2 nt all l k) (gM ⟨P, I1⟩ rec1 nt all l k')
 | [] => hk
 | o :: l => fun env h h' S => by
  change SimR gg (cnd (dD nt o.dst) (bnd (bH ⟨P, I2⟩ rec2 all o env h) fun v h1 => gM ⟨P, I2⟩ rec2 nt all l k (bG env o.dst v) h1))
   (cnd (dD nt o.dst) (bnd (bH ⟨P, I1⟩ rec1 all o env h') fun v h1 => gM ⟨P, I1⟩ rec1 nt all l k' (bG env o.dst v) h1))
  exact eNm id (SimR.bnd (lM HC all o env h h' S) fun v => rH HC nt all hk l _)
theorem aAv {gg : Bool} (b : Pos) : SimP gg (jO b) (jO b) := by
 intro h h' S v k e
 simp only [jO, bD, bM] at e ⊢
 obtain ⟨rfl, rfl⟩ := e
 exact ⟨_, ⟨rfl, rfl⟩, by rw [S.next]; first | exact S.setR _ _ _ _ | exact S.setM _ _ _ | exact S.setI _ _ _ _⟩
theorem dKj (o : Oper) (b : Pos) (env : aZ) : SimP gg (dQ ⟨P, I2⟩ o b env) (dQ ⟨P, I1⟩ o b env) := by
 obtain ⟨dst, op, ty, pos, after, guard⟩ := o
 unfold dQ
 cases op <;> (try dsimp only) <;> try exact SimP.none _
 case alloc t =>
  cases P.info? t with
  | none => exact SimP.none _
  | some i =>
   dsimp only
   cases i.zero with
   | none => exact SimP.none _
   | some z => exact aBr _ _
 case makeMap t r => cases r with
  | none => exact aAv _
  | some _ => exact SimP.none _
 case box t x => exact bMk _ _
 case buildSlice t n ps =>
  cases P.underlying t with
  | none => exact SimP.none _
  | some d =>
   cases d <;> (try dsimp only) <;> try exact SimP.none _
   rename_i e
   cases P.info? e with
   | none => exact SimP.none _
   | some i =>
    dsimp only
    cases i.zero with
    | none => exact SimP.none _
    | some z =>
     dsimp only
     split
     ·exact sR _ _ _ _
     ·exact SimP.none _
theorem SimR.same {r r' : aH} (h : SimR gg r r') {v : DV} (hs : bR r v = true) : bR r' v = true := by
 unfold bR at hs ⊢
 split at hs
 ·rename_i x k
  obtain ⟨k', e, _⟩ := h x k rfl
  rw [e]; exact hs
 ·cases hs
inductive SimHs (gg : Bool) : List (Option Nat × Hp) → List (Option Nat × Hp) → Prop
 | nil : SimHs gg [] []
 | cons {j : Option Nat} {h h' : Hp} {l l' : List (Option Nat × Hp)} (S : Sim gg h h') (T : SimHs gg l l') : SimHs gg ((j, h) :: l) ((j, h') :: l')
theorem tC (m : Array Nat) (i : Nat) (v : DV) {look look' : Hp → aH} (hl : SimP gg look look') : ∀ (dirty : Bool) {hs hs' : List (Option Nat × Hp)}, SimHs gg hs hs' →
  eK m i v look dirty hs = true → eK m i v look' dirty hs' = true
 | dirty, _, _, .nil, h => h
 | dirty, _, _, .cons (j := j) S T, h => by
  unfold eK at h ⊢
  rw [Bool.and_eq_true] at h ⊢
  refine ⟨?_, ?_⟩
  ·have h1 := h.1
   cases dirty with
   | true => exact SimR.same (hl _ _ S) h1
   | false => exact h1
  ·have h2 := h.2
   cases j with
   | none => exact h2
   | some j =>
    dsimp only at h2 ⊢
    cases ho : gL m j i with
    | true => rfl
    | false =>
     rw [ho] at h2
     exact tC m i v hl true T h2
inductive SimSeen (gg : Bool) : List Seen → List Seen → Prop
 | nil : SimSeen gg [] []
 | cons {i : Nat} {look look' : Hp → aH} {v : DV} {l l' : List Seen} (S : SimP gg look look') (T : SimSeen gg l l') : SimSeen gg (⟨i, look, v⟩ :: l) (⟨i, look', v⟩ :: l')
theorem SimSeen.all {m : Array Nat} {i : Nat} {h h' : Hp} (S : Sim gg h h') : ∀ {l l' : List Seen}, SimSeen gg l l' →
  l.all (fun q => gL m q.at_ i || bR (q.look h) q.v) = true → l'.all (fun q => gL m q.at_ i || bR (q.look h') q.v) = true
 | _, _, .nil, e => e
 | _, _, .cons (i := i0) (v := v) S1 T, e => by
  rw [List.all_cons, Bool.and_eq_true] at e ⊢
  refine ⟨?_, SimSeen.all S T e.2⟩
  have h1 := e.1
  rw [Bool.or_eq_true] at h1 ⊢
  exact h1.imp id fun hs => SimR.same (S1 _ _ S) hs
theorem mJ (HC : ∀ g args, SimP gg (bX ⟨P, I2⟩ rec2 g args) (bX ⟨P, I1⟩ rec1 g args)) (nt : Nat) (all : Array Oper) (m : Array Nat) (p0 : Pos) {k k' : K} (hk : SimK gg k k') :
  ∀ (l : List Oper) (i c : Nat) (dirty : Bool) {rd rd' : List Seen} {hs hs' : List (Option Nat × Hp)}, SimSeen gg rd rd' → SimHs gg hs hs' →
   SimK gg (eI ⟨P, I2⟩ rec2 nt all m p0 l k i c dirty rd hs) (eI ⟨P, I1⟩ rec1 nt all m p0 l k' i c dirty rd' hs')
 | [], i, c, dirty, rd, rd', hs, hs', R, T => hk
 | o :: l, i, c, dirty, rd, rd', hs, hs', R, T => fun env h h' S => by
  change SimR gg (cnd (dD nt o.dst) (
   match bU P o.op with
   | .pure => bnd (bH ⟨P, I2⟩ rec2 all o env h) fun v h' => eI ⟨P, I2⟩ rec2 nt all m p0 l k (i + 1) c dirty rd hs (bG env o.dst v) h'
   | .reads => bnd (bH ⟨P, I2⟩ rec2 all o env h) fun v h' =>
     cnd (eK m i v (bH ⟨P, I2⟩ rec2 all o env) dirty hs) (eI ⟨P, I2⟩ rec2 nt all m p0 l k (i + 1) c dirty (⟨i, bH ⟨P, I2⟩ rec2 all o env, v⟩ :: rd) hs (bG env o.dst v) h')
   | .makes => bnd (dQ ⟨P, I2⟩ o (bN c p0) env h) fun v h' => eI ⟨P, I2⟩ rec2 nt all m p0 l k (i + 1) (c + 1) true rd hs (bG env o.dst v) h'
   | .acts => bnd (bH ⟨P, I2⟩ rec2 all o env h) fun v h' =>
     cnd (rd.all (fun q => gL m q.at_ i || bR (q.look h') q.v)) (eI ⟨P, I2⟩ rec2 nt all m p0 l k (i + 1) c false rd ((some i, h') :: hs) (bG env o.dst v) h')))
   (cnd (dD nt o.dst) (
   match bU P o.op with
   | .pure => bnd (bH ⟨P, I1⟩ rec1 all o env h') fun v h' => eI ⟨P, I1⟩ rec1 nt all m p0 l k' (i + 1) c dirty rd' hs' (bG env o.dst v) h'
   | .reads => bnd (bH ⟨P, I1⟩ rec1 all o env h') fun v h' =>
     cnd (eK m i v (bH ⟨P, I1⟩ rec1 all o env) dirty hs') (eI ⟨P, I1⟩ rec1 nt all m p0 l k' (i + 1) c dirty (⟨i, bH ⟨P, I1⟩ rec1 all o env, v⟩ :: rd') hs' (bG env o.dst v) h')
   | .makes => bnd (dQ ⟨P, I1⟩ o (bN c p0) env h') fun v h' => eI ⟨P, I1⟩ rec1 nt all m p0 l k' (i + 1) (c + 1) true rd' hs' (bG env o.dst v) h'
   | .acts => bnd (bH ⟨P, I1⟩ rec1 all o env h') fun v h' =>
     cnd (rd'.all (fun q => gL m q.at_ i || bR (q.look h') q.v)) (eI ⟨P, I1⟩ rec1 nt all m p0 l k' (i + 1) c false rd' ((some i, h') :: hs') (bG env o.dst v) h')))
  refine eNm id ?_
  cases bU P o.op with
  | pure => exact SimR.bnd (lM HC all o env h h' S) fun v => mJ HC nt all m p0 hk l _ _ _ R T _
  | reads =>
   exact SimR.bnd (lM HC all o env h h' S) fun v h1 h1' S1 => eNm (tC m i v (lM HC all o env) dirty T)
    (mJ HC nt all m p0 hk l _ _ _ (.cons (lM HC all o env) R) T _ _ _ S1)
  | makes => exact SimR.bnd (dKj o _ env h h' S) fun v => mJ HC nt all m p0 hk l _ _ _ R T _
  | acts =>
   exact SimR.bnd (lM HC all o env h h' S) fun v h1 h1' S1 => eNm (SimSeen.all S1 R)
    (mJ HC nt all m p0 hk l _ _ _ R (.cons S1 T) _ _ _ S1)
theorem Sim.resv {gg : Bool} {h h' : Hp} (S : Sim gg h h') (k : Nat) : Sim gg (resv k h) (resv k h') := by
 cases k with
 | zero => exact S
 | succ k => exact ⟨by show bN (k + 1) h'.next = bN (k + 1) h.next; rw [S.next], S.get⟩
theorem bVy (HC : ∀ g args, SimP gg (bX ⟨P, I2⟩ rec2 g args) (bX ⟨P, I1⟩ rec1 g args)) (nt : Nat) (ops : Array Oper) {k k' : K} (hk : SimK gg k k') :
  SimK gg (gQ ⟨P, I2⟩ rec2 nt ops k) (gQ ⟨P, I1⟩ rec1 nt ops k') := fun env h h' S => by
 unfold gQ
 rw [S.next]
 exact mJ HC nt ops _ _ hk _ _ _ _ .nil (.cons (S.resv _) .nil) env _ _ (S.resv _)
theorem aIr {c : DV} {a b a' b' : aH} (ha : SimR gg a a') (hb : SimR gg b b') : SimR gg (aU c a b) (aU c a' b') := by
 unfold aU
 cases c <;> try exact SimR.none _
 rename_i x
 cases x
 ·exact hb
 ·exact ha
theorem qI {b b' : K → K} (hb : ∀ k k', SimK gg k k' → SimK gg (b k) (b' k')) : ∀ (n d : Nat), SimK gg (aK b n) (aK b' (n + d))
 | 0, d => fun env h h' S v k e => by cases e
 | n + 1, d => by
  rw [show n + 1 + d = (n + d) + 1 from by omega]
  exact hb _ _ (qI hb n d)
theorem dP (HC : ∀ g args, SimP gg (bX ⟨P, I2⟩ rec2 g args) (bX ⟨P, I1⟩ rec1 g args)) (nt n d : Nat) : ∀ (c : Code) (X X' : Nat → K) (kr kr' k k' : K), (∀ j, SimK gg (X j) (X' j)) → SimK gg kr kr' → SimK gg k k' →
  SimK gg (aP ⟨P, I2⟩ rec2 nt n c X kr k) (aP ⟨P, I1⟩ rec1 nt (n + d) c X' kr' k') := by
 intro c
 have hfail : ∀ k', SimK gg cM k' := fun k' env h h' S v k e => by cases e
 induction c with
 | skip => intro X X' kr kr' k k' hX hr hk; exact hk
 | region id ops dr =>
  intro X X' kr kr' k k' hX hr hk
  change SimK gg (Bool.rec (motive := fun _ => K) (gM ⟨P, I2⟩ rec2 nt ops ops.toList k) (Bool.rec (motive := fun _ => K) cM (gQ ⟨P, I2⟩ rec2 nt ops k) (eE P ops)) dr)
   (Bool.rec (motive := fun _ => K) (gM ⟨P, I1⟩ rec1 nt ops ops.toList k') (Bool.rec (motive := fun _ => K) cM (gQ ⟨P, I1⟩ rec1 nt ops k') (eE P ops)) dr)
  cases dr with
  | false => exact rH HC nt ops hk _
  | true =>
   cases eE P ops with
   | false => exact hfail _
   | true => exact bVy HC nt ops hk
 | seq x y ihx ihy => intro X X' kr kr' k k' hX hr hk; exact ihx _ _ _ _ _ _ hX hr (ihy _ _ _ _ _ _ hX hr hk)
 | cond c x y ihx ihy =>
  intro X X' kr kr' k k' hX hr hk env h h' S
  exact aIr (ihx _ _ _ _ _ _ hX hr hk env h h' S) (ihy _ _ _ _ _ _ hX hr hk env h h' S)
 | block id x ih =>
  intro X X' kr kr' k k' hX hr hk
  refine ih _ _ _ _ _ _ (fun j => ?_) hr hk
  cases hj : Nat.beq j id with
  | true => exact hk
  | false => exact hX j
 | loop x ih =>
  intro X X' kr kr' k k' hX hr hk
  exact qI (fun k k' hk => ih _ _ _ _ _ _ hX hr hk) n d
 | rangeFunc f ps x y ihx ihy => intro X X' kr kr' k k' hX hr hk; exact hfail _
 | exit id => intro X X' kr kr' k k' hX hr hk; exact hX id
 | scope x ih => intro X X' kr kr' k k' hX hr hk; exact ih _ _ _ _ _ _ hX hr hk
 | label l => intro X X' kr kr' k k' hX hr hk; exact hk
 | goto l => intro X X' kr kr' k k' hX hr hk; exact hfail _
 | ret => intro X X' kr kr' k k' hX hr hk; exact hr
 | refuse why => intro X X' kr kr' k k' hX hr hk; exact hfail _
theorem bJo {h h' : Hp} (S : Sim gg h h') (t : TypeId) (x : DV) {k k' : DV → aH} (hk : ∀ v, SimR gg (k v) (k' v)) : SimR gg (aBp ⟨P, I2⟩ t x h k) (aBp ⟨P, I1⟩ t x h' k') := by
 unfold aBp
 dsimp only
 cases P.underlying t with
 | none => exact SimR.none _
 | some d =>
  cases P.info? t with
  | none => exact SimR.none _
  | some i =>
   dsimp only
   refine SimR.bnd ?_ fun v _ _ _ => hk v
   cases jG d with
   | true => exact jL _ _ h h' S
   | false => exact iO _ h h' S
theorem rQ {h h' : Hp} (S : Sim gg h h') (env : aZ) : ∀ (l : List ResultVar) (k k' : List DV → aH), (∀ vs, SimR gg (k vs) (k' vs)) → SimR gg (bEr ⟨P, I2⟩ env h l k) (bEr ⟨P, I1⟩ env h' l k')
 | [], k, k', hk => hk []
 | .tmp t :: l, k, k', hk => rQ S env l _ _ fun vs => hk _
 | .cell a t :: l, k, k', hk => bJo S t (env a) fun v => rQ S env l _ _ fun vs => hk _
theorem qF (fn : Func) : SimK gg (aQ ⟨P, I2⟩ fn) (aQ ⟨P, I1⟩ fn) := fun env h h' S => by
 unfold aQ
 refine rQ S env _ _ _ fun vs => ?_
 unfold bZw
 match vs with
 | [v] => exact SimR.some S _
 | [] => exact SimR.some S _
 | _ :: _ :: _ => exact SimR.some S _
theorem qP (HC : ∀ g args, SimP gg (bX ⟨P, I2⟩ rec2 g args) (bX ⟨P, I1⟩ rec1 g args)) (n d : Nat) (f : FuncId) (args : List DV) :
  SimP gg (aG ⟨P, I2⟩ rec2 n f args) (aG ⟨P, I1⟩ rec1 (n + d) f args) := by
 intro h h' S
 unfold aG
 dsimp only
 cases P.funcs[f]? with
 | none => exact SimR.none _
 | some fn =>
  dsimp only
  cases fn.body with
  | none => exact SimR.none _
  | some c => exact dP HC fn.ntmps n d c _ _ _ _ _ _ (fun _ _ _ _ _ _ _ e => by cases e) (qF fn) (qF fn) _ h h' S
end
theorem cCk {gg : Bool} {P : Program} {I2 I1 : FuncId → Option (List DV → Hp → aH)} (d : Nat) (h0 : ∀ g, I2 g = none → I1 g = none)
  (hI : ∀ g F, I2 g = some F → ∀ n args, SimP gg (F args) (bX ⟨P, I1⟩ (tK ⟨P, I1⟩ (n + d)) g args)) : ∀ (n : Nat) (f : FuncId) (args : List DV), SimP gg (tK ⟨P, I2⟩ n f args) (tK ⟨P, I1⟩ (n + d) f args)
 | 0, f, args => fun h h' S v k e => by cases e
 | n + 1, f, args => by
  rw [show n + 1 + d = (n + d) + 1 from by omega]
  refine qP (fun g az => ?_) n d f args
  unfold bX
  dsimp only
  cases hg : I2 g with
  | none =>
   rw [h0 g hg]
   exact cCk d h0 hI n g az
  | some F =>
   have := hI g F hg n az
   unfold bX at this
   exact this
end Go.Dd

namespace Go.Dd
section
variable {gg : Bool} {P : Program} {I2 I1 : FuncId → Option (List DV → Hp → aH)} {rec2 rec1 : FuncId → List DV → Hp → aH}
theorem nJ {c : Bool} {q q' : aH} (h : SimR gg q q') : SimR gg (cnd c q) (cnd c q') := by
 cases c with
 | false => exact SimR.none _
 | true => exact h
theorem eMx (k' : K) : SimK gg cM k' := fun env h h' S v k e => by cases e
theorem zD (HC : ∀ g args, SimP gg (bX ⟨P, I2⟩ rec2 g args) (bX ⟨P, I1⟩ rec1 g args)) (n d : Nat) (I : ItC) (b : Bool) {kr kr' k k' : K} (hr : SimK gg kr kr') (hk : SimK gg k k') (e1 : aZ) :
  SimP gg (qZ ⟨P, I2⟩ rec2 n I b kr k e1) (qZ ⟨P, I1⟩ rec1 (n + d) I b kr' k' e1) := fun h h' S =>
 nJ (rH HC I.nt I.ops (dP HC I.nt n d I.after _ _ _ _ _ _ (fun _ => eMx _) hr hk) _ _ h h' S)
theorem bLo (HC : ∀ g args, SimP gg (bX ⟨P, I2⟩ rec2 g args) (bX ⟨P, I1⟩ rec1 g args)) (n d : Nat) (I : ItC) (nt : Nat) (p : Tmp) (x y : Code) (env : aZ) {X X' : Nat → K} {kr kr' kk kk' : K} (hX : ∀ j, SimK gg (X j) (X' j)) (hr : SimK gg kr kr') (hk : SimK gg kk kk') :
  SimK gg (aCx ⟨P, I2⟩ rec2 n I nt p x y env X kr kk) (aCx ⟨P, I1⟩ rec1 (n + d) I nt p x y env X' kr' kk') := fun e1 h h' S =>
 nJ (dP HC nt n d x _ _ _ _ _ _ (fun _ => eMx _) (eMx _)
  (dP HC nt n d y _ _ _ _ _ _ (fun i _ => zD HC n d I false (fun _ => hX i env) (eMx _) e1) (fun _ => zD HC n d I false (fun _ => hr env) (eMx _) e1)
   (fun _ => zD HC n d I true (eMx _) (dP HC I.nt n d I.post _ _ _ _ _ _ (fun _ => eMx _) (eMx _) (dP HC I.nt n d I.step _ _ _ _ _ _ (fun _ => eMx _) (eMx _) hk)) e1)) _ h h' S)
theorem aZi (HC : ∀ g args, SimP gg (bX ⟨P, I2⟩ rec2 g args) (bX ⟨P, I1⟩ rec1 g args)) (n d : Nat) (I : ItC) (nt : Nat) (g : Operand) (p : Tmp) (x y : Code) {X X' : Nat → K} {kr kr' k k' : K} (hX : ∀ j, SimK gg (X j) (X' j)) (hr : SimK gg kr kr') (hk : SimK gg k k') :
  SimK gg (mY ⟨P, I2⟩ rec2 n I nt g p x y X kr k) (mY ⟨P, I1⟩ rec1 (n + d) I nt g p x y X' kr' k') := by
 intro env h h' S
 unfold mY
 cases opr env g with
 | f gf first cap =>
  cases first with
  | cons _ _ => exact SimR.none _
  | nil =>
   refine nJ ?_
   rw [S.next]
   refine dP HC I.nt n d I.pre _ _ _ _ _ _ (fun _ => eMx _) (eMx _) (qI (fun kk kk' hkk => ?_) n d) _ _ _ (S.resv 2)
   refine dP HC I.nt n d I.test _ _ _ _ _ _ (fun j => ?_) (eMx _) (rH HC I.nt I.ops ?_ I.front)
   ·cases Nat.beq j I.b0 with
    | true => exact fun _ => hk env
    | false => exact eMx _
   ·intro e1 h1 h1' S1
    exact nJ (c := ylB (e1 I.yt) h.next) (bLo HC n d I nt p x y env hX hr hkk e1 h1 h1' S1)
 | _ => exact SimR.none _
theorem bMr (HC : ∀ g args, SimP gg (bX ⟨P, I2⟩ rec2 g args) (bX ⟨P, I1⟩ rec1 g args)) (nt n d : Nat) (I : ItC) : ∀ (c : Code) (X X' : Nat → K) (kr kr' k k' : K), (∀ j, SimK gg (X j) (X' j)) → SimK gg kr kr' → SimK gg k k' →
  SimK gg (nZ ⟨P, I2⟩ rec2 nt n I c X kr k) (nZ ⟨P, I1⟩ rec1 nt (n + d) I c X' kr' k') := by
 intro c
 induction c with
 | skip => intro X X' kr kr' k k' hX hr hk; exact hk
 | region id ops dr => intro X X' kr kr' k k' hX hr hk; exact dP HC nt n d (.region id ops dr) _ _ _ _ _ _ hX hr hk
 | seq x y ihx ihy => intro X X' kr kr' k k' hX hr hk; exact ihx _ _ _ _ _ _ hX hr (ihy _ _ _ _ _ _ hX hr hk)
 | cond c x y ihx ihy =>
  intro X X' kr kr' k k' hX hr hk env h h' S
  exact aIr (ihx _ _ _ _ _ _ hX hr hk env h h' S) (ihy _ _ _ _ _ _ hX hr hk env h h' S)
 | block id x ih =>
  intro X X' kr kr' k k' hX hr hk
  refine ih _ _ _ _ _ _ (fun j => ?_) hr hk
  cases hj : Nat.beq j id with
  | true => exact hk
  | false => exact hX j
 | loop x ih =>
  intro X X' kr kr' k k' hX hr hk
  exact qI (fun k k' hk => ih _ _ _ _ _ _ hX hr hk) n d
 | rangeFunc g ps x y ihx ihy =>
  intro X X' kr kr' k k' hX hr hk
  obtain ⟨l⟩ := ps
  match l with
  | [p] => exact aZi HC n d I nt g p x y hX hr hk
  | [] => exact eMx _
  | _ :: _ :: _ => exact eMx _
 | exit id => intro X X' kr kr' k k' hX hr hk; exact hX id
 | ret => intro X X' kr kr' k k' hX hr hk; exact hr
 | _ => intros; exact eMx _
theorem bJs (HC : ∀ g args, SimP gg (bX ⟨P, I2⟩ rec2 g args) (bX ⟨P, I1⟩ rec1 g args)) (n d : Nat) (I : ItC) (f : FuncId) (args : List DV) :
  SimP gg (jF ⟨P, I2⟩ rec2 n I f args) (jF ⟨P, I1⟩ rec1 (n + d) I f args) := by
 intro h h' S
 unfold jF
 dsimp only
 cases P.funcs[f]? with
 | none => exact SimR.none _
 | some fn =>
  dsimp only
  cases fn.body with
  | none => exact SimR.none _
  | some c => exact bMr HC fn.ntmps n d I c _ _ _ _ _ _ (fun _ => eMx _) (qF fn) (qF fn) _ h h' S
end
end Go.Dd

namespace Go.Dd
noncomputable def fnR (C : Cfg) (I : ItC) (q : FuncId → Bool) (n : Nat) : FuncId → List DV → Hp → aH :=
 Nat.rec (motive := fun _ => FuncId → List DV → Hp → aH) (fun _ _ _ => none) (fun m ih f => bif q f then jF C ih m I f else aG C ih m f) n
theorem bSb {C : Cfg} {I : ItC} {q : FuncId → Bool} (hP : POk C.P) (hI : ∀ G g F, C.I g = some F → kA C.P G g F) (iOk : ItOk C.P I) (hq : ∀ f, q f = true → ∀ fn c, C.P.funcs[f]? = some fn → fn.body = some c → fZ c = true) :
  ∀ (n : Nat) (G : Gd) (f : FuncId), kA C.P G f (fnR C I q n f)
 | 0, G, f => fun args h v h1 hr => by cases hr
 | n + 1, G, f => by
  show kA C.P G f (bif q f then jF C (fnR C I q n) n I f else aG C (fnR C I q n) n f)
  have K : OkC C (fnR C I q n) := ⟨hI, fun G g => bSb hP hI iOk hq n G g⟩
  cases hf : q f with
  | true => exact bRp K hP iOk n f (hq f hf)
  | false => exact uK K hP n f
theorem aFx {gg : Bool} {P : Program} {I2 I1 : FuncId → Option (List DV → Hp → aH)} {I : ItC} {q : FuncId → Bool} (d : Nat) (h0 : ∀ g, I2 g = none → I1 g = none)
  (hI : ∀ g F, I2 g = some F → ∀ n args, SimP gg (F args) (bX ⟨P, I1⟩ (fnR ⟨P, I1⟩ I q (n + d)) g args)) : ∀ (n : Nat) (f : FuncId) (args : List DV), SimP gg (fnR ⟨P, I2⟩ I q n f args) (fnR ⟨P, I1⟩ I q (n + d) f args)
 | 0, f, args => fun h h' S v k e => by cases e
 | n + 1, f, args => by
  rw [show n + 1 + d = (n + d) + 1 from by omega]
  have HC : ∀ g az, SimP gg (bX ⟨P, I2⟩ (fnR ⟨P, I2⟩ I q n) g az) (bX ⟨P, I1⟩ (fnR ⟨P, I1⟩ I q (n + d)) g az) := fun g az => by
   unfold bX
   dsimp only
   cases hg : I2 g with
   | none =>
    rw [h0 g hg]
    exact aFx d h0 hI n g az
   | some F =>
    have := hI g F hg n az
    unfold bX at this
    exact this
  show SimP gg ((bif q f then jF ⟨P, I2⟩ (fnR ⟨P, I2⟩ I q n) n I f else aG ⟨P, I2⟩ (fnR ⟨P, I2⟩ I q n) n f) args) ((bif q f then jF ⟨P, I1⟩ (fnR ⟨P, I1⟩ I q (n + d)) (n + d) I f else aG ⟨P, I1⟩ (fnR ⟨P, I1⟩ I q (n + d)) (n + d) f) args)
  cases q f with
  | true => exact bJs HC n d I f args
  | false => exact qP HC n d f args
end Go.Dd

namespace Go.Dd
noncomputable section
def jN (w : Int) : Nat :=
 match w with
 | .ofNat w => bif Nat.beq (Nat.mod w 2) 0 && (Nat.ble 6 w && Nat.ble w 262144) then Nat.div w 2 else 0
 | .negSucc _ => 0
def iK (w : Int) : Bool :=
 match w with
 | .ofNat w => Nat.beq (Nat.mod w 2) 1 && Nat.blt w 2147483648
 | .negSucc w => Nat.beq (Nat.mod w 2) 0 && Nat.blt w 2147483648
def dGd (w : Int) : Int :=
 match w with
 | .ofNat w => .ofNat (Nat.div w 2)
 | .negSucc w => .negSucc (Nat.div w 2)
structure MemV where
 wb : Pos
 n : Nat
 fin : Nat
 made : Nat
 pb : Pos
 t : WT
 pl : WT
def qJ (m : Pos) (h : Hp) : Option MemV :=
 match h.bl.get m with
 | some (.row .ex [.l wb 0 n c, .i .i64 (.ofNat fin), .i .i64 (.ofNat made), .m pb]) =>
  match h.bl.get wb, h.bl.get pb with
  | some (.big n' t), some (.mi pl) => bif Nat.beq n n' && Nat.beq n c then (bif Nat.blt n 1000000 && (Nat.ble fin n && Nat.blt made 1000000) then some ⟨wb, n, fin, made, pb, t, pl⟩ else none) else none
  | _, _ => none
 | _ => none
def gN (o : Int) (pl : WT) : Nat :=
 bif Nat.beq (jN o) 0 then 0 else match pl.get (jN o) with
  | .ofNat 0 => 0
  | _ => jN o
def aLj (w : Int) (pl : WT) : Bool :=
 match w with
 | .ofNat 0 => true
 | .ofNat 2 => true
 | .ofNat 4 => true
 | w => iK w || !(Nat.beq (gN w pl) 0)
def aBb (w : Int) (pl : WT) : Bool :=
 match w with
 | .ofNat 0 => true
 | w => !(Nat.beq (gN w pl) 0)
def qD (args : List DV) (h : Hp) (k : MemV → List DV → aH) : aH :=
 match args with
 | .p m 0 :: rest => match qJ m h with
  | some M => k M rest
  | none => none
 | _ => none
def err (e : Nat) (h : Hp) : aH := some (.t [.i .i64 (.ofNat 0), .i .i64 (.ofNat e)], h)
def isF (args : List DV) (h : Hp) : aH := qD args h fun M r => match r with
 | [.i .i64 w] => some (.b (!(Nat.beq (gN w M.pl) 0)), h)
 | _ => none
def cEq (args : List DV) (h : Hp) : aH := qD args h fun M r => match r with
 | [.i .i64 w] => some (.b (aLj w M.pl), h)
 | _ => none
def aCa (args : List DV) (h : Hp) : aH := qD args h fun M r => match r with
 | [] => some (.i .i64 (.ofNat M.n), h)
 | _ => none
def bHr (args : List DV) (h : Hp) : aH := qD args h fun M r => match r with
 | [] => some (.i .i64 (.ofNat (Nat.sub M.n M.fin)), h)
 | _ => none
def mG (M : MemV) (o : Int) (k : Nat → aH) : aH :=
 bif Nat.blt (Nat.add (gN o M.pl) 1) M.n then (match M.t.get (gN o M.pl) with
  | .ofNat hd => bif Nat.blt hd 1000000000000 then k hd else none
  | .negSucc _ => none) else none
def nF (args : List DV) (h : Hp) : aH := qD args h fun M r => match r with
 | [.i .i64 o] => mG M o fun _ => some (.i .i64 (M.t.get (Nat.add (gN o M.pl) 1)), h)
 | _ => none
def nK (args : List DV) (h : Hp) : aH := qD args h fun M r => match r with
 | [.i .i64 o] => mG M o fun hd => some (.i .i64 (.ofNat (Nat.mod hd 4)), h)
 | _ => none
def lY (args : List DV) (h : Hp) : aH := qD args h fun M r => match r with
 | [.i .i64 o] => mG M o fun hd => some (.i .i64 (.ofNat (Nat.div hd 4)), h)
 | _ => none
def kZ (M : MemV) (o i : Int) (bad : Nat → aH) (k : Nat → Nat → aH) : aH :=
 bif Nat.beq (gN o M.pl) 0 then bad 1 else match i with
  | .negSucc _ => bad 5
  | .ofNat i => mG M o fun hd => bif Nat.ble (Nat.div hd 4) i then bad 5 else
    (bif Nat.blt (Nat.add (Nat.add (gN o M.pl) 3) i) M.n then k hd (Nat.add (Nat.add (gN o M.pl) 3) i) else none)
def cGn (args : List DV) (h : Hp) : aH := qD args h fun M r => match r with
 | [.i .i64 o, .i .i64 i] => kZ M o i (fun e => err e h) fun _ a => some (.t [.i .i64 (M.t.get a), .i .i64 (.ofNat 0)], h)
 | _ => none
def rC (M : MemV) (a : Nat) (w : Int) (h : Hp) : aH := some (.i .i64 (.ofNat 0), ⟨h.next, Tr.set (.big M.n (M.t.set a w)) M.wb h.bl⟩)
def aQd (args : List DV) (h : Hp) : aH := qD args h fun M r => match r with
 | [.i .i64 o, .i .i64 i, .i .i64 w] => kZ M o i (fun e => some (.i .i64 (.ofNat e), h)) fun hd a =>
   match Nat.mod hd 4 with
   | 0 => bif aLj w M.pl then rC M a w h else some (.i .i64 (.ofNat 6), h)
   | 2 => (match w with
    | .ofNat c => bif Nat.ble c 255 then rC M a w h else some (.i .i64 (.ofNat 6), h)
    | .negSucc _ => some (.i .i64 (.ofNat 6), h))
   | _ => rC M a w h
 | _ => none
def lD (args : List DV) (h : Hp) : aH := qD args h fun M r => match r with
 | [.i .i64 o, .i .i64 c] => bif Nat.beq (gN o M.pl) 0 || !(aBb c M.pl) then some (.i .i64 (.ofNat 1), h) else
   (bif Nat.blt (Nat.add (gN o M.pl) 1) M.n then rC M (Nat.add (gN o M.pl) 1) c h else none)
 | _ => none
def oG (t : WT) (c : Nat) : Nat → WT :=
 Nat.rec (motive := fun _ => Nat → WT) (fun _ => t) (fun _ ih a => (ih (Nat.add a 1)).set a (.ofNat 0)) c
def tB (args : List DV) (h : Hp) : aH :=
 match args with
 | [.p m 0, .i .i64 cls, .i .i64 fmt, .i .i64 cnt] => match qJ m h with
  | none => none
  | some M => bif !(aBb cls M.pl) then err 1 h else match fmt, cnt with
   | .ofNat f, .ofNat c => bif Nat.ble f 2 && Nat.ble c 256 then
     (bif Nat.blt (Nat.sub M.n M.fin) (Nat.add c 3) then err 4 h else
      (bif Nat.ble 3 M.fin && Nat.ble M.fin 131072 then
       some (.t [.i .i64 (.ofNat (Nat.mul M.fin 2)), .i .i64 (.ofNat 0)],
        ⟨h.next, Tr.set (.row .ex [.l M.wb 0 M.n M.n, .i .i64 (.ofNat (Nat.add M.fin (Nat.add c 3))), .i .i64 (.ofNat (Nat.succ M.made)), .m M.pb]) m
         (Tr.set (.mi (M.pl.set M.fin (.ofNat 1))) M.pb
          (Tr.set (.big M.n (oG (((M.t.set M.fin (.ofNat (Nat.add (Nat.mul c 4) f))).set (Nat.add M.fin 1) cls).set (Nat.add M.fin 2) (.ofNat (Nat.succ M.made))) c (Nat.add M.fin 3))) M.wb h.bl))⟩)
       else none))
     else err 1 h
   | _, _ => err 1 h
 | _ => none
def aUc (args : List DV) (h : Hp) : aH :=
 match args with
 | [.i .i64 (.ofNat n)] => bif Nat.blt n 16 || Nat.blt 131072 n then some (.p0, h) else
   some (.p (bN 2 h.next) 0, ⟨bN 3 h.next, Tr.set (.row .ex [.l h.next 0 n n, .i .i64 (.ofNat 3), .i .i64 (.ofNat 0), .m (bN 1 h.next)]) (bN 2 h.next)
    (Tr.set (.mi .e) (bN 1 h.next) (Tr.set (.big n .e) h.next h.bl))⟩)
 | [.i .i64 (.negSucc _)] => some (.p0, h)
 | _ => none
def iZ (args : List DV) (h : Hp) : aH :=
 match args with
 | [.i .i64 w] => some (.b (iK w), h)
 | _ => none
def mK (args : List DV) (h : Hp) : aH :=
 match args with
 | [.i .i64 w] => bif iK w then some (.i .i64 (dGd w), h) else some (.i .i64 (.ofNat 0), h)
 | _ => none
def oJ (args : List DV) (h : Hp) : aH :=
 match args with
 | [.i .i64 (.ofNat n)] => bif Nat.blt n 1073741824 then some (.t [.i .i64 (.ofNat (Nat.succ (Nat.mul n 2))), .b true], h) else some (.t [.i .i64 (.ofNat 0), .b false], h)
 | [.i .i64 (.negSucc n)] => bif Nat.blt n 1073741824 then some (.t [.i .i64 (.negSucc (Nat.mul n 2)), .b true], h) else some (.t [.i .i64 (.ofNat 0), .b false], h)
 | _ => none
def aAz (g : Nat) : Option (List DV → Hp → aH) :=
 bif Nat.beq g 20 then some cEq else bif Nat.beq g 21 then some isF else bif Nat.beq g 22 then some aCa else bif Nat.beq g 29 then some bHr else
 bif Nat.beq g 30 then some tB else bif Nat.beq g 41 then some aUc else bif Nat.beq g 44 then some lD else bif Nat.beq g 47 then some aQd else
 bif Nat.beq g 50 then some nF else bif Nat.beq g 51 then some nK else bif Nat.beq g 52 then some lY else bif Nat.beq g 54 then some iZ else
 bif Nat.beq g 60 then some oJ else bif Nat.beq g 62 then some mK else bif Nat.beq g 73 then some cGn else none
end
end Go.Dd

namespace Go.Dd
open Go.Proofs
def cf (f : Func) : Code := match f.body with
 | some c => c
 | none => .skip
def cL : Code → Code
 | .seq a _ => a
 | .cond _ a _ => a
 | .block _ a => a
 | .loop a => a
 | .scope a => a
 | c => c
def cR : Code → Code
 | .seq _ b => b
 | .cond _ _ b => b
 | c => c
def cC : Code → Operand
 | .cond c _ _ => c
 | _ => .const .nilFunc
def x0 : Nat → K := fun _ => cM
def xs (X : Nat → K) (i : Nat) (k : K) : Nat → K := fun j => bif Nat.beq j i then k else X j
def aQh (c : Nat) : List Nat → Nat → Int
 | [], _ => .negSucc 0
 | x :: l, i => bif Nat.beq x c then .ofNat i else aQh c l (i + 1)
def mI (args : List DV) (h : Hp) : aH :=
 match args with
 | [.s l, .i .u8 (.ofNat c)] => bif Nat.blt c 256 then some (.i .i64 (aQh c l 0), h) else none
 | _ => none
noncomputable def CF0 : Cfg := ⟨Tryz.prog, fun _ => none⟩
noncomputable def kY (p : Pos) : Pos → Bool := Pos.rec (motive := fun _ => Pos → Bool) (fun q => Pos.rec (motive := fun _ => Bool) true (fun _ _ => false) (fun _ _ => false) q)
 (fun _ ih q => Pos.rec (motive := fun _ => Bool) false (fun q _ => ih q) (fun _ _ => false) q) (fun _ ih q => Pos.rec (motive := fun _ => Bool) false (fun _ _ => false) (fun q _ => ih q) q) p
noncomputable def jC (q : Pos) (l1 : DV) (cs : List DV) (h : Hp) : aH :=
 match l1 with
 | .l0 => some (.l h.next 0 1 1, ⟨h.next.succ, Tr.set (.row (.gr 4) cs) h.next h.bl⟩)
 | .l b o len cap => cnd (Nat.ble cap len && !(kY b q)) (match h.bl.get b, cellsAt b o (len * 4) h with
  | some (.row (.gr es) l), some old => if es = 4 ∧ o + cap * 4 = l.length ∧ (len + 1) * 56 ≤ tF then
    some (.l h.next 0 (len + 1) (len + 1), ⟨h.next.succ, Tr.set (.row (.gr 4) (old ++ cs)) h.next (Tr.set (.row .sp (bV o l)) b h.bl)⟩) else none
  | _, _ => none)
 | _ => none
noncomputable def rT (c q : Pos) (h : Hp) : aH :=
 bnd (aA (.p c 4) h) fun l1 _ =>
 bnd (bJ l1 h) fun n _ =>
 bnd (aL 4 (.p q 0) h) fun x _ =>
 match x with
 | .a cs => cnd (!(kY c q)) (
  bnd (jC q l1 cs ⟨h.next.succ.succ, h.bl⟩) fun l2 h3 =>
  bnd (aJ 1 (.p c 4) l2 h3) fun _ h4 => some (n, h4))
 | _ => none
noncomputable def mA (args : List DV) (h : Hp) : aH :=
 match args with
 | [.p c 0, .a lit] =>
  bnd (bS lit h) fun _ h1 =>
  bnd (aA (.p c 4) h1) fun ls h2 =>
  bnd (tK CF0 60 187 [ls, .f 277 [] [.p h.next 0]] h2) fun i h3 =>
  bnd (aD .lss i (.i .i64 (Int.ofNat 0)) h3) fun t h4 =>
  aU t (rT c h.next h4) (some (i, h4))
 | _ => none
noncomputable def lE (c q : Pos) (h : Hp) : aH :=
 bnd (aA (.p c 4) h) fun l1 _ =>
 bnd (aL 4 (.p q 0) h) fun x _ =>
 match x with
 | .a cs => cnd (!(kY c q)) (
  bnd (jC q l1 cs ⟨h.next.succ, h.bl⟩) fun l2 h3 =>
  bnd (aJ 1 (.p c 4) l2 h3) fun _ h4 =>
  bnd (aA (.p c 4) h4) fun l3 _ =>
  bnd (bJ l3 h4) fun n3 _ =>
  bnd (aD .sub n3 (.i .i64 (Int.ofNat 1)) h4) fun v _ => some (v, h4))
 | _ => none
noncomputable def mQ : K := fun env h => match env 0, env 3 with
 | .p c 0, .p q 0 => lE c q h
 | _, _ => none
noncomputable def fJ (args : List DV) (h : Hp) : aH :=
 aP CF0 (tK CF0 60) 47 60 (cL (cf Tryz.f174)) x0 (aQ CF0 Tryz.f174) (aP CF0 (tK CF0 60) 47 60 (cL (cR (cf Tryz.f174))) x0 (aQ CF0 Tryz.f174) mQ) (aI args) h
noncomputable def CF1 : Cfg := ⟨Tryz.prog, fun g => bif Nat.beq g 266 then some mI else bif Nat.beq g 242 then some mA else bif Nat.beq g 174 then some fJ else none⟩
noncomputable def CF : Cfg := ⟨Tryz.prog, fun g => bif Nat.beq g 266 then some mI else bif Nat.beq g 242 then some mA else bif Nat.beq g 174 then some fJ else aAz g⟩
def fF : Code → Array Oper
 | .region _ ops _ => ops
 | _ => #[]
noncomputable def itL : Code := cL (cL (cR (cf Tryz.f183)))
noncomputable def itB : Code := cL (cL (cR itL))
def eDg : List Oper → Nat → Oper
 | [], _ => ⟨none, .move (.const .nilFunc), 0, "", #[], none⟩
 | o :: _, 0 => o
 | _ :: l, n + 1 => eDg l n
noncomputable def itm : ItC := { gf := 183, nt := 31, pre := cL (cf Tryz.f183), b0 := 0, test := cL itL, b1 := 1, rid := 3, front := (fF (cL (cL itB))).toList.take 4, y := eDg (fF (cL (cL itB))).toList 4, back := (fF (cL (cL itB))).toList.drop 5, after := cR (cL itB), post := cR itB, step := cR (cR itL), yd := 26, yt := 22, yx := 25 }
def rgB (g : FuncId) : Bool := Nat.beq g 95 || (Nat.beq g 94 || Nat.beq g 330)
noncomputable abbrev fV (C : Cfg) (n : Nat) : FuncId → List DV → Hp → aH := fnR C itm rgB n
theorem cE (f : FuncId) (hf : rgB f = false) (C : Cfg) (n : Nat) (args : List DV) (h : Hp) : fV C (n + 1) f args h = aG C (fV C n) n f args h := by
 show (bif rgB f then jF C (fV C n) n itm f else aG C (fV C n) n f) args h = _
 rw [hf]
 rfl
theorem dVd (f : FuncId) (hf : rgB f = true) (C : Cfg) (n : Nat) (args : List DV) (h : Hp) : fV C (n + 1) f args h = jF C (fV C n) n itm f args h := by
 show (bif rgB f then jF C (fV C n) n itm f else aG C (fV C n) n f) args h = _
 rw [hf]
 rfl
abbrev RT := FuncId → List DV → Hp → aH
abbrev TT0 := Hp → aH
abbrev TT1 := DV → Hp → aH
abbrev gV := DV → DV → Hp → aH
abbrev bZ := DV → DV → DV → Hp → aH
abbrev bT := DV → DV → DV → DV → Hp → aH
abbrev bK := DV → DV → DV → DV → DV → Hp → aH
abbrev gX := DV → DV → DV → DV → DV → DV → Hp → aH
abbrev TT7 := DV → DV → DV → DV → DV → DV → DV → Hp → aH
abbrev TT8 := DV → DV → DV → DV → DV → DV → DV → DV → Hp → aH
abbrev TT9 := DV → DV → DV → DV → DV → DV → DV → DV → DV → Hp → aH
abbrev aUs := DV → DV → DV → DV → DV → DV → DV → DV → DV → DV → Hp → aH
abbrev dWh := DV → DV → DV → DV → DV → DV → DV → DV → DV → DV → DV → Hp → aH
abbrev eKn := DV → DV → DV → DV → DV → DV → DV → DV → DV → DV → DV → DV → Hp → aH
abbrev eIw := DV → DV → DV → DV → DV → DV → DV → DV → DV → DV → DV → DV → DV → Hp → aH
abbrev eMg := DV → DV → DV → DV → DV → DV → DV → DV → DV → DV → DV → DV → DV → DV → Hp → aH
abbrev eJc := DV → DV → DV → DV → DV → DV → DV → DV → DV → DV → DV → DV → DV → DV → DV → Hp → aH
abbrev eHv := DV → DV → DV → DV → DV → DV → DV → DV → DV → DV → DV → DV → DV → DV → DV → DV → Hp → aH
abbrev eLr := DV → DV → DV → DV → DV → DV → DV → DV → DV → DV → DV → DV → DV → DV → DV → DV → DV → Hp → aH
abbrev eLv := DV → DV → DV → DV → DV → DV → DV → DV → DV → DV → DV → DV → DV → DV → DV → DV → DV → DV → Hp → aH
abbrev eGp := DV → DV → DV → DV → DV → DV → DV → DV → DV → DV → DV → DV → DV → DV → DV → DV → DV → DV → DV → Hp → aH
abbrev eJz := DV → DV → DV → DV → DV → DV → DV → DV → DV → DV → DV → DV → DV → DV → DV → DV → DV → DV → DV → DV → Hp → aH
abbrev K0 (f : TT0) : K := fun env h => f h
abbrev K1 (f : TT1) (a0 : Nat) : K := fun env h => f (env a0) h
abbrev K2 (f : gV) (a0 a1 : Nat) : K := fun env h => f (env a0) (env a1) h
abbrev K3 (f : bZ) (a0 a1 a2 : Nat) : K := fun env h => f (env a0) (env a1) (env a2) h
abbrev K4 (f : bT) (a0 a1 a2 a3 : Nat) : K := fun env h => f (env a0) (env a1) (env a2) (env a3) h
abbrev K5 (f : bK) (a0 a1 a2 a3 a4 : Nat) : K := fun env h => f (env a0) (env a1) (env a2) (env a3) (env a4) h
abbrev K6 (f : gX) (a0 a1 a2 a3 a4 a5 : Nat) : K := fun env h => f (env a0) (env a1) (env a2) (env a3) (env a4) (env a5) h
abbrev K7 (f : TT7) (a0 a1 a2 a3 a4 a5 a6 : Nat) : K := fun env h => f (env a0) (env a1) (env a2) (env a3) (env a4) (env a5) (env a6) h
abbrev K8 (f : TT8) (a0 a1 a2 a3 a4 a5 a6 a7 : Nat) : K := fun env h => f (env a0) (env a1) (env a2) (env a3) (env a4) (env a5) (env a6) (env a7) h
abbrev K9 (f : TT9) (a0 a1 a2 a3 a4 a5 a6 a7 a8 : Nat) : K := fun env h => f (env a0) (env a1) (env a2) (env a3) (env a4) (env a5) (env a6) (env a7) (env a8) h
abbrev K10 (f : aUs) (a0 a1 a2 a3 a4 a5 a6 a7 a8 a9 : Nat) : K := fun env h => f (env a0) (env a1) (env a2) (env a3) (env a4) (env a5) (env a6) (env a7) (env a8) (env a9) h
abbrev K11 (f : dWh) (a0 a1 a2 a3 a4 a5 a6 a7 a8 a9 a10 : Nat) : K := fun env h => f (env a0) (env a1) (env a2) (env a3) (env a4) (env a5) (env a6) (env a7) (env a8) (env a9) (env a10) h
abbrev K12 (f : eKn) (a0 a1 a2 a3 a4 a5 a6 a7 a8 a9 a10 a11 : Nat) : K := fun env h => f (env a0) (env a1) (env a2) (env a3) (env a4) (env a5) (env a6) (env a7) (env a8) (env a9) (env a10) (env a11) h
abbrev K13 (f : eIw) (a0 a1 a2 a3 a4 a5 a6 a7 a8 a9 a10 a11 a12 : Nat) : K := fun env h => f (env a0) (env a1) (env a2) (env a3) (env a4) (env a5) (env a6) (env a7) (env a8) (env a9) (env a10) (env a11) (env a12) h
abbrev K14 (f : eMg) (a0 a1 a2 a3 a4 a5 a6 a7 a8 a9 a10 a11 a12 a13 : Nat) : K := fun env h => f (env a0) (env a1) (env a2) (env a3) (env a4) (env a5) (env a6) (env a7) (env a8) (env a9) (env a10) (env a11) (env a12) (env a13) h
abbrev K15 (f : eJc) (a0 a1 a2 a3 a4 a5 a6 a7 a8 a9 a10 a11 a12 a13 a14 : Nat) : K := fun env h => f (env a0) (env a1) (env a2) (env a3) (env a4) (env a5) (env a6) (env a7) (env a8) (env a9) (env a10) (env a11) (env a12) (env a13) (env a14) h
abbrev K16 (f : eHv) (a0 a1 a2 a3 a4 a5 a6 a7 a8 a9 a10 a11 a12 a13 a14 a15 : Nat) : K := fun env h => f (env a0) (env a1) (env a2) (env a3) (env a4) (env a5) (env a6) (env a7) (env a8) (env a9) (env a10) (env a11) (env a12) (env a13) (env a14) (env a15) h
abbrev K17 (f : eLr) (a0 a1 a2 a3 a4 a5 a6 a7 a8 a9 a10 a11 a12 a13 a14 a15 a16 : Nat) : K := fun env h => f (env a0) (env a1) (env a2) (env a3) (env a4) (env a5) (env a6) (env a7) (env a8) (env a9) (env a10) (env a11) (env a12) (env a13) (env a14) (env a15) (env a16) h
abbrev K18 (f : eLv) (a0 a1 a2 a3 a4 a5 a6 a7 a8 a9 a10 a11 a12 a13 a14 a15 a16 a17 : Nat) : K := fun env h => f (env a0) (env a1) (env a2) (env a3) (env a4) (env a5) (env a6) (env a7) (env a8) (env a9) (env a10) (env a11) (env a12) (env a13) (env a14) (env a15) (env a16) (env a17) h
abbrev K19 (f : eGp) (a0 a1 a2 a3 a4 a5 a6 a7 a8 a9 a10 a11 a12 a13 a14 a15 a16 a17 a18 : Nat) : K := fun env h => f (env a0) (env a1) (env a2) (env a3) (env a4) (env a5) (env a6) (env a7) (env a8) (env a9) (env a10) (env a11) (env a12) (env a13) (env a14) (env a15) (env a16) (env a17) (env a18) h
abbrev K20 (f : eJz) (a0 a1 a2 a3 a4 a5 a6 a7 a8 a9 a10 a11 a12 a13 a14 a15 a16 a17 a18 a19 : Nat) : K := fun env h => f (env a0) (env a1) (env a2) (env a3) (env a4) (env a5) (env a6) (env a7) (env a8) (env a9) (env a10) (env a11) (env a12) (env a13) (env a14) (env a15) (env a16) (env a17) (env a18) (env a19) h
theorem okG {d s : K} (m : d = s) (args : List DV) (h : Hp) {a b : aH} (e1 : a = d (aI args) h) (e2 : s (aI args) h = b) : a = b :=
 e1.trans ((congrFun (congrFun m (aI args)) h).trans e2)
abbrev aF (n : Nat) : DV := .i .i64 (Int.ofNat n)
abbrev tQ : List DV := [(.i .i64 (Int.ofNat 0)), (.s []), (.i .i64 (Int.ofNat 0)), .l0, .l0, .l0]
abbrev aR (args : List DV) (i : Nat) : DV := args.getD i aY
end Go.Dd

namespace Go.Dd
open Go.Proofs
variable (r : RT) (n : Nat) (args : List DV) (h : Hp)
noncomputable def fH (r : RT) (n : Nat) (x5 : DV) (h0 : Hp) : aH :=
 some (.t [x5, (aF 0)], h0)
noncomputable def kK (r : RT) (n : Nat) (kk9 : bT) (x5 x155 x156 x157 : DV) (h0 : Hp) : aH :=
 bnd (aD .lss x157 x156 h0) fun v1 h1 =>
 aU v1 (
 bnd (aC 1 x155 x157 h1) fun v2 h2 =>
 bnd (aA v2 h2) fun v3 h3 =>
 bnd (aC 1 v3 (aF 0) h3) fun v4 h4 =>
 bnd (aA v4 h4) fun v5 h5 =>
 bnd (aC 1 v3 (aF 1) h5) fun v6 h6 =>
 bnd (aA v6 h6) fun v7 h7 =>
 bnd (r 34 [x5, v5, v7] h7) fun v8 h8 =>
 bnd (aE 0 v8 h8) fun v9 h9 =>
 bnd (aE 1 v8 h9) fun v10 h10 =>
 bnd (aE 2 v8 h10) fun v11 h11 =>
 bnd (aE 3 v8 h11) fun v12 h12 =>
 bnd (aD .neq v12 (aF 0) h12) fun v13 h13 =>
 aU v13 (
 some (.t [.p0, v12], h13)) (
 bnd (aD .add x157 (aF 1) h13) fun v14 h14 =>
    kk9 x5 x155 x156 v14 h14)) (
      fH r n x5 h1)
noncomputable def kP (r : RT) (n : Nat) (m : Nat) : bT :=
 Nat.rec (motive := fun _ => bT) (fun _ _ _ _ _ => none) (fun _ ih => kK r n ih) m
noncomputable def bHp (r : RT) (n : Nat) : bT := kP r n n
noncomputable def cHa (r : RT) (n : Nat) (x5 x155 x156 x157 : DV) (h0 : Hp) : aH :=
 bHp r n x5 x155 x156 x157 h0
noncomputable def bF (r : RT) (n : Nat) (x5 : DV) (h0 : Hp) : aH :=
 bnd (r 37 [] h0) fun v1 h1 =>
 bnd (bJ v1 h1) fun v2 h2 =>
  cHa r n x5 v1 v2 (aF 0) h2
noncomputable def bA (r : RT) (n : Nat) (kk11 : bK) (x4 x5 x59 x60 x61 : DV) (h0 : Hp) : aH :=
 bnd (aD .add x61 (aF 1) h0) fun v1 h1 =>
  kk11 x4 x5 x59 x60 v1 h1
noncomputable def eT (r : RT) (n : Nat) (kk11 : bK) (x4 x5 x8 x9 x59 x60 x61 : DV) (h0 : Hp) : aH :=
 bnd (aX x5 h0) fun v1 h1 =>
 bnd (aB 1 v1 h1) fun v2 h2 =>
 bnd (aA v2 h2) fun v3 h3 =>
 bnd (aX x5 h3) fun v4 h4 =>
 bnd (aB 1 v4 h4) fun v5 h5 =>
 bnd (aA v5 h5) fun v6 h6 =>
 bnd (aC 1 v6 (aF 1) h6) fun v7 h7 =>
 bnd (aA v7 h7) fun v8 h8 =>
 bnd (r 48 [x5, x9, v8] h8) fun v9 h9 =>
 cnd (bR (aA v2 h9) v3 && true) (
 bnd (aE 0 v9 h9) fun v10 h10 =>
 bnd (aE 1 v9 h10) fun v11 h11 =>
 bnd (aC 1 v3 (aF 1) h11) fun v12 h12 =>
 bnd (aJ 1 v12 v10 h12) fun v13 h13 =>
 bnd (aX x5 h13) fun v14 h14 =>
 bnd (aB 3 v14 h14) fun v15 h15 =>
 bnd (aA v15 h15) fun v16 h16 =>
 bnd (aB 0 x8 h16) fun v17 h17 =>
 bnd (aA v17 h17) fun v18 h18 =>
 bnd (gI .string v16 v18 x9 h18) fun v19 h19 =>
  bA r n kk11 x4 x5 x59 x60 x61 h19)
noncomputable def bHu (r : RT) (n : Nat) (kk11 : bK) (kk25 : aUs) (x4 x5 x8 x9 x59 x60 x61 x117 x118 x119 : DV) (h0 : Hp) : aH :=
 bnd (aD .lss x119 x118 h0) fun v1 h1 =>
 aU v1 (
 bnd (aC 1 x117 x119 h1) fun v2 h2 =>
 bnd (aA v2 h2) fun v3 h3 =>
 bnd (aQd [x4, x9, x119, v3] h3) fun v4 h4 =>
 bnd (aD .add x119 (aF 1) h4) fun v5 h5 =>
      kk25 x4 x5 x8 x9 x59 x60 x61 x117 x118 v5 h5) (
      eT r n kk11 x4 x5 x8 x9 x59 x60 x61 h1)
noncomputable def uT (r : RT) (n : Nat) (kk11 : bK) (m : Nat) : aUs :=
 Nat.rec (motive := fun _ => aUs) (fun _ _ _ _ _ _ _ _ _ _ _ => none) (fun _ ih => bHu r n kk11 ih) m
noncomputable def cNe (r : RT) (n : Nat) (kk11 : bK) : aUs := uT r n kk11 n
noncomputable def aAe (r : RT) (n : Nat) (kk11 : bK) (x4 x5 x8 x9 x59 x60 x61 x117 x118 x119 : DV) (h0 : Hp) : aH :=
 cNe r n kk11 x4 x5 x8 x9 x59 x60 x61 x117 x118 x119 h0
noncomputable def aNc (r : RT) (n : Nat) (kk11 : bK) (x4 x5 x8 x9 x10 x12 x13 x19 x59 x60 x61 : DV) (h0 : Hp) : aH :=
 bnd (r 46 [x13] (resv 1 h0)) fun v1 h1 =>
 bnd (aB 2 x8 h1) fun v2 h2 =>
 bnd (aA v2 h2) fun v3 h3 =>
 cnd (bR (aA v2 (resv 1 h0)) v3 && true) (
 bnd (r 46 [v3] h3) fun v4 h4 =>
 bnd (bB (bN 0 h0.next) [(aF 0), (aF 0), (aF 0), (aF 0), (aF 0), (aF 0)] 6 [(0, 1, x10), (1, 1, x12), (2, 1, v1), (3, 1, x19), (4, 1, (aF 0)), (5, 1, v4)] h4) fun v5 h5 =>
 bnd (bJ v5 h5) fun v6 h6 =>
  aAe r n kk11 x4 x5 x8 x9 x59 x60 x61 v5 v6 (aF 0) h6)
noncomputable def pM (r : RT) (n : Nat) (kk11 : bK) (x4 x5 x8 x9 x10 x12 x13 x14 x59 x60 x61 : DV) (h0 : Hp) : aH :=
 bnd (r 45 [x5, x14] h0) fun v1 h1 =>
 bnd (aE 0 v1 h1) fun v2 h2 =>
 bnd (aE 1 v1 h2) fun v3 h3 =>
  aNc r n kk11 x4 x5 x8 x9 x10 x12 x13 v2 x59 x60 x61 h3
noncomputable def aAl (r : RT) (n : Nat) (kk11 : bK) (x4 x5 x7 x8 x9 x10 x12 x13 x14 x59 x60 x61 : DV) (h0 : Hp) : aH :=
 bnd (aD .eql x7 (aF 15) h0) fun v1 h1 =>
 aU v1 (
 bnd (r 11 [x5, (.s [115, 101, 108, 101, 99, 116, 111, 114])] h1) fun v2 h2 =>
 bnd (aE 0 v2 h2) fun v3 h3 =>
 bnd (aE 1 v2 h3) fun v4 h4 =>
 bnd (r 11 [x5, (.s [97, 114, 103, 117, 109, 101, 110, 116, 115])] h4) fun v5 h5 =>
 bnd (aE 0 v5 h5) fun v6 h6 =>
 bnd (aE 1 v5 h6) fun v7 h7 =>
 bnd (aO [(aF 0), (aF 0)] 2 [(0, 1, v3), (1, 1, v6)] h7) fun v8 h8 =>
  pM r n kk11 x4 x5 x8 x9 x10 x12 (aF 2) v8 x59 x60 x61 h8) (
  pM r n kk11 x4 x5 x8 x9 x10 x12 x13 x14 x59 x60 x61 h1)
noncomputable def aYi (r : RT) (n : Nat) (kk11 : bK) (x4 x5 x7 x8 x9 x10 x12 x13 x14 x59 x60 x61 : DV) (h0 : Hp) : aH :=
 bnd (aB 1 x8 h0) fun v1 h1 =>
 bnd (aA v1 h1) fun v2 h2 =>
 bnd (aD .geq v2 (aF 0) h2) fun v3 h3 =>
 aU v3 (
 bnd (aB 1 x8 h3) fun v4 h4 =>
 bnd (aA v4 h4) fun v5 h5 =>
 bnd (r 15 [x5, v5] h5) fun v6 h6 =>
  aAl r n kk11 x4 x5 x7 x8 x9 x10 v6 x13 x14 x59 x60 x61 h6) (
  aAl r n kk11 x4 x5 x7 x8 x9 x10 x12 x13 x14 x59 x60 x61 h3)
noncomputable def aXa (r : RT) (n : Nat) (kk11 : bK) (x4 x5 x7 x8 x9 x10 x59 x60 x61 : DV) (h0 : Hp) : aH :=
 aYi r n kk11 x4 x5 x7 x8 x9 x10 (aF 0) (aF 0) .l0 x59 x60 x61 h0
noncomputable def aYo (r : RT) (n : Nat) (kk11 : bK) (x4 x5 x7 x8 x9 x59 x60 x61 : DV) (h0 : Hp) : aH :=
 bnd (aB 0 x8 h0) fun v1 h1 =>
 bnd (aA v1 h1) fun v2 h2 =>
 bnd (r 11 [x5, v2] h2) fun v3 h3 =>
 bnd (aE 0 v3 h3) fun v4 h4 =>
 bnd (aE 1 v3 h4) fun v5 h5 =>
  aXa r n kk11 x4 x5 x7 x8 x9 v4 x59 x60 x61 h5
noncomputable def aSr (r : RT) (n : Nat) (kk11 : bK) (x4 x5 x7 x8 x9 x59 x60 x61 : DV) (h0 : Hp) : aH :=
 bnd (r 15 [x5, (aF 1)] h0) fun v1 h1 =>
 bnd (lD [x4, x9, v1] h1) fun v2 h2 =>
  aYo r n kk11 x4 x5 x7 x8 x9 x59 x60 x61 h2
noncomputable def yK (r : RT) (n : Nat) (kk11 : bK) (x4 x5 x7 x8 x59 x60 x61 : DV) (h0 : Hp) : aH :=
 bnd (r 15 [x5, x7] h0) fun v1 h1 =>
  aSr r n kk11 x4 x5 x7 x8 v1 x59 x60 x61 h1
noncomputable def aKi (r : RT) (n : Nat) (kk11 : bK) (x4 x5 x59 x60 x61 : DV) (h0 : Hp) : aH :=
 bnd (aC 3 x59 x61 h0) fun v1 h1 =>
 bnd (aL 3 v1 h1) fun v2 h2 =>
 bnd (bS [(.s []), (aF 0), (aF 0)] h2) fun v3 h3 =>
 bnd (aJ 3 v3 v2 h3) fun _ h4 =>
  yK r n kk11 x4 x5 x61 v3 x59 x60 x61 h4
noncomputable def aSu (r : RT) (n : Nat) (kk11 : bK) (x4 x5 x59 x60 x61 x62 : DV) (h0 : Hp) : aH :=
 aU x62 (
  aKi r n kk11 x4 x5 x59 x60 x61 h0) (
  bF r n x5 h0)
noncomputable def bGz (r : RT) (n : Nat) (kk11 : bK) (x4 x5 x59 x60 x61 : DV) (h0 : Hp) : aH :=
 bnd (aD .lss x61 x60 h0) fun v1 h1 =>
  aSu r n kk11 x4 x5 x59 x60 x61 v1 h1
noncomputable def vO (r : RT) (n : Nat) (m : Nat) : bK :=
 Nat.rec (motive := fun _ => bK) (fun _ _ _ _ _ _ => none) (fun _ ih => bGz r n ih) m
noncomputable def cFa (r : RT) (n : Nat) : bK := vO r n n
noncomputable def aXc (r : RT) (n : Nat) (x4 x5 x59 x60 x61 : DV) (h0 : Hp) : aH :=
 cFa r n x4 x5 x59 x60 x61 h0
noncomputable def iA (r : RT) (n : Nat) (x4 x5 : DV) (h0 : Hp) : aH :=
 bnd (r 43 [] h0) fun v1 h1 =>
 bnd (bJ v1 h1) fun v2 h2 =>
  aXc r n x4 x5 v1 v2 (aF 0) h2
noncomputable def bIg (r : RT) (n : Nat) (kk27 : bZ) (x4 x5 x43 : DV) (h0 : Hp) : aH :=
 bnd (aD .lss x43 (aF 16) h0) fun v1 h1 =>
 aU v1 (
 bnd (aX x5 h1) fun v2 h2 =>
 bnd (aB 1 v2 h2) fun v3 h3 =>
 bnd (aA v3 h3) fun v4 h4 =>
 bnd (aD .add (aF 2) x43 h4) fun v5 h5 =>
 bnd (tB [x4, (aF 0), (aF 0), (aF 6)] h5) fun v6 h6 =>
 cnd (bR (aA v3 h6) v4 && true) (
 bnd (aE 0 v6 h6) fun v7 h7 =>
 bnd (aE 1 v6 h7) fun v8 h8 =>
 bnd (aC 1 v4 v5 h8) fun v9 h9 =>
 bnd (aJ 1 v9 v7 h9) fun v10 h10 =>
 bnd (aD .add x43 (aF 1) h10) fun v11 h11 =>
      kk27 x4 x5 v11 h11)) (
      iA r n x4 x5 h1)
noncomputable def uV (r : RT) (n : Nat) (m : Nat) : bZ :=
 Nat.rec (motive := fun _ => bZ) (fun _ _ _ _ => none) (fun _ ih => bIg r n ih) m
noncomputable def cJs (r : RT) (n : Nat) : bZ := uV r n n
noncomputable def aVt (r : RT) (n : Nat) (x4 x5 x43 : DV) (h0 : Hp) : aH :=
 cJs r n x4 x5 x43 h0
noncomputable def aQl (r : RT) (n : Nat) (x4 x5 : DV) (h0 : Hp) : aH :=
 aVt r n x4 x5 (aF 0) h0
noncomputable def bFd (r : RT) (n : Nat) (x4 : DV) (h0 : Hp) : aH :=
 bnd (cJ 1 8 [(aF 0)] (aF 18) (aF 18) h0) fun v1 h1 =>
 bnd (dX h1) fun v2 h2 =>
 bnd (dX h2) fun v3 h3 =>
 bnd (bL [.p0, .l0, .m0, .m0] [(0, 1, x4), (1, 1, v1), (2, 1, v2), (3, 1, v3)] h3) fun v4 h4 =>
 bnd (bQ v4 h4) fun v5 h5 =>
  aQl r n x4 v5 h5
noncomputable def cDs (r : RT) (n : Nat) (x0 x4 : DV) (h0 : Hp) : aH :=
 bnd (pEq (.pointer 104) true x4 .p0 h0) fun v1 h1 =>
 aU v1 (
 some (.t [.p0, (aF 1)], h1)) (
 bnd (aD .lss x0 (aF 16384) h1) fun v2 h2 =>
 aU v2 (
 some (.t [.p0, (aF 4)], h2)) (
   bFd r n x4 h2))
noncomputable def bRz (r : RT) (n : Nat) (x0 : DV) (h0 : Hp) : aH :=
 bnd (aUc [x0] h0) fun v1 h1 =>
  cDs r n x0 v1 h1
noncomputable def s10 (r : RT) (n : Nat) (x0 : DV) (h0 : Hp) : aH :=
 bRz r n x0 h0
noncomputable abbrev c10 : Code := cf Tryz.f10
noncomputable abbrev bHt : Code := cR c10
noncomputable abbrev bEl : Code := cR bHt
noncomputable abbrev bHs : Code := cR bEl
noncomputable abbrev bBg : Code := cR bHs
noncomputable abbrev bAu : Code := cR bBg
noncomputable abbrev bCd : Code := cR bAu
noncomputable abbrev dWf : Code := cR bCd
noncomputable abbrev aOu : Code := cL bCd
noncomputable abbrev bXh : Code := cR aOu
noncomputable abbrev aFo : Code := cL bXh
noncomputable abbrev oM : Code := cL aFo
noncomputable abbrev bPv : Code := cL aOu
noncomputable abbrev zA : Code := cL bAu
noncomputable abbrev aUm : Code := cR zA
noncomputable abbrev aEg : Code := cL aUm
noncomputable abbrev kV : Code := cL aEg
noncomputable abbrev aLh : Code := cR kV
noncomputable abbrev aDw : Code := cR aLh
noncomputable abbrev dTx : Code := cR aDw
noncomputable abbrev aIj : Code := cL aDw
noncomputable abbrev aLd : Code := cL aIj
noncomputable abbrev aKu : Code := cR aLd
noncomputable abbrev aHn : Code := cR aKu
noncomputable abbrev aGs : Code := cR aHn
noncomputable abbrev aCv : Code := cR aGs
noncomputable abbrev aGx : Code := cR aCv
noncomputable abbrev aDa : Code := cR aGx
noncomputable abbrev aJu : Code := cR aDa
noncomputable abbrev aJw : Code := cR aJu
noncomputable abbrev dNq : Code := cR aJw
noncomputable abbrev aAf : Code := cL aJw
noncomputable abbrev aYt : Code := cR aAf
noncomputable abbrev aGj : Code := cL aYt
noncomputable abbrev pJ : Code := cL aGj
noncomputable abbrev aYs : Code := cL aAf
noncomputable abbrev cDq : Code := cL aJu
noncomputable abbrev aZe : Code := cL aDa
noncomputable abbrev cLv : Code := cL aGx
noncomputable abbrev cKj : Code := cL aCv
noncomputable abbrev cMd : Code := cL aGs
noncomputable abbrev bQx : Code := cL aHn
noncomputable abbrev cHh : Code := cL aKu
noncomputable abbrev aZd : Code := cL aLd
noncomputable abbrev cEu : Code := cL aLh
noncomputable abbrev cIz : Code := cL kV
noncomputable abbrev cNp : Code := cL zA
noncomputable abbrev zJ : Code := cL bBg
noncomputable abbrev aWu : Code := cR zJ
noncomputable abbrev aNi : Code := cL aWu
noncomputable abbrev oR : Code := cL aNi
noncomputable abbrev cKc : Code := cL zJ
noncomputable abbrev aVs : Code := cL bHs
noncomputable abbrev cJi : Code := cL bEl
noncomputable abbrev cCu : Code := cL bHt
noncomputable abbrev bRt : Code := cL c10
noncomputable abbrev r10 : K := aQ CF Tryz.f10
noncomputable def D10 (r : RT) (n : Nat) (c : Code) (X : Nat → K) (k : K) : K := aP CF r 179 n c X r10 k
theorem cIt : D10 r n dWf x0 r10 = (K1 (fH r n) 5) :=
 (by kernel_rfl)
theorem bFb (kk9 : bT) : D10 r n oM (xs x0 7 (K1 (fH r n) 5)) (K4 kk9 5 155 156 157) = (K4 (kK r n kk9) 5 155 156 157) :=
 (by kernel_rfl)
theorem dDb (m : Nat) : aK (fun kk => D10 r n oM (xs x0 7 (K1 (fH r n) 5)) kk) m = (K4 (kP r n m) 5 155 156 157) := by
 induction m with
 | zero => exact (by kernel_rfl : aK (fun kk => D10 r n oM (xs x0 7 (K1 (fH r n) 5)) kk) 0 = (K4 (kP r n 0) 5 155 156 157))
 | succ m ih =>
  refine (by kernel_rfl : aK (fun kk => D10 r n oM (xs x0 7 (K1 (fH r n) 5)) kk) (m + 1) = D10 r n oM (xs x0 7 (K1 (fH r n) 5)) (aK (fun kk => D10 r n oM (xs x0 7 (K1 (fH r n) 5)) kk) m)).trans ?_
  rw [ih]
  exact (bFb r n (kP r n m)).trans (by kernel_rfl)
theorem bPi : D10 r n aFo (xs x0 7 (K1 (fH r n) 5)) (K1 (fH r n) 5) = (K4 (bHp r n) 5 155 156 157) :=
 (by kernel_rfl : D10 r n aFo (xs x0 7 (K1 (fH r n) 5)) (K1 (fH r n) 5) = aK (fun kk => D10 r n oM (xs x0 7 (K1 (fH r n) 5)) kk) n).trans ((dDb r n n).trans (by kernel_rfl))
theorem dNg : D10 r n bXh x0 (K1 (fH r n) 5) = (K4 (cHa r n) 5 155 156 157) :=
 (by kernel_rfl : D10 r n bXh x0 (K1 (fH r n) 5) = D10 r n aFo (xs x0 7 (K1 (fH r n) 5)) (K1 (fH r n) 5)).trans
 ((bPi r n).trans (by kernel_rfl))
theorem cXk : D10 r n bCd x0 r10 = D10 r n aOu x0 (K1 (fH r n) 5) :=
 congrArg (fun k => D10 r n aOu x0 k) (cIt r n)
theorem cOn : D10 r n aOu x0 (K1 (fH r n) 5) = D10 r n bPv x0 (K4 (cHa r n) 5 155 156 157) :=
 congrArg (fun k => D10 r n bPv x0 k) (dNg r n)
theorem dTo : D10 r n bCd x0 r10 = (K1 (bF r n) 5) :=
 (cXk r n).trans
 ((cOn r n).trans
 ((by kernel_rfl)))
theorem cZv (kk11 : bK) : D10 r n dTx (xs x0 3 (K1 (bF r n) 5)) (K5 kk11 4 5 59 60 61) = (K5 (bA r n kk11) 4 5 59 60 61) :=
 (by kernel_rfl)
theorem cVp (kk11 : bK) : D10 r n dNq (xs (xs x0 3 (K1 (bF r n) 5)) 4 (K5 (bA r n kk11) 4 5 59 60 61)) (K5 (bA r n kk11) 4 5 59 60 61) = (K7 (eT r n kk11) 4 5 8 9 59 60 61) :=
 (by kernel_rfl)
theorem cMn (kk11 : bK) (kk25 : aUs) : D10 r n pJ (xs (xs (xs x0 3 (K1 (bF r n) 5)) 4 (K5 (bA r n kk11) 4 5 59 60 61)) 5 (K7 (eT r n kk11) 4 5 8 9 59 60 61)) (K10 kk25 4 5 8 9 59 60 61 117 118 119) = (K10 (bHu r n kk11 kk25) 4 5 8 9 59 60 61 117 118 119) :=
 (by kernel_rfl)
theorem bTs (kk11 : bK) (m : Nat) : aK (fun kk => D10 r n pJ (xs (xs (xs x0 3 (K1 (bF r n) 5)) 4 (K5 (bA r n kk11) 4 5 59 60 61)) 5 (K7 (eT r n kk11) 4 5 8 9 59 60 61)) kk) m = (K10 (uT r n kk11 m) 4 5 8 9 59 60 61 117 118 119) := by
 induction m with
 | zero => exact (by kernel_rfl : aK (fun kk => D10 r n pJ (xs (xs (xs x0 3 (K1 (bF r n) 5)) 4 (K5 (bA r n kk11) 4 5 59 60 61)) 5 (K7 (eT r n kk11) 4 5 8 9 59 60 61)) kk) 0 = (K10 (uT r n kk11 0) 4 5 8 9 59 60 61 117 118 119))
 | succ m ih =>
  refine (by kernel_rfl : aK (fun kk => D10 r n pJ (xs (xs (xs x0 3 (K1 (bF r n) 5)) 4 (K5 (bA r n kk11) 4 5 59 60 61)) 5 (K7 (eT r n kk11) 4 5 8 9 59 60 61)) kk) (m + 1) = D10 r n pJ (xs (xs (xs x0 3 (K1 (bF r n) 5)) 4 (K5 (bA r n kk11) 4 5 59 60 61)) 5 (K7 (eT r n kk11) 4 5 8 9 59 60 61)) (aK (fun kk => D10 r n pJ (xs (xs (xs x0 3 (K1 (bF r n) 5)) 4 (K5 (bA r n kk11) 4 5 59 60 61)) 5 (K7 (eT r n kk11) 4 5 8 9 59 60 61)) kk) m)).trans ?_
  rw [ih]
  exact (cMn r n kk11 (uT r n kk11 m)).trans (by kernel_rfl)
theorem dAp (kk11 : bK) : D10 r n aGj (xs (xs (xs x0 3 (K1 (bF r n) 5)) 4 (K5 (bA r n kk11) 4 5 59 60 61)) 5 (K7 (eT r n kk11) 4 5 8 9 59 60 61)) (K7 (eT r n kk11) 4 5 8 9 59 60 61) = (K10 (cNe r n kk11) 4 5 8 9 59 60 61 117 118 119) :=
 (by kernel_rfl : D10 r n aGj (xs (xs (xs x0 3 (K1 (bF r n) 5)) 4 (K5 (bA r n kk11) 4 5 59 60 61)) 5 (K7 (eT r n kk11) 4 5 8 9 59 60 61)) (K7 (eT r n kk11) 4 5 8 9 59 60 61) = aK (fun kk => D10 r n pJ (xs (xs (xs x0 3 (K1 (bF r n) 5)) 4 (K5 (bA r n kk11) 4 5 59 60 61)) 5 (K7 (eT r n kk11) 4 5 8 9 59 60 61)) kk) n).trans ((bTs r n kk11 n).trans (by kernel_rfl))
theorem cYr (kk11 : bK) : D10 r n aYt (xs (xs x0 3 (K1 (bF r n) 5)) 4 (K5 (bA r n kk11) 4 5 59 60 61)) (K7 (eT r n kk11) 4 5 8 9 59 60 61) = (K10 (aAe r n kk11) 4 5 8 9 59 60 61 117 118 119) :=
 (by kernel_rfl : D10 r n aYt (xs (xs x0 3 (K1 (bF r n) 5)) 4 (K5 (bA r n kk11) 4 5 59 60 61)) (K7 (eT r n kk11) 4 5 8 9 59 60 61) = D10 r n aGj (xs (xs (xs x0 3 (K1 (bF r n) 5)) 4 (K5 (bA r n kk11) 4 5 59 60 61)) 5 (K7 (eT r n kk11) 4 5 8 9 59 60 61)) (K7 (eT r n kk11) 4 5 8 9 59 60 61)).trans
 ((dAp r n kk11).trans (by kernel_rfl))
theorem cKq (kk11 : bK) : D10 r n aJw (xs (xs x0 3 (K1 (bF r n) 5)) 4 (K5 (bA r n kk11) 4 5 59 60 61)) (K5 (bA r n kk11) 4 5 59 60 61) = D10 r n aAf (xs (xs x0 3 (K1 (bF r n) 5)) 4 (K5 (bA r n kk11) 4 5 59 60 61)) (K7 (eT r n kk11) 4 5 8 9 59 60 61) :=
 congrArg (fun k => D10 r n aAf (xs (xs x0 3 (K1 (bF r n) 5)) 4 (K5 (bA r n kk11) 4 5 59 60 61)) k) (cVp r n kk11)
theorem bZt (kk11 : bK) : D10 r n aAf (xs (xs x0 3 (K1 (bF r n) 5)) 4 (K5 (bA r n kk11) 4 5 59 60 61)) (K7 (eT r n kk11) 4 5 8 9 59 60 61) = D10 r n aYs (xs (xs x0 3 (K1 (bF r n) 5)) 4 (K5 (bA r n kk11) 4 5 59 60 61)) (K10 (aAe r n kk11) 4 5 8 9 59 60 61 117 118 119) :=
 congrArg (fun k => D10 r n aYs (xs (xs x0 3 (K1 (bF r n) 5)) 4 (K5 (bA r n kk11) 4 5 59 60 61)) k) (cYr r n kk11)
theorem bUl (kk11 : bK) (q0 : aUs) (q1 : TT1) (q2 : bK) : D10 r n aYs (xs (xs x0 3 (K1 q1 5)) 4 (K5 q2 4 5 59 60 61)) (K10 q0 4 5 8 9 59 60 61 117 118 119) = fun (env : aZ) (h : Hp) =>
 bnd (r 46 [(env 13)] (resv 1 h)) fun v1 h1 =>
 bnd (aB 2 (env 8) h1) fun v2 h2 =>
 bnd (aA v2 h2) fun v3 h3 =>
 cnd (bR (aA v2 (resv 1 h)) v3 && true) (
 bnd (r 46 [v3] h3) fun v4 h4 =>
 bnd (bB (bN 0 h.next) [(aF 0), (aF 0), (aF 0), (aF 0), (aF 0), (aF 0)] 6 [(0, 1, (env 10)), (1, 1, (env 12)), (2, 1, v1), (3, 1, (env 19)), (4, 1, (aF 0)), (5, 1, v4)] h4) fun v5 h5 =>
 bnd (bJ v5 h5) fun v6 h6 =>
  q0 (env 4) (env 5) (env 8) (env 9) (env 59) (env 60) (env 61) v5 v6 (aF 0) h6) := by kernel_rfl
theorem bNr (kk11 : bK) : (fun (env : aZ) (h : Hp) =>
 bnd (r 46 [(env 13)] (resv 1 h)) fun v1 h1 =>
 bnd (aB 2 (env 8) h1) fun v2 h2 =>
 bnd (aA v2 h2) fun v3 h3 =>
 cnd (bR (aA v2 (resv 1 h)) v3 && true) (
 bnd (r 46 [v3] h3) fun v4 h4 =>
 bnd (bB (bN 0 h.next) [(aF 0), (aF 0), (aF 0), (aF 0), (aF 0), (aF 0)] 6 [(0, 1, (env 10)), (1, 1, (env 12)), (2, 1, v1), (3, 1, (env 19)), (4, 1, (aF 0)), (5, 1, v4)] h4) fun v5 h5 =>
 bnd (bJ v5 h5) fun v6 h6 =>
  aAe r n kk11 (env 4) (env 5) (env 8) (env 9) (env 59) (env 60) (env 61) v5 v6 (aF 0) h6)) = (K11 (aNc r n kk11) 4 5 8 9 10 12 13 19 59 60 61) := by kernel_rfl
theorem cPv (kk11 : bK) : D10 r n aJw (xs (xs x0 3 (K1 (bF r n) 5)) 4 (K5 (bA r n kk11) 4 5 59 60 61)) (K5 (bA r n kk11) 4 5 59 60 61) = (K11 (aNc r n kk11) 4 5 8 9 10 12 13 19 59 60 61) :=
 (cKq r n kk11).trans
 ((bZt r n kk11).trans
 ((bUl r n kk11 (aAe r n kk11) (bF r n) (bA r n kk11)).trans (bNr r n kk11)))
theorem bXc (kk11 : bK) : D10 r n aJu (xs (xs x0 3 (K1 (bF r n) 5)) 4 (K5 (bA r n kk11) 4 5 59 60 61)) (K5 (bA r n kk11) 4 5 59 60 61) = D10 r n cDq (xs (xs x0 3 (K1 (bF r n) 5)) 4 (K5 (bA r n kk11) 4 5 59 60 61)) (K11 (aNc r n kk11) 4 5 8 9 10 12 13 19 59 60 61) :=
 congrArg (fun k => D10 r n cDq (xs (xs x0 3 (K1 (bF r n) 5)) 4 (K5 (bA r n kk11) 4 5 59 60 61)) k) (cPv r n kk11)
theorem dEh (kk11 : bK) : D10 r n aJu (xs (xs x0 3 (K1 (bF r n) 5)) 4 (K5 (bA r n kk11) 4 5 59 60 61)) (K5 (bA r n kk11) 4 5 59 60 61) = (K11 (pM r n kk11) 4 5 8 9 10 12 13 14 59 60 61) :=
 (bXc r n kk11).trans
 ((by kernel_rfl))
theorem bZi (kk11 : bK) : D10 r n aDa (xs (xs x0 3 (K1 (bF r n) 5)) 4 (K5 (bA r n kk11) 4 5 59 60 61)) (K5 (bA r n kk11) 4 5 59 60 61) = D10 r n aZe (xs (xs x0 3 (K1 (bF r n) 5)) 4 (K5 (bA r n kk11) 4 5 59 60 61)) (K11 (pM r n kk11) 4 5 8 9 10 12 13 14 59 60 61) :=
 congrArg (fun k => D10 r n aZe (xs (xs x0 3 (K1 (bF r n) 5)) 4 (K5 (bA r n kk11) 4 5 59 60 61)) k) (dEh r n kk11)
theorem cGd (kk11 : bK) (q0 : dWh) (q1 : TT1) (q2 : bK) : D10 r n aZe (xs (xs x0 3 (K1 q1 5)) 4 (K5 q2 4 5 59 60 61)) (K11 q0 4 5 8 9 10 12 13 14 59 60 61) = fun (env : aZ) (h : Hp) =>
 bnd (aD .eql (env 7) (aF 15) h) fun v1 h1 =>
 aU v1 (
 bnd (r 11 [(env 5), (.s [115, 101, 108, 101, 99, 116, 111, 114])] h1) fun v2 h2 =>
 bnd (aE 0 v2 h2) fun v3 h3 =>
 bnd (aE 1 v2 h3) fun v4 h4 =>
 bnd (r 11 [(env 5), (.s [97, 114, 103, 117, 109, 101, 110, 116, 115])] h4) fun v5 h5 =>
 bnd (aE 0 v5 h5) fun v6 h6 =>
 bnd (aE 1 v5 h6) fun v7 h7 =>
 bnd (aO [(aF 0), (aF 0)] 2 [(0, 1, v3), (1, 1, v6)] h7) fun v8 h8 =>
      q0 (env 4) (env 5) (env 8) (env 9) (env 10) (env 12) (aF 2) v8 (env 59) (env 60) (env 61) h8) (
      q0 (env 4) (env 5) (env 8) (env 9) (env 10) (env 12) (env 13) (env 14) (env 59) (env 60) (env 61) h1) := by kernel_rfl
theorem bLc (kk11 : bK) : (fun (env : aZ) (h : Hp) =>
 bnd (aD .eql (env 7) (aF 15) h) fun v1 h1 =>
 aU v1 (
 bnd (r 11 [(env 5), (.s [115, 101, 108, 101, 99, 116, 111, 114])] h1) fun v2 h2 =>
 bnd (aE 0 v2 h2) fun v3 h3 =>
 bnd (aE 1 v2 h3) fun v4 h4 =>
 bnd (r 11 [(env 5), (.s [97, 114, 103, 117, 109, 101, 110, 116, 115])] h4) fun v5 h5 =>
 bnd (aE 0 v5 h5) fun v6 h6 =>
 bnd (aE 1 v5 h6) fun v7 h7 =>
 bnd (aO [(aF 0), (aF 0)] 2 [(0, 1, v3), (1, 1, v6)] h7) fun v8 h8 =>
      pM r n kk11 (env 4) (env 5) (env 8) (env 9) (env 10) (env 12) (aF 2) v8 (env 59) (env 60) (env 61) h8) (
      pM r n kk11 (env 4) (env 5) (env 8) (env 9) (env 10) (env 12) (env 13) (env 14) (env 59) (env 60) (env 61) h1)) = (K12 (aAl r n kk11) 4 5 7 8 9 10 12 13 14 59 60 61) := by kernel_rfl
theorem dAd (kk11 : bK) : D10 r n aDa (xs (xs x0 3 (K1 (bF r n) 5)) 4 (K5 (bA r n kk11) 4 5 59 60 61)) (K5 (bA r n kk11) 4 5 59 60 61) = (K12 (aAl r n kk11) 4 5 7 8 9 10 12 13 14 59 60 61) :=
 (bZi r n kk11).trans
 ((cGd r n kk11 (pM r n kk11) (bF r n) (bA r n kk11)).trans (bLc r n kk11))
theorem cCv (kk11 : bK) : D10 r n aGx (xs (xs x0 3 (K1 (bF r n) 5)) 4 (K5 (bA r n kk11) 4 5 59 60 61)) (K5 (bA r n kk11) 4 5 59 60 61) = D10 r n cLv (xs (xs x0 3 (K1 (bF r n) 5)) 4 (K5 (bA r n kk11) 4 5 59 60 61)) (K12 (aAl r n kk11) 4 5 7 8 9 10 12 13 14 59 60 61) :=
 congrArg (fun k => D10 r n cLv (xs (xs x0 3 (K1 (bF r n) 5)) 4 (K5 (bA r n kk11) 4 5 59 60 61)) k) (dAd r n kk11)
theorem dEs (kk11 : bK) : D10 r n aGx (xs (xs x0 3 (K1 (bF r n) 5)) 4 (K5 (bA r n kk11) 4 5 59 60 61)) (K5 (bA r n kk11) 4 5 59 60 61) = (K12 (aYi r n kk11) 4 5 7 8 9 10 12 13 14 59 60 61) :=
 (cCv r n kk11).trans
 ((by kernel_rfl))
theorem bKz (kk11 : bK) : D10 r n aCv (xs (xs x0 3 (K1 (bF r n) 5)) 4 (K5 (bA r n kk11) 4 5 59 60 61)) (K5 (bA r n kk11) 4 5 59 60 61) = D10 r n cKj (xs (xs x0 3 (K1 (bF r n) 5)) 4 (K5 (bA r n kk11) 4 5 59 60 61)) (K12 (aYi r n kk11) 4 5 7 8 9 10 12 13 14 59 60 61) :=
 congrArg (fun k => D10 r n cKj (xs (xs x0 3 (K1 (bF r n) 5)) 4 (K5 (bA r n kk11) 4 5 59 60 61)) k) (dEs r n kk11)
theorem cQk (kk11 : bK) : D10 r n aCv (xs (xs x0 3 (K1 (bF r n) 5)) 4 (K5 (bA r n kk11) 4 5 59 60 61)) (K5 (bA r n kk11) 4 5 59 60 61) = (K9 (aXa r n kk11) 4 5 7 8 9 10 59 60 61) :=
 (bKz r n kk11).trans
 ((by kernel_rfl))
theorem bLi (kk11 : bK) : D10 r n aGs (xs (xs x0 3 (K1 (bF r n) 5)) 4 (K5 (bA r n kk11) 4 5 59 60 61)) (K5 (bA r n kk11) 4 5 59 60 61) = D10 r n cMd (xs (xs x0 3 (K1 (bF r n) 5)) 4 (K5 (bA r n kk11) 4 5 59 60 61)) (K9 (aXa r n kk11) 4 5 7 8 9 10 59 60 61) :=
 congrArg (fun k => D10 r n cMd (xs (xs x0 3 (K1 (bF r n) 5)) 4 (K5 (bA r n kk11) 4 5 59 60 61)) k) (cQk r n kk11)
theorem cQj (kk11 : bK) : D10 r n aGs (xs (xs x0 3 (K1 (bF r n) 5)) 4 (K5 (bA r n kk11) 4 5 59 60 61)) (K5 (bA r n kk11) 4 5 59 60 61) = (K8 (aYo r n kk11) 4 5 7 8 9 59 60 61) :=
 (bLi r n kk11).trans
 ((by kernel_rfl))
theorem bIw (kk11 : bK) : D10 r n aHn (xs (xs x0 3 (K1 (bF r n) 5)) 4 (K5 (bA r n kk11) 4 5 59 60 61)) (K5 (bA r n kk11) 4 5 59 60 61) = D10 r n bQx (xs (xs x0 3 (K1 (bF r n) 5)) 4 (K5 (bA r n kk11) 4 5 59 60 61)) (K8 (aYo r n kk11) 4 5 7 8 9 59 60 61) :=
 congrArg (fun k => D10 r n bQx (xs (xs x0 3 (K1 (bF r n) 5)) 4 (K5 (bA r n kk11) 4 5 59 60 61)) k) (cQj r n kk11)
theorem cTr (kk11 : bK) : D10 r n aHn (xs (xs x0 3 (K1 (bF r n) 5)) 4 (K5 (bA r n kk11) 4 5 59 60 61)) (K5 (bA r n kk11) 4 5 59 60 61) = (K8 (aSr r n kk11) 4 5 7 8 9 59 60 61) :=
 (bIw r n kk11).trans
 ((by kernel_rfl))
theorem bJy (kk11 : bK) : D10 r n aKu (xs (xs x0 3 (K1 (bF r n) 5)) 4 (K5 (bA r n kk11) 4 5 59 60 61)) (K5 (bA r n kk11) 4 5 59 60 61) = D10 r n cHh (xs (xs x0 3 (K1 (bF r n) 5)) 4 (K5 (bA r n kk11) 4 5 59 60 61)) (K8 (aSr r n kk11) 4 5 7 8 9 59 60 61) :=
 congrArg (fun k => D10 r n cHh (xs (xs x0 3 (K1 (bF r n) 5)) 4 (K5 (bA r n kk11) 4 5 59 60 61)) k) (cTr r n kk11)
theorem cVf (kk11 : bK) : D10 r n aKu (xs (xs x0 3 (K1 (bF r n) 5)) 4 (K5 (bA r n kk11) 4 5 59 60 61)) (K5 (bA r n kk11) 4 5 59 60 61) = (K7 (yK r n kk11) 4 5 7 8 59 60 61) :=
 (bJy r n kk11).trans
 ((by kernel_rfl))
theorem bJv (kk11 : bK) : D10 r n aDw (xs x0 3 (K1 (bF r n) 5)) (K5 kk11 4 5 59 60 61) = D10 r n aIj (xs x0 3 (K1 (bF r n) 5)) (K5 (bA r n kk11) 4 5 59 60 61) :=
 congrArg (fun k => D10 r n aIj (xs x0 3 (K1 (bF r n) 5)) k) (cZv r n kk11)
theorem bMl (kk11 : bK) : D10 r n aLd (xs (xs x0 3 (K1 (bF r n) 5)) 4 (K5 (bA r n kk11) 4 5 59 60 61)) (K5 (bA r n kk11) 4 5 59 60 61) = D10 r n aZd (xs (xs x0 3 (K1 (bF r n) 5)) 4 (K5 (bA r n kk11) 4 5 59 60 61)) (K7 (yK r n kk11) 4 5 7 8 59 60 61) :=
 congrArg (fun k => D10 r n aZd (xs (xs x0 3 (K1 (bF r n) 5)) 4 (K5 (bA r n kk11) 4 5 59 60 61)) k) (cVf r n kk11)
theorem bKs (kk11 : bK) (q0 : TT7) (q1 : TT1) (q2 : bK) : D10 r n aZd (xs (xs x0 3 (K1 q1 5)) 4 (K5 q2 4 5 59 60 61)) (K7 q0 4 5 7 8 59 60 61) = fun (env : aZ) (h : Hp) =>
 bnd (aC 3 (env 59) (env 61) h) fun v1 h1 =>
 bnd (aL 3 v1 h1) fun v2 h2 =>
 bnd (bS [(.s []), (aF 0), (aF 0)] h2) fun v3 h3 =>
 bnd (aJ 3 v3 v2 h3) fun _ h4 =>
  q0 (env 4) (env 5) (env 61) v3 (env 59) (env 60) (env 61) h4 := by kernel_rfl
theorem aVh (kk11 : bK) : (fun (env : aZ) (h : Hp) =>
 bnd (aC 3 (env 59) (env 61) h) fun v1 h1 =>
 bnd (aL 3 v1 h1) fun v2 h2 =>
 bnd (bS [(.s []), (aF 0), (aF 0)] h2) fun v3 h3 =>
 bnd (aJ 3 v3 v2 h3) fun _ h4 =>
  yK r n kk11 (env 4) (env 5) (env 61) v3 (env 59) (env 60) (env 61) h4) = (K5 (aKi r n kk11) 4 5 59 60 61) := by kernel_rfl
theorem dCe (kk11 : bK) : D10 r n aDw (xs x0 3 (K1 (bF r n) 5)) (K5 kk11 4 5 59 60 61) = (K5 (aKi r n kk11) 4 5 59 60 61) :=
 (bJv r n kk11).trans
 ((by kernel_rfl : D10 r n aIj (xs x0 3 (K1 (bF r n) 5)) (K5 (bA r n kk11) 4 5 59 60 61) = D10 r n aLd (xs (xs x0 3 (K1 (bF r n) 5)) 4 (K5 (bA r n kk11) 4 5 59 60 61)) (K5 (bA r n kk11) 4 5 59 60 61)).trans
 ((bMl r n kk11).trans
 ((bKs r n kk11 (yK r n kk11) (bF r n) (bA r n kk11)).trans (aVh r n kk11))))
theorem bJm (kk11 : bK) : D10 r n aLh (xs x0 3 (K1 (bF r n) 5)) (K5 kk11 4 5 59 60 61) = D10 r n cEu (xs x0 3 (K1 (bF r n) 5)) (K5 (aKi r n kk11) 4 5 59 60 61) :=
 congrArg (fun k => D10 r n cEu (xs x0 3 (K1 (bF r n) 5)) k) (dCe r n kk11)
theorem cUr (kk11 : bK) : D10 r n aLh (xs x0 3 (K1 (bF r n) 5)) (K5 kk11 4 5 59 60 61) = (K6 (aSu r n kk11) 4 5 59 60 61 62) :=
 (bJm r n kk11).trans
 ((by kernel_rfl))
theorem bLb (kk11 : bK) : D10 r n kV (xs x0 3 (K1 (bF r n) 5)) (K5 kk11 4 5 59 60 61) = D10 r n cIz (xs x0 3 (K1 (bF r n) 5)) (K6 (aSu r n kk11) 4 5 59 60 61 62) :=
 congrArg (fun k => D10 r n cIz (xs x0 3 (K1 (bF r n) 5)) k) (cUr r n kk11)
theorem bTv (kk11 : bK) : D10 r n kV (xs x0 3 (K1 (bF r n) 5)) (K5 kk11 4 5 59 60 61) = (K5 (bGz r n kk11) 4 5 59 60 61) :=
 (bLb r n kk11).trans
 ((by kernel_rfl))
theorem bVe (m : Nat) : aK (fun kk => D10 r n kV (xs x0 3 (K1 (bF r n) 5)) kk) m = (K5 (vO r n m) 4 5 59 60 61) := by
 induction m with
 | zero => exact (by kernel_rfl : aK (fun kk => D10 r n kV (xs x0 3 (K1 (bF r n) 5)) kk) 0 = (K5 (vO r n 0) 4 5 59 60 61))
 | succ m ih =>
  refine (by kernel_rfl : aK (fun kk => D10 r n kV (xs x0 3 (K1 (bF r n) 5)) kk) (m + 1) = D10 r n kV (xs x0 3 (K1 (bF r n) 5)) (aK (fun kk => D10 r n kV (xs x0 3 (K1 (bF r n) 5)) kk) m)).trans ?_
  rw [ih]
  exact (bTv r n (vO r n m)).trans (by kernel_rfl)
theorem dAk : D10 r n aEg (xs x0 3 (K1 (bF r n) 5)) (K1 (bF r n) 5) = (K5 (cFa r n) 4 5 59 60 61) :=
 (by kernel_rfl : D10 r n aEg (xs x0 3 (K1 (bF r n) 5)) (K1 (bF r n) 5) = aK (fun kk => D10 r n kV (xs x0 3 (K1 (bF r n) 5)) kk) n).trans ((bVe r n n).trans (by kernel_rfl))
theorem cSv : D10 r n aUm x0 (K1 (bF r n) 5) = (K5 (aXc r n) 4 5 59 60 61) :=
 (by kernel_rfl : D10 r n aUm x0 (K1 (bF r n) 5) = D10 r n aEg (xs x0 3 (K1 (bF r n) 5)) (K1 (bF r n) 5)).trans
 ((dAk r n).trans (by kernel_rfl))
theorem cDc : D10 r n bAu x0 r10 = D10 r n zA x0 (K1 (bF r n) 5) :=
 congrArg (fun k => D10 r n zA x0 k) (dTo r n)
theorem bTt : D10 r n zA x0 (K1 (bF r n) 5) = D10 r n cNp x0 (K5 (aXc r n) 4 5 59 60 61) :=
 congrArg (fun k => D10 r n cNp x0 k) (cSv r n)
theorem dRa : D10 r n bAu x0 r10 = (K2 (iA r n) 4 5) :=
 (cDc r n).trans
 ((bTt r n).trans
 ((by kernel_rfl)))
theorem bZy (kk27 : bZ) : D10 r n oR (xs x0 1 (K2 (iA r n) 4 5)) (K3 kk27 4 5 43) = (K3 (bIg r n kk27) 4 5 43) :=
 (by kernel_rfl)
theorem cIy (m : Nat) : aK (fun kk => D10 r n oR (xs x0 1 (K2 (iA r n) 4 5)) kk) m = (K3 (uV r n m) 4 5 43) := by
 induction m with
 | zero => exact (by kernel_rfl : aK (fun kk => D10 r n oR (xs x0 1 (K2 (iA r n) 4 5)) kk) 0 = (K3 (uV r n 0) 4 5 43))
 | succ m ih =>
  refine (by kernel_rfl : aK (fun kk => D10 r n oR (xs x0 1 (K2 (iA r n) 4 5)) kk) (m + 1) = D10 r n oR (xs x0 1 (K2 (iA r n) 4 5)) (aK (fun kk => D10 r n oR (xs x0 1 (K2 (iA r n) 4 5)) kk) m)).trans ?_
  rw [ih]
  exact (bZy r n (uV r n m)).trans (by kernel_rfl)
theorem cOs : D10 r n aNi (xs x0 1 (K2 (iA r n) 4 5)) (K2 (iA r n) 4 5) = (K3 (cJs r n) 4 5 43) :=
 (by kernel_rfl : D10 r n aNi (xs x0 1 (K2 (iA r n) 4 5)) (K2 (iA r n) 4 5) = aK (fun kk => D10 r n oR (xs x0 1 (K2 (iA r n) 4 5)) kk) n).trans ((cIy r n n).trans (by kernel_rfl))
theorem cOj : D10 r n aWu x0 (K2 (iA r n) 4 5) = (K3 (aVt r n) 4 5 43) :=
 (by kernel_rfl : D10 r n aWu x0 (K2 (iA r n) 4 5) = D10 r n aNi (xs x0 1 (K2 (iA r n) 4 5)) (K2 (iA r n) 4 5)).trans
 ((cOs r n).trans (by kernel_rfl))
theorem bUg : D10 r n bBg x0 r10 = D10 r n zJ x0 (K2 (iA r n) 4 5) :=
 congrArg (fun k => D10 r n zJ x0 k) (dRa r n)
theorem bYd : D10 r n zJ x0 (K2 (iA r n) 4 5) = D10 r n cKc x0 (K3 (aVt r n) 4 5 43) :=
 congrArg (fun k => D10 r n cKc x0 k) (cOj r n)
theorem dRp : D10 r n bBg x0 r10 = (K2 (aQl r n) 4 5) :=
 (bUg r n).trans
 ((bYd r n).trans
 ((by kernel_rfl)))
theorem cKp : D10 r n bHs x0 r10 = D10 r n aVs x0 (K2 (aQl r n) 4 5) :=
 congrArg (fun k => D10 r n aVs x0 k) (dRp r n)
theorem bQr (q0 : gV) : D10 r n aVs x0 (K2 q0 4 5) = fun (env : aZ) (h : Hp) =>
 bnd (cJ 1 8 [(aF 0)] (aF 18) (aF 18) h) fun v1 h1 =>
 bnd (dX h1) fun v2 h2 =>
 bnd (dX h2) fun v3 h3 =>
 bnd (bL [.p0, .l0, .m0, .m0] [(0, 1, (env 4)), (1, 1, v1), (2, 1, v2), (3, 1, v3)] h3) fun v4 h4 =>
 bnd (bQ v4 h4) fun v5 h5 =>
  q0 (env 4) v5 h5 := by kernel_rfl
theorem bKo : (fun (env : aZ) (h : Hp) =>
 bnd (cJ 1 8 [(aF 0)] (aF 18) (aF 18) h) fun v1 h1 =>
 bnd (dX h1) fun v2 h2 =>
 bnd (dX h2) fun v3 h3 =>
 bnd (bL [.p0, .l0, .m0, .m0] [(0, 1, (env 4)), (1, 1, v1), (2, 1, v2), (3, 1, v3)] h3) fun v4 h4 =>
 bnd (bQ v4 h4) fun v5 h5 =>
  aQl r n (env 4) v5 h5) = (K1 (bFd r n) 4) := by kernel_rfl
theorem dOw : D10 r n bHs x0 r10 = (K1 (bFd r n) 4) :=
 (cKp r n).trans
 ((bQr r n (aQl r n)).trans (bKo r n))
theorem cDh : D10 r n bEl x0 r10 = D10 r n cJi x0 (K1 (bFd r n) 4) :=
 congrArg (fun k => D10 r n cJi x0 k) (dOw r n)
theorem dMo : D10 r n bEl x0 r10 = (K2 (cDs r n) 0 4) :=
 (cDh r n).trans
 ((by kernel_rfl))
theorem cKe : D10 r n bHt x0 r10 = D10 r n cCu x0 (K2 (cDs r n) 0 4) :=
 congrArg (fun k => D10 r n cCu x0 k) (dMo r n)
theorem dTw : D10 r n bHt x0 r10 = (K1 (bRz r n) 0) :=
 (cKe r n).trans
 ((by kernel_rfl))
theorem dNx : D10 r n c10 x0 r10 = D10 r n bRt x0 (K1 (bRz r n) 0) :=
 congrArg (fun k => D10 r n bRt x0 k) (dTw r n)
theorem eJo : D10 r n c10 x0 r10 = (K1 (s10 r n) 0) :=
 (dNx r n).trans
 ((by kernel_rfl))
theorem eFx : aG CF r n 10 args h = s10 r n (aR args 0) h :=
 (by kernel_rfl : aG CF r n 10 args h = D10 r n c10 x0 r10 (aI args) h).trans ((congrFun (congrFun (eJo r n) (aI args)) h).trans (by kernel_rfl))
noncomputable def s11 (r : RT) (n : Nat) (x0 x1 : DV) (h0 : Hp) : aH :=
 bnd (dI x1 h0) fun v1 h1 =>
 bnd (aD .lss v1 (aF 1) h1) fun v2 h2 =>
 bnd (gD v2 false (some (x1, h2)) h2) fun v3 h3 =>
 bnd (gD v2 false (dI v3 h3) h3) fun v4 h4 =>
 bnd (gD v2 false (aD .gtr v4 (aF 60) h4) h4) fun v5 h5 =>
 bnd (aN v2 (.b true) v5 h5) fun v6 h6 =>
 aU v6 (
 some (.t [(aF 0), (aF 1)], h6)) (
 bnd (aX x0 h6) fun v7 h7 =>
 bnd (aB 2 v7 h7) fun v8 h8 =>
 bnd (aA v8 h8) fun v9 h9 =>
 bnd (gG .string (aF 0) false v9 x1 h9) fun v10 h10 =>
 bnd (aD .neq v10 (aF 0) h10) fun v11 h11 =>
 aU v11 (
 some (.t [v10, (aF 0)], h11)) (
 bnd (r 15 [x0, (aF 11)] h11) fun v12 h12 =>
 bnd (r 49 [x0, v12, x1] h12) fun v13 h13 =>
 bnd (aE 0 v13 h13) fun v14 h14 =>
 bnd (aE 1 v13 h14) fun v15 h15 =>
 bnd (aD .neq v15 (aF 0) h15) fun v16 h16 =>
 aU v16 (
 some (.t [(aF 0), v15], h16)) (
 bnd (aX x0 h16) fun v17 h17 =>
 bnd (aB 1 v17 h17) fun v18 h18 =>
 bnd (aA v18 h18) fun v19 h19 =>
 bnd (aC 1 v19 (aF 0) h19) fun v20 h20 =>
 bnd (aA v20 h20) fun v21 h21 =>
 bnd (r 48 [x0, v14, v21] h21) fun v22 h22 =>
 bnd (aE 0 v22 h22) fun v23 h23 =>
 bnd (aE 1 v22 h23) fun v24 h24 =>
 bnd (aD .neq v24 (aF 0) h24) fun v25 h25 =>
 aU v25 (
 some (.t [(aF 0), v24], h25)) (
 bnd (aX x0 h25) fun v26 h26 =>
 bnd (aB 1 v26 h26) fun v27 h27 =>
 bnd (aA v27 h27) fun v28 h28 =>
 bnd (aX x0 h28) fun v29 h29 =>
 bnd (aB 2 v29 h29) fun v30 h30 =>
 bnd (aA v30 h30) fun v31 h31 =>
 bnd (aC 1 v28 (aF 0) h31) fun v32 h32 =>
 bnd (aJ 1 v32 v23 h32) fun v33 h33 =>
 bnd (iM .string (aF 0) v31 x1 h33) fun v34 h34 =>
 bnd (aE 1 v34 h34) fun v35 h35 =>
 bnd (fR v31 v35 v14 h35) fun v36 h36 =>
 some (.t [v14, (aF 0)], h36)))))
noncomputable abbrev c11 : Code := cf Tryz.f11
noncomputable abbrev r11 : K := aQ CF Tryz.f11
noncomputable def D11 (r : RT) (n : Nat) (c : Code) (X : Nat → K) (k : K) : K := aP CF r 68 n c X r11 k
theorem eLf : D11 r n c11 x0 r11 = (K2 (s11 r n) 0 1) :=
 (by kernel_rfl)
theorem eBh : aG CF r n 11 args h = s11 r n (aR args 0) (aR args 1) h :=
 (by kernel_rfl : aG CF r n 11 args h = D11 r n c11 x0 r11 (aI args) h).trans ((congrFun (congrFun (eLf r n) (aI args)) h).trans (by kernel_rfl))
noncomputable def gE (r : RT) (n : Nat) (x7 : DV) (h0 : Hp) : aH :=
 bnd (gY x7 h0) fun v1 h1 =>
 some (.t [v1, (.b true)], h1)
noncomputable def aRl (r : RT) (n : Nat) (kk7 : bK) (x0 x1 x7 x48 x49 : DV) (h0 : Hp) : aH :=
 bnd (aD .lss x49 x48 h0) fun v1 h1 =>
 aU v1 (
 bnd (r 53 [x0, x1, x49] h1) fun v2 h2 =>
 bnd (cX .u8 v2 h2) fun v3 h3 =>
 bnd (aO [(.i .u8 (Int.ofNat 0))] 1 [(0, 1, v3)] h3) fun v4 h4 =>
 bnd (aW 1 1 x7 v4 h4) fun v5 h5 =>
 bnd (aD .add x49 (aF 1) h5) fun v6 h6 =>
      kk7 x0 x1 v5 x48 v6 h6) (
      gE r n x7 h1)
noncomputable def aMk (r : RT) (n : Nat) (m : Nat) : bK :=
 Nat.rec (motive := fun _ => bK) (fun _ _ _ _ _ _ => none) (fun _ ih => aRl r n ih) m
noncomputable def dGo (r : RT) (n : Nat) : bK := aMk r n n
noncomputable def bWt (r : RT) (n : Nat) (x0 x1 x7 x48 x49 : DV) (h0 : Hp) : aH :=
 dGo r n x0 x1 x7 x48 x49 h0
noncomputable def cMc (r : RT) (n : Nat) (x0 x1 x7 : DV) (h0 : Hp) : aH :=
 bnd (aX x0 h0) fun v1 h1 =>
 bnd (aB 0 v1 h1) fun v2 h2 =>
 bnd (aA v2 h2) fun v3 h3 =>
 bnd (lY [v3, x1] h3) fun v4 h4 =>
  bWt r n x0 x1 x7 v4 (aF 0) h4
noncomputable def bVl (r : RT) (n : Nat) (x0 x1 : DV) (h0 : Hp) : aH :=
 cMc r n x0 x1 .l0 h0
noncomputable def cCm (r : RT) (n : Nat) (x0 x1 x6 : DV) (h0 : Hp) : aH :=
 bnd (aX x0 h0) fun v1 h1 =>
 bnd (aB 0 v1 h1) fun v2 h2 =>
 bnd (aA v2 h2) fun v3 h3 =>
 bnd (isF [v3, x1] h3) fun v4 h4 =>
 bnd (gP .not v4 h4) fun v5 h5 =>
 bnd (gD v5 false (some (x6, h5)) h5) fun v6 h6 =>
 bnd (gD v5 false (some (x0, h6)) h6) fun v7 h7 =>
 bnd (gD v5 false (r 15 [v7, (aF 10)] h7) h7) fun v8 h8 =>
 bnd (gD v5 false (aD .neq v6 v8 h8) h8) fun v9 h9 =>
 bnd (gD v5 false (some (v9, h9)) h9) fun v10 h10 =>
 bnd (gD v10 true (some (x6, h10)) h10) fun v11 h11 =>
 bnd (gD v10 true (some (x0, h11)) h11) fun v12 h12 =>
 bnd (gD v10 true (r 15 [v12, (aF 11)] h12) h12) fun v13 h13 =>
 bnd (gD v10 true (aD .neq v11 v13 h13) h13) fun v14 h14 =>
 bnd (gD v5 false (aN v10 v14 (.b false) h14) h14) fun v15 h15 =>
 bnd (aN v5 (.b true) v15 h15) fun v16 h16 =>
 bnd (gD v16 false (some (x0, h16)) h16) fun v17 h17 =>
 bnd (gD v16 false (aX v17 h17) h17) fun v18 h18 =>
 bnd (gD v16 false (aB 0 v18 h18) h18) fun v19 h19 =>
 bnd (gD v16 false (aA v19 h19) h19) fun v20 h20 =>
 bnd (gD v16 false (some (x1, h20)) h20) fun v21 h21 =>
 bnd (gD v16 false (nK [v20, v21] h21) h21) fun v22 h22 =>
 bnd (gD v16 false (aD .neq v22 (aF 2) h22) h22) fun v23 h23 =>
 bnd (aN v16 (.b true) v23 h23) fun v24 h24 =>
 aU v24 (
 some (.t [(.s []), (.b false)], h24)) (
  bVl r n x0 x1 h24)
noncomputable def bUo (r : RT) (n : Nat) (x0 x1 : DV) (h0 : Hp) : aH :=
 bnd (aX x0 h0) fun v1 h1 =>
 bnd (aB 0 v1 h1) fun v2 h2 =>
 bnd (aA v2 h2) fun v3 h3 =>
 bnd (nF [v3, x1] h3) fun v4 h4 =>
  cCm r n x0 x1 v4 h4
noncomputable def s13 (r : RT) (n : Nat) (x0 x1 : DV) (h0 : Hp) : aH :=
 bUo r n x0 x1 h0
noncomputable abbrev c13 : Code := cf Tryz.f13
noncomputable abbrev bGu : Code := cR c13
noncomputable abbrev bBo : Code := cR bGu
noncomputable abbrev bHg : Code := cR bBo
noncomputable abbrev bGw : Code := cR bHg
noncomputable abbrev eAh : Code := cR bGw
noncomputable abbrev aNy : Code := cL bGw
noncomputable abbrev bRh : Code := cR aNy
noncomputable abbrev bGy : Code := cL bRh
noncomputable abbrev sZ : Code := cL bGy
noncomputable abbrev cNi : Code := cL aNy
noncomputable abbrev cGb : Code := cL bHg
noncomputable abbrev cEs : Code := cL bBo
noncomputable abbrev cJf : Code := cL bGu
noncomputable abbrev bYc : Code := cL c13
noncomputable abbrev r13 : K := aQ CF Tryz.f13
noncomputable def D13 (r : RT) (n : Nat) (c : Code) (X : Nat → K) (k : K) : K := aP CF r 63 n c X r13 k
theorem dMv : D13 r n eAh x0 r13 = (K1 (gE r n) 7) :=
 (by kernel_rfl)
theorem cZe (kk7 : bK) (q0 : TT1) : D13 r n sZ (xs x0 0 (K1 q0 7)) (K5 kk7 0 1 7 48 49) = fun (env : aZ) (h : Hp) =>
 bnd (aD .lss (env 49) (env 48) h) fun v1 h1 =>
 aU v1 (
 bnd (r 53 [(env 0), (env 1), (env 49)] h1) fun v2 h2 =>
 bnd (cX .u8 v2 h2) fun v3 h3 =>
 bnd (aO [(.i .u8 (Int.ofNat 0))] 1 [(0, 1, v3)] h3) fun v4 h4 =>
 bnd (aW 1 1 (env 7) v4 h4) fun v5 h5 =>
 bnd (aD .add (env 49) (aF 1) h5) fun v6 h6 =>
      kk7 (env 0) (env 1) v5 (env 48) v6 h6) (
      q0 (env 7) h1) := by kernel_rfl
theorem cKg (kk7 : bK) : (fun (env : aZ) (h : Hp) =>
 bnd (aD .lss (env 49) (env 48) h) fun v1 h1 =>
 aU v1 (
 bnd (r 53 [(env 0), (env 1), (env 49)] h1) fun v2 h2 =>
 bnd (cX .u8 v2 h2) fun v3 h3 =>
 bnd (aO [(.i .u8 (Int.ofNat 0))] 1 [(0, 1, v3)] h3) fun v4 h4 =>
 bnd (aW 1 1 (env 7) v4 h4) fun v5 h5 =>
 bnd (aD .add (env 49) (aF 1) h5) fun v6 h6 =>
      kk7 (env 0) (env 1) v5 (env 48) v6 h6) (
      gE r n (env 7) h1)) = (K5 (aRl r n kk7) 0 1 7 48 49) := by kernel_rfl
theorem cOe (kk7 : bK) : D13 r n sZ (xs x0 0 (K1 (gE r n) 7)) (K5 kk7 0 1 7 48 49) = (K5 (aRl r n kk7) 0 1 7 48 49) :=
 (cZe r n kk7 (gE r n)).trans (cKg r n kk7)
theorem dEl (m : Nat) : aK (fun kk => D13 r n sZ (xs x0 0 (K1 (gE r n) 7)) kk) m = (K5 (aMk r n m) 0 1 7 48 49) := by
 induction m with
 | zero => exact (by kernel_rfl : aK (fun kk => D13 r n sZ (xs x0 0 (K1 (gE r n) 7)) kk) 0 = (K5 (aMk r n 0) 0 1 7 48 49))
 | succ m ih =>
  refine (by kernel_rfl : aK (fun kk => D13 r n sZ (xs x0 0 (K1 (gE r n) 7)) kk) (m + 1) = D13 r n sZ (xs x0 0 (K1 (gE r n) 7)) (aK (fun kk => D13 r n sZ (xs x0 0 (K1 (gE r n) 7)) kk) m)).trans ?_
  rw [ih]
  exact (cOe r n (aMk r n m)).trans (by kernel_rfl)
theorem dJp : D13 r n bGy (xs x0 0 (K1 (gE r n) 7)) (K1 (gE r n) 7) = (K5 (dGo r n) 0 1 7 48 49) :=
 (by kernel_rfl : D13 r n bGy (xs x0 0 (K1 (gE r n) 7)) (K1 (gE r n) 7) = aK (fun kk => D13 r n sZ (xs x0 0 (K1 (gE r n) 7)) kk) n).trans ((dEl r n n).trans (by kernel_rfl))
theorem dIm : D13 r n bRh x0 (K1 (gE r n) 7) = (K5 (bWt r n) 0 1 7 48 49) :=
 (by kernel_rfl : D13 r n bRh x0 (K1 (gE r n) 7) = D13 r n bGy (xs x0 0 (K1 (gE r n) 7)) (K1 (gE r n) 7)).trans
 ((dJp r n).trans (by kernel_rfl))
theorem dCk : D13 r n bGw x0 r13 = D13 r n aNy x0 (K1 (gE r n) 7) :=
 congrArg (fun k => D13 r n aNy x0 k) (dMv r n)
theorem dAf : D13 r n aNy x0 (K1 (gE r n) 7) = D13 r n cNi x0 (K5 (bWt r n) 0 1 7 48 49) :=
 congrArg (fun k => D13 r n cNi x0 k) (dIm r n)
theorem dHm : D13 r n bGw x0 r13 = (K3 (cMc r n) 0 1 7) :=
 (dCk r n).trans
 ((dAf r n).trans
 ((by kernel_rfl)))
theorem cVy : D13 r n bHg x0 r13 = D13 r n cGb x0 (K3 (cMc r n) 0 1 7) :=
 congrArg (fun k => D13 r n cGb x0 k) (dHm r n)
theorem dUc : D13 r n bHg x0 r13 = (K2 (bVl r n) 0 1) :=
 (cVy r n).trans
 ((by kernel_rfl))
theorem cSw : D13 r n bBo x0 r13 = D13 r n cEs x0 (K2 (bVl r n) 0 1) :=
 congrArg (fun k => D13 r n cEs x0 k) (dUc r n)
theorem dLd : D13 r n bBo x0 r13 = (K3 (cCm r n) 0 1 6) :=
 (cSw r n).trans
 ((by kernel_rfl))
theorem cWz : D13 r n bGu x0 r13 = D13 r n cJf x0 (K3 (cCm r n) 0 1 6) :=
 congrArg (fun k => D13 r n cJf x0 k) (dLd r n)
theorem dHt : D13 r n bGu x0 r13 = (K2 (bUo r n) 0 1) :=
 (cWz r n).trans
 ((by kernel_rfl))
theorem eAx : D13 r n c13 x0 r13 = D13 r n bYc x0 (K2 (bUo r n) 0 1) :=
 congrArg (fun k => D13 r n bYc x0 k) (dHt r n)
theorem eIf : D13 r n c13 x0 r13 = (K2 (s13 r n) 0 1) :=
 (eAx r n).trans
 ((by kernel_rfl))
theorem dVo : aG CF r n 13 args h = s13 r n (aR args 0) (aR args 1) h :=
 (by kernel_rfl : aG CF r n 13 args h = D13 r n c13 x0 r13 (aI args) h).trans ((congrFun (congrFun (eIf r n) (aI args)) h).trans (by kernel_rfl))
noncomputable def s14 (r : RT) (n : Nat) (x0 x1 : DV) (h0 : Hp) : aH :=
 bnd (aX x0 h0) fun v1 h1 =>
 bnd (aB 0 v1 h1) fun v2 h2 =>
 bnd (aA v2 h2) fun v3 h3 =>
 bnd (isF [v3, x1] h3) fun v4 h4 =>
 aU v4 (
 bnd (aX x0 h4) fun v5 h5 =>
 bnd (aB 0 v5 h5) fun v6 h6 =>
 bnd (aA v6 h6) fun v7 h7 =>
 bnd (nF [v7, x1] h7) fun v8 h8 =>
 some (v8, h8)) (
 bnd (iZ [x1] h4) fun v9 h9 =>
 aU v9 (
 bnd (r 15 [x0, (aF 7)] h9) fun v10 h10 =>
 some (v10, h10)) (
 bnd (aD .eql x1 (aF 0) h9) fun v11 h11 =>
 aU v11 (
 bnd (r 15 [x0, (aF 2)] h11) fun v12 h12 =>
 some (v12, h12)) (
 bnd (aD .eql x1 (aF 2) h11) fun v13 h13 =>
 aU v13 (
 bnd (r 15 [x0, (aF 4)] h13) fun v14 h14 =>
 some (v14, h14)) (
 bnd (aD .eql x1 (aF 4) h13) fun v15 h15 =>
 aU v15 (
 bnd (r 15 [x0, (aF 5)] h15) fun v16 h16 =>
 some (v16, h16)) (
 some ((aF 0), h15))))))
noncomputable abbrev c14 : Code := cf Tryz.f14
noncomputable abbrev r14 : K := aQ CF Tryz.f14
noncomputable def D14 (r : RT) (n : Nat) (c : Code) (X : Nat → K) (k : K) : K := aP CF r 38 n c X r14 k
theorem eLa : D14 r n c14 x0 r14 = (K2 (s14 r n) 0 1) :=
 (by kernel_rfl)
theorem eCd : aG CF r n 14 args h = s14 r n (aR args 0) (aR args 1) h :=
 (by kernel_rfl : aG CF r n 14 args h = D14 r n c14 x0 r14 (aI args) h).trans ((congrFun (congrFun (eLa r n) (aI args)) h).trans (by kernel_rfl))
noncomputable def s15 (r : RT) (n : Nat) (x0 x1 : DV) (h0 : Hp) : aH :=
 bnd (aD .lss x1 (aF 0) h0) fun v1 h1 =>
 bnd (gD v1 false (some (x1, h1)) h1) fun v2 h2 =>
 bnd (gD v1 false (aD .geq v2 (aF 16) h2) h2) fun v3 h3 =>
 bnd (aN v1 (.b true) v3 h3) fun v4 h4 =>
 aU v4 (
 some ((aF 0), h4)) (
 bnd (aX x0 h4) fun v5 h5 =>
 bnd (aB 1 v5 h5) fun v6 h6 =>
 bnd (aA v6 h6) fun v7 h7 =>
 bnd (aD .add (aF 2) x1 h7) fun v8 h8 =>
 bnd (aC 1 v7 v8 h8) fun v9 h9 =>
 bnd (aA v9 h9) fun v10 h10 =>
 some (v10, h10))
noncomputable abbrev c15 : Code := cf Tryz.f15
noncomputable abbrev r15 : K := aQ CF Tryz.f15
noncomputable def D15 (r : RT) (n : Nat) (c : Code) (X : Nat → K) (k : K) : K := aP CF r 19 n c X r15 k
theorem eKg : D15 r n c15 x0 r15 = (K2 (s15 r n) 0 1) :=
 (by kernel_rfl)
theorem eBw : aG CF r n 15 args h = s15 r n (aR args 0) (aR args 1) h :=
 (by kernel_rfl : aG CF r n 15 args h = D15 r n c15 x0 r15 (aI args) h).trans ((congrFun (congrFun (eKg r n) (aI args)) h).trans (by kernel_rfl))
noncomputable def s16 (r : RT) (n : Nat) (h0 : Hp) : aH :=
 bnd (r 10 [(.i .i64 (Int.ofNat 20000))] h0) fun v1 h1 =>
 bnd (aE 0 v1 h1) fun v2 h2 =>
 bnd (aE 1 v1 h2) fun v3 h3 =>
 bnd (pEq (.pointer 83) true v2 .p0 h3) fun v4 h4 =>
 bnd (gD v4 false (some (v3, h4)) h4) fun v5 h5 =>
 bnd (gD v4 false (aD .neq v5 (.i .i64 (Int.ofNat 0)) h5) h5) fun v6 h6 =>
 bnd (aN v4 (.b true) v6 h6) fun v7 h7 =>
 aU v7 (
 some ((.b false), h7)) (
 bnd (aO [(.s []), (.s [])] 2 [(0, 1, (.s [120])), (1, 1, (.s [121]))] h7) fun v8 h8 =>
 bnd (r 32 [v2, (.s [80, 111, 105, 110, 116]), (.s [79, 98, 106, 101, 99, 116]), v8] h8) fun v9 h9 =>
 bnd (aE 0 v9 h9) fun v10 h10 =>
 bnd (aE 1 v9 h10) fun v11 h11 =>
 bnd (r 55 [v2, v10] h11) fun v12 h12 =>
 bnd (r 34 [v2, (.s [80, 111, 105, 110, 116]), (.s [120, 32, 94, 120])] h12) fun v13 h13 =>
 bnd (aE 0 v13 h13) fun v14 h14 =>
 bnd (aE 1 v13 h14) fun v15 h15 =>
 bnd (aE 2 v13 h15) fun v16 h16 =>
 bnd (aE 3 v13 h16) fun v17 h17 =>
 bnd (r 56 [v2, v14] h17) fun v18 h18 =>
 bnd (aE 0 v18 h18) fun v19 h19 =>
 bnd (aE 1 v18 h19) fun v20 h20 =>
 bnd (bS [(.s []), (.i .i64 (Int.ofNat 0)), (.i .i64 (Int.ofNat 0)), (.i .i64 (Int.ofNat 0)), .l0, .l0] h20) fun v21 h21 =>
 bnd (aJ 6 v21 v19 h21) fun _ h22 =>
 bnd (r 17 [v2, (.i .i64 (Int.ofNat 1073741824))] h22) fun v23 h23 =>
 bnd (aE 0 v23 h23) fun v24 h24 =>
 bnd (aE 1 v23 h24) fun v25 h25 =>
 bnd (r 58 [v2, (.s [73, 110, 116, 101, 103, 101, 114])] h25) fun v26 h26 =>
 bnd (r 57 [v2, v26] h26) fun v27 h27 =>
 bnd (fK .eql v27 (.s [73, 110, 116, 101, 103, 101, 114]) h27) fun v28 h28 =>
 bnd (gD v28 true (some (v11, h28)) h28) fun v29 h29 =>
 bnd (gD v28 true (aD .eql v29 (.i .i64 (Int.ofNat 0)) h29) h29) fun v30 h30 =>
 bnd (aN v28 v30 (.b false) h30) fun v31 h31 =>
 bnd (gD v31 true (some (v12, h31)) h31) fun v32 h32 =>
 bnd (gD v31 true (bJ v32 h32) h32) fun v33 h33 =>
 bnd (gD v31 true (aD .eql v33 (.i .i64 (Int.ofNat 2)) h33) h33) fun v34 h34 =>
 bnd (aN v31 v34 (.b false) h34) fun v35 h35 =>
 bnd (gD v35 true (some (v12, h35)) h35) fun v36 h36 =>
 bnd (gD v35 true (aC 1 v36 (.i .i64 (Int.ofNat 1)) h36) h36) fun v37 h37 =>
 bnd (gD v35 true (aA v37 h37) h37) fun v38 h38 =>
 bnd (gD v35 true (fK .eql v38 (.s [121]) h38) h38) fun v39 h39 =>
 bnd (aN v35 v39 (.b false) h39) fun v40 h40 =>
 bnd (gD v40 true (some (v17, h40)) h40) fun v41 h41 =>
 bnd (gD v40 true (aD .eql v41 (.i .i64 (Int.ofNat 0)) h41) h41) fun v42 h42 =>
 bnd (aN v40 v42 (.b false) h42) fun v43 h43 =>
 bnd (gD v43 true (some (v20, h43)) h43) fun v44 h44 =>
 bnd (aN v43 v44 (.b false) h44) fun v45 h45 =>
 bnd (gD v45 true (aB 5 v21 h45) h45) fun v46 h46 =>
 bnd (gD v45 true (aA v46 h46) h46) fun v47 h47 =>
 bnd (gD v45 true (r 59 [v47] h47) h47) fun v48 h48 =>
 bnd (gD v45 true (fK .eql v48 (.s [105, 118, 97, 114, 32, 48, 10, 114, 101, 116, 117, 114, 110, 10]) h48) h48) fun v49 h49 =>
 bnd (aN v45 v49 (.b false) h49) fun v50 h50 =>
 bnd (gD v50 true (some (v25, h50)) h50) fun v51 h51 =>
 bnd (gD v50 true (aD .eql v51 (.i .i64 (Int.ofNat 0)) h51) h51) fun v52 h52 =>
 bnd (aN v50 v52 (.b false) h52) fun v53 h53 =>
 bnd (gD v53 true (some (v2, h53)) h53) fun v54 h54 =>
 bnd (gD v53 true (some (v24, h54)) h54) fun v55 h55 =>
 bnd (gD v53 true (r 14 [v54, v55] h55) h55) fun v56 h56 =>
 bnd (gD v53 true (some (v2, h56)) h56) fun v57 h57 =>
 bnd (gD v53 true (r 58 [v57, (.s [76, 97, 114, 103, 101, 73, 110, 116, 101, 103, 101, 114])] h57) h57) fun v58 h58 =>
 bnd (gD v53 true (aD .eql v56 v58 h58) h58) fun v59 h59 =>
 bnd (aN v53 v59 (.b false) h59) fun v60 h60 =>
 some (v60, h60))
noncomputable abbrev c16 : Code := cf Tryz.f16
noncomputable abbrev r16 : K := aQ CF Tryz.f16
noncomputable def D16 (r : RT) (n : Nat) (c : Code) (X : Nat → K) (k : K) : K := aP CF r 96 n c X r16 k
theorem eKx : D16 r n c16 x0 r16 = (K0 (s16 r n)) :=
 (by kernel_rfl)
theorem dFi : aG CF r n 16 args h = s16 r n h :=
 (by kernel_rfl : aG CF r n 16 args h = D16 r n c16 x0 r16 (aI args) h).trans ((congrFun (congrFun (eKx r n) (aI args)) h).trans (by kernel_rfl))
noncomputable def s18 (r : RT) (n : Nat) (x0 x1 : DV) (h0 : Hp) : aH :=
 bnd (iZ [x1] h0) fun v1 h1 =>
 aU v1 (
 bnd (mK [x1] h1) fun v2 h2 =>
 some (.t [v2, (.b true)], h2)) (
 bnd (aX x0 h1) fun v3 h3 =>
 bnd (aB 0 v3 h3) fun v4 h4 =>
 bnd (aA v4 h4) fun v5 h5 =>
 bnd (isF [v5, x1] h5) fun v6 h6 =>
 bnd (gD v6 true (some (x0, h6)) h6) fun v7 h7 =>
 bnd (gD v6 true (aX v7 h7) h7) fun v8 h8 =>
 bnd (gD v6 true (aB 0 v8 h8) h8) fun v9 h9 =>
 bnd (gD v6 true (aA v9 h9) h9) fun v10 h10 =>
 bnd (gD v6 true (some (x1, h10)) h10) fun v11 h11 =>
 bnd (gD v6 true (nF [v10, v11] h11) h11) fun v12 h12 =>
 bnd (gD v6 true (some (x0, h12)) h12) fun v13 h13 =>
 bnd (gD v6 true (r 15 [v13, (aF 8)] h13) h13) fun v14 h14 =>
 bnd (gD v6 true (aD .eql v12 v14 h14) h14) fun v15 h15 =>
 bnd (aN v6 v15 (.b false) h15) fun v16 h16 =>
 bnd (gD v16 true (some (x0, h16)) h16) fun v17 h17 =>
 bnd (gD v16 true (aX v17 h17) h17) fun v18 h18 =>
 bnd (gD v16 true (aB 0 v18 h18) h18) fun v19 h19 =>
 bnd (gD v16 true (aA v19 h19) h19) fun v20 h20 =>
 bnd (gD v16 true (some (x1, h20)) h20) fun v21 h21 =>
 bnd (gD v16 true (nK [v20, v21] h21) h21) fun v22 h22 =>
 bnd (gD v16 true (aD .eql v22 (aF 1) h22) h22) fun v23 h23 =>
 bnd (aN v16 v23 (.b false) h23) fun v24 h24 =>
 aU v24 (
 bnd (r 53 [x0, x1, (aF 0)] h24) fun v25 h25 =>
 some (.t [v25, (.b true)], h25)) (
 some (.t [(aF 0), (.b false)], h24)))
noncomputable abbrev c18 : Code := cf Tryz.f18
noncomputable abbrev r18 : K := aQ CF Tryz.f18
noncomputable def D18 (r : RT) (n : Nat) (c : Code) (X : Nat → K) (k : K) : K := aP CF r 41 n c X r18 k
theorem eKy : D18 r n c18 x0 r18 = (K2 (s18 r n) 0 1) :=
 (by kernel_rfl)
theorem eAs : aG CF r n 18 args h = s18 r n (aR args 0) (aR args 1) h :=
 (by kernel_rfl : aG CF r n 18 args h = D18 r n c18 x0 r18 (aI args) h).trans ((congrFun (congrFun (eKy r n) (aI args)) h).trans (by kernel_rfl))
end Go.Dd

namespace Go.Dd
open Go.Proofs
variable (r : RT) (n : Nat) (args : List DV) (h : Hp)
noncomputable def aS (r : RT) (n : Nat) (x9 : DV) (h0 : Hp) : aH :=
 some (.t [x9, (aF 0)], h0)
noncomputable def aT (r : RT) (n : Nat) (kk12 : bT) (kk16 : bK) (x7 x8 x9 x12 x13 : DV) (h0 : Hp) : aH :=
 bnd (aD .add x13 (aF 1) h0) fun v1 h1 =>
  kk16 x7 x8 x9 x12 v1 h1
noncomputable def aCu (r : RT) (n : Nat) (kk12 : bT) (kk16 : bK) (kk29 : TT8) (x7 x8 x9 x12 x13 x15 x16 x18 : DV) (h0 : Hp) : aH :=
 bnd (aD .add x18 (aF 1) h0) fun v1 h1 =>
  kk29 x7 x8 x9 x12 x13 x15 x16 v1 h1
noncomputable def aXk (r : RT) (n : Nat) (kk12 : bT) (kk16 : bK) (kk29 : TT8) (x7 x8 x9 x12 x13 x15 x16 x18 : DV) (h0 : Hp) : aH :=
 bnd (aC 1 x16 x18 h0) fun v1 h1 =>
 bnd (aA v1 h1) fun v2 h2 =>
 bnd (bJ x7 h2) fun v3 h3 =>
 bnd (aD .geq v2 v3 h3) fun v4 h4 =>
 bnd (gD v4 false (some (x8, h4)) h4) fun v5 h5 =>
 bnd (gD v4 false (some (x16, h5)) h5) fun v6 h6 =>
 bnd (gD v4 false (some (x18, h6)) h6) fun v7 h7 =>
 bnd (gD v4 false (aC 1 v6 v7 h7) h7) fun v8 h8 =>
 bnd (gD v4 false (aA v8 h8) h8) fun v9 h9 =>
 bnd (gD v4 false (aC 1 v5 v9 h9) h9) fun v10 h10 =>
 bnd (gD v4 false (aA v10 h10) h10) fun v11 h11 =>
 bnd (gD v4 false (some (x8, h11)) h11) fun v12 h12 =>
 bnd (gD v4 false (some (x13, h12)) h12) fun v13 h13 =>
 bnd (gD v4 false (aC 1 v12 v13 h13) h13) fun v14 h14 =>
 bnd (gD v4 false (aA v14 h14) h14) fun v15 h15 =>
 bnd (gD v4 false (aD .neq v11 v15 h15) h15) fun v16 h16 =>
 bnd (aN v4 (.b true) v16 h16) fun v17 h17 =>
 bnd (gD v17 false (some (x9, h17)) h17) fun v18 h18 =>
 bnd (gD v17 false (some (x16, h18)) h18) fun v19 h19 =>
 bnd (gD v17 false (some (x18, h19)) h19) fun v20 h20 =>
 bnd (gD v17 false (aC 1 v19 v20 h20) h20) fun v21 h21 =>
 bnd (gD v17 false (aA v21 h21) h21) fun v22 h22 =>
 bnd (gD v17 false (aC 1 v18 v22 h22) h22) fun v23 h23 =>
 bnd (gD v17 false (aA v23 h23) h23) fun v24 h24 =>
 bnd (gD v17 false (aD .geq v24 (aF 0) h24) h24) fun v25 h25 =>
 bnd (gD v17 false (some (v25, h25)) h25) fun v26 h26 =>
 bnd (gD v26 true (some (x9, h26)) h26) fun v27 h27 =>
 bnd (gD v26 true (some (x16, h27)) h27) fun v28 h28 =>
 bnd (gD v26 true (some (x18, h28)) h28) fun v29 h29 =>
 bnd (gD v26 true (aC 1 v28 v29 h29) h29) fun v30 h30 =>
 bnd (gD v26 true (aA v30 h30) h30) fun v31 h31 =>
 bnd (gD v26 true (aC 1 v27 v31 h31) h31) fun v32 h32 =>
 bnd (gD v26 true (aA v32 h32) h32) fun v33 h33 =>
 bnd (gD v26 true (some (x15, h33)) h33) fun v34 h34 =>
 bnd (gD v26 true (aD .neq v33 v34 h34) h34) fun v35 h35 =>
 bnd (gD v17 false (aN v26 v35 (.b false) h35) h35) fun v36 h36 =>
 bnd (aN v17 (.b true) v36 h36) fun v37 h37 =>
 aU v37 (
 some (.t [.l0, (aF 19)], h37)) (
 bnd (aC 1 x16 x18 h37) fun v38 h38 =>
 bnd (aA v38 h38) fun v39 h39 =>
 bnd (aC 1 x9 v39 h39) fun v40 h40 =>
 bnd (aA v40 h40) fun v41 h41 =>
 bnd (aD .lss v41 (aF 0) h41) fun v42 h42 =>
 aU v42 (
 bnd (aC 1 x16 x18 h42) fun v43 h43 =>
 bnd (aA v43 h43) fun v44 h44 =>
 bnd (aC 1 x9 v44 h44) fun v45 h45 =>
 bnd (aJ 1 v45 x15 h45) fun _ h46 =>
      aCu r n kk12 kk16 kk29 x7 x8 x9 (.b true) x13 x15 x16 x18 h46) (
      aCu r n kk12 kk16 kk29 x7 x8 x9 x12 x13 x15 x16 x18 h42))
noncomputable def aZp (r : RT) (n : Nat) (kk12 : bT) (kk16 : bK) (kk29 : TT8) (x7 x8 x9 x12 x13 x15 x16 x18 : DV) (h0 : Hp) : aH :=
 bnd (bJ x16 h0) fun v1 h1 =>
 bnd (aD .lss x18 v1 h1) fun v2 h2 =>
 aU v2 (
   aXk r n kk12 kk16 kk29 x7 x8 x9 x12 x13 x15 x16 x18 h2) (
   aT r n kk12 kk16 x7 x8 x9 x12 x13 h2)
noncomputable def uP (r : RT) (n : Nat) (kk12 : bT) (kk16 : bK) (m : Nat) : TT8 :=
 Nat.rec (motive := fun _ => TT8) (fun _ _ _ _ _ _ _ _ _ => none) (fun _ ih => aZp r n kk12 kk16 ih) m
noncomputable def cNt (r : RT) (n : Nat) (kk12 : bT) (kk16 : bK) : TT8 := uP r n kk12 kk16 n
noncomputable def aTk (r : RT) (n : Nat) (kk12 : bT) (kk16 : bK) (x7 x8 x9 x12 x13 x15 x16 x18 : DV) (h0 : Hp) : aH :=
 cNt r n kk12 kk16 x7 x8 x9 x12 x13 x15 x16 x18 h0
noncomputable def pQ (r : RT) (n : Nat) (kk12 : bT) (kk16 : bK) (x7 x8 x9 x12 x13 x15 x16 : DV) (h0 : Hp) : aH :=
 aTk r n kk12 kk16 x7 x8 x9 x12 x13 x15 x16 (aF 0) h0
noncomputable def aDk (r : RT) (n : Nat) (kk12 : bT) (kk16 : bK) (x7 x8 x9 x12 x13 x15 x16 x17 : DV) (h0 : Hp) : aH :=
 bnd (aD .geq x17 (aF 0) h0) fun v1 h1 =>
 aU v1 (
 bnd (aO [(aF 0)] 1 [(0, 1, x17)] h1) fun v2 h2 =>
 bnd (aW 1 8 x16 v2 h2) fun v3 h3 =>
  pQ r n kk12 kk16 x7 x8 x9 x12 x13 x15 v3 h3) (
  pQ r n kk12 kk16 x7 x8 x9 x12 x13 x15 x16 h1)
noncomputable def pP (r : RT) (n : Nat) (kk12 : bT) (kk16 : bK) (x7 x8 x9 x12 x13 x14 x15 x16 : DV) (h0 : Hp) : aH :=
 bnd (aL 3 x14 h0) fun v1 h1 =>
 bnd (r 72 [v1] h1) fun v2 h2 =>
  aDk r n kk12 kk16 x7 x8 x9 x12 x13 x15 x16 v2 h2
noncomputable def aEt (r : RT) (n : Nat) (kk12 : bT) (kk16 : bK) (x7 x8 x9 x12 x13 x14 x15 x16 : DV) (h0 : Hp) : aH :=
 bnd (aB 0 x14 h0) fun v1 h1 =>
 bnd (aA v1 h1) fun v2 h2 =>
 bnd (aD .neq v2 (aF 16) h2) fun v3 h3 =>
 bnd (gD v3 true (aB 0 x14 h3) h3) fun v4 h4 =>
 bnd (gD v3 true (aA v4 h4) h4) fun v5 h5 =>
 bnd (gD v3 true (aD .neq v5 (aF 19) h5) h5) fun v6 h6 =>
 bnd (aN v3 v6 (.b false) h6) fun v7 h7 =>
 bnd (gD v7 true (aB 0 x14 h7) h7) fun v8 h8 =>
 bnd (gD v7 true (aA v8 h8) h8) fun v9 h9 =>
 bnd (gD v7 true (aD .neq v9 (aF 20) h9) h9) fun v10 h10 =>
 bnd (aN v7 v10 (.b false) h10) fun v11 h11 =>
 aU v11 (
 bnd (aD .add x13 (aF 1) h11) fun v12 h12 =>
 bnd (aO [(aF 0)] 1 [(0, 1, v12)] h12) fun v13 h13 =>
 bnd (aW 1 8 x16 v13 h13) fun v14 h14 =>
  pP r n kk12 kk16 x7 x8 x9 x12 x13 x14 x15 v14 h14) (
  pP r n kk12 kk16 x7 x8 x9 x12 x13 x14 x15 x16 h11)
noncomputable def aRz (r : RT) (n : Nat) (kk12 : bT) (kk16 : bK) (x7 x8 x9 x12 x13 x14 x15 : DV) (h0 : Hp) : aH :=
 aEt r n kk12 kk16 x7 x8 x9 x12 x13 x14 x15 .l0 h0
noncomputable def aRf (r : RT) (n : Nat) (kk12 : bT) (kk16 : bK) (x7 x8 x9 x12 x13 x14 x15 : DV) (h0 : Hp) : aH :=
 bnd (aB 0 x14 h0) fun v1 h1 =>
 bnd (aA v1 h1) fun v2 h2 =>
 bnd (aD .eql v2 (aF 19) h2) fun v3 h3 =>
 bnd (gD v3 true (some (x9, h3)) h3) fun v4 h4 =>
 bnd (gD v3 true (some (x13, h4)) h4) fun v5 h5 =>
 bnd (gD v3 true (aC 1 v4 v5 h5) h5) fun v6 h6 =>
 bnd (gD v3 true (aA v6 h6) h6) fun v7 h7 =>
 bnd (gD v3 true (aD .neq v7 (aF 1) h7) h7) fun v8 h8 =>
 bnd (gD v3 true (some (v8, h8)) h8) fun v9 h9 =>
 bnd (gD v9 false (some (x8, h9)) h9) fun v10 h10 =>
 bnd (gD v9 false (some (x13, h10)) h10) fun v11 h11 =>
 bnd (gD v9 false (aC 1 v10 v11 h11) h11) fun v12 h12 =>
 bnd (gD v9 false (aA v12 h12) h12) fun v13 h13 =>
 bnd (gD v9 false (aD .lss v13 (aF 0) h13) h13) fun v14 h14 =>
 bnd (gD v3 true (aN v9 (.b true) v14 h14) h14) fun v15 h15 =>
 bnd (aN v3 v15 (.b false) h15) fun v16 h16 =>
 aU v16 (
 some (.t [.l0, (aF 19)], h16)) (
  aRz r n kk12 kk16 x7 x8 x9 x12 x13 x14 x15 h16)
noncomputable def aRo (r : RT) (n : Nat) (kk12 : bT) (kk16 : bK) (x7 x8 x9 x12 x13 x14 x15 : DV) (h0 : Hp) : aH :=
 bnd (aC 1 x9 x13 h0) fun v1 h1 =>
 bnd (aA v1 h1) fun v2 h2 =>
 bnd (aL 3 x14 h2) fun v3 h3 =>
 bnd (r 71 [v3] h3) fun v4 h4 =>
 cnd (bR (aA v1 h4) v2 && true) (
 bnd (aD .lss v2 v4 h4) fun v5 h5 =>
 bnd (gD v5 false (some (x15, h5)) h5) fun v6 h6 =>
 bnd (gD v5 false (aD .gtr v6 (aF 24) h6) h6) fun v7 h7 =>
 bnd (aN v5 (.b true) v7 h7) fun v8 h8 =>
 aU v8 (
 some (.t [.l0, (aF 19)], h8)) (
  aRf r n kk12 kk16 x7 x8 x9 x12 x13 x14 x15 h8))
noncomputable def wS (r : RT) (n : Nat) (kk12 : bT) (kk16 : bK) (x7 x8 x9 x12 x13 x14 : DV) (h0 : Hp) : aH :=
 bnd (aC 1 x9 x13 h0) fun v1 h1 =>
 bnd (aA v1 h1) fun v2 h2 =>
 bnd (aL 3 x14 h2) fun v3 h3 =>
 bnd (r 70 [v3] h3) fun v4 h4 =>
 cnd (bR (aA v1 h4) v2 && true) (
 bnd (aD .add v2 v4 h4) fun v5 h5 =>
  aRo r n kk12 kk16 x7 x8 x9 x12 x13 x14 v5 h5)
noncomputable def aJq (r : RT) (n : Nat) (kk12 : bT) (kk16 : bK) (x7 x8 x9 x12 x13 : DV) (h0 : Hp) : aH :=
 bnd (aC 3 x7 x13 h0) fun v1 h1 =>
 bnd (aL 3 v1 h1) fun v2 h2 =>
 bnd (bS [(aF 0), (aF 0), (aF 0)] h2) fun v3 h3 =>
 bnd (aJ 3 v3 v2 h3) fun _ h4 =>
  wS r n kk12 kk16 x7 x8 x9 x12 x13 v3 h4
noncomputable def aWb (r : RT) (n : Nat) (kk12 : bT) (kk16 : bK) (x7 x8 x9 x12 x13 : DV) (h0 : Hp) : aH :=
 bnd (aC 1 x9 x13 h0) fun v1 h1 =>
 bnd (aA v1 h1) fun v2 h2 =>
 bnd (aD .lss v2 (aF 0) h2) fun v3 h3 =>
 aU v3 (
  aT r n kk12 kk16 x7 x8 x9 x12 x13 h3) (
  aJq r n kk12 kk16 x7 x8 x9 x12 x13 h3)
noncomputable def bEn (r : RT) (n : Nat) (kk12 : bT) (kk16 : bK) (x7 x8 x9 x12 x13 : DV) (h0 : Hp) : aH :=
 bnd (bJ x7 h0) fun v1 h1 =>
 bnd (aD .lss x13 v1 h1) fun v2 h2 =>
 aU v2 (
   aWb r n kk12 kk16 x7 x8 x9 x12 x13 h2) (
   kk12 x7 x8 x9 x12 h2)
noncomputable def vX (r : RT) (n : Nat) (kk12 : bT) (m : Nat) : bK :=
 Nat.rec (motive := fun _ => bK) (fun _ _ _ _ _ _ => none) (fun _ ih => bEn r n kk12 ih) m
noncomputable def bXb (r : RT) (n : Nat) (kk12 : bT) : bK := vX r n kk12 n
noncomputable def aSh (r : RT) (n : Nat) (kk12 : bT) (x7 x8 x9 x12 x13 : DV) (h0 : Hp) : aH :=
 bXb r n kk12 x7 x8 x9 x12 x13 h0
noncomputable def aRq (r : RT) (n : Nat) (kk12 : bT) (x7 x8 x9 x12 : DV) (h0 : Hp) : aH :=
 aSh r n kk12 x7 x8 x9 x12 (aF 0) h0
noncomputable def aXz (r : RT) (n : Nat) (kk12 : bT) (x7 x8 x9 : DV) (h0 : Hp) : aH :=
 aRq r n kk12 x7 x8 x9 (.b false) h0
noncomputable def bBc (r : RT) (n : Nat) (kk12 : bT) (x7 x8 x9 x12 : DV) (h0 : Hp) : aH :=
 aU x12 (
   aXz r n kk12 x7 x8 x9 h0) (
   aS r n x9 h0)
noncomputable def vC (r : RT) (n : Nat) (m : Nat) : bT :=
 Nat.rec (motive := fun _ => bT) (fun _ _ _ _ _ => none) (fun _ ih => bBc r n ih) m
noncomputable def cFp (r : RT) (n : Nat) : bT := vC r n n
noncomputable def aYn (r : RT) (n : Nat) (x7 x8 x9 x12 : DV) (h0 : Hp) : aH :=
 cFp r n x7 x8 x9 x12 h0
noncomputable def dC (r : RT) (n : Nat) (x7 x8 x9 : DV) (h0 : Hp) : aH :=
 aYn r n x7 x8 x9 (.b true) h0
noncomputable def eL (r : RT) (n : Nat) (kk33 : bT) (x7 x8 x9 x10 : DV) (h0 : Hp) : aH :=
 bnd (aD .add x10 (aF 1) h0) fun v1 h1 =>
  kk33 x7 x8 x9 v1 h1
noncomputable def aAc (r : RT) (n : Nat) (kk33 : bT) (x7 x8 x9 x10 x11 : DV) (h0 : Hp) : aH :=
 bnd (aO [(aF 0)] 1 [(0, 1, x11)] h0) fun v1 h1 =>
 bnd (aW 1 8 x9 v1 h1) fun v2 h2 =>
  eL r n kk33 x7 x8 v2 x10 h2
noncomputable def aRr (r : RT) (n : Nat) (kk33 : bT) (x7 x8 x9 x10 x11 : DV) (h0 : Hp) : aH :=
 bnd (aD .eql x10 (aF 0) h0) fun v1 h1 =>
 bnd (gD v1 false (some (x10, h1)) h1) fun v2 h2 =>
 bnd (gD v1 false (aD .geq v2 (aF 2) h2) h2) fun v3 h3 =>
 bnd (gD v1 false (some (v3, h3)) h3) fun v4 h4 =>
 bnd (gD v4 true (some (x7, h4)) h4) fun v5 h5 =>
 bnd (gD v4 true (some (x10, h5)) h5) fun v6 h6 =>
 bnd (gD v4 true (aD .sub v6 (aF 2) h6) h6) fun v7 h7 =>
 bnd (gD v4 true (aC 3 v5 v7 h7) h7) fun v8 h8 =>
 bnd (gD v4 true (aB 0 v8 h8) h8) fun v9 h9 =>
 bnd (gD v4 true (aA v9 h9) h9) fun v10 h10 =>
 bnd (gD v4 true (aD .eql v10 (aF 18) h10) h10) fun v11 h11 =>
 bnd (gD v1 false (aN v4 v11 (.b false) h11) h11) fun v12 h12 =>
 bnd (aN v1 (.b true) v12 h12) fun v13 h13 =>
 aU v13 (
  aAc r n kk33 x7 x8 x9 x10 (aF 0) h13) (
  aAc r n kk33 x7 x8 x9 x10 x11 h13)
noncomputable def aVz (r : RT) (n : Nat) (kk33 : bT) (x7 x8 x9 x10 : DV) (h0 : Hp) : aH :=
 aRr r n kk33 x7 x8 x9 x10 (.i .i64 (Int.negSucc 0)) h0
noncomputable def bDz (r : RT) (n : Nat) (kk33 : bT) (x7 x8 x9 x10 : DV) (h0 : Hp) : aH :=
 bnd (bJ x7 h0) fun v1 h1 =>
 bnd (aD .lss x10 v1 h1) fun v2 h2 =>
 aU v2 (
   aVz r n kk33 x7 x8 x9 x10 h2) (
   dC r n x7 x8 x9 h2)
noncomputable def uJ (r : RT) (n : Nat) (m : Nat) : bT :=
 Nat.rec (motive := fun _ => bT) (fun _ _ _ _ _ => none) (fun _ ih => bDz r n ih) m
noncomputable def bUf (r : RT) (n : Nat) : bT := uJ r n n
noncomputable def aVp (r : RT) (n : Nat) (x7 x8 x9 x10 : DV) (h0 : Hp) : aH :=
 bUf r n x7 x8 x9 x10 h0
noncomputable def cKm (r : RT) (n : Nat) (x7 x8 x9 : DV) (h0 : Hp) : aH :=
 aVp r n x7 x8 x9 (aF 0) h0
noncomputable def cKu (r : RT) (n : Nat) (x7 x8 : DV) (h0 : Hp) : aH :=
 cKm r n x7 x8 .l0 h0
noncomputable def bWh (r : RT) (n : Nat) (x6 x7 x8 : DV) (h0 : Hp) : aH :=
 bnd (gP .not x6 h0) fun v1 h1 =>
 aU v1 (
 some (.t [.l0, (aF 19)], h1)) (
  cKu r n x7 x8 h1)
noncomputable def bYa (r : RT) (n : Nat) (x7 x8 : DV) (h0 : Hp) : aH :=
 bnd (r 69 [x7, x8] h0) fun v1 h1 =>
  bWh r n v1 x7 x8 h1
noncomputable def cCd (r : RT) (n : Nat) (x7 : DV) (h0 : Hp) : aH :=
 bnd (r 68 [x7] h0) fun v1 h1 =>
  bYa r n x7 v1 h1
noncomputable def bXd (r : RT) (n : Nat) (x2 : DV) (h0 : Hp) : aH :=
 bnd (aB 5 x2 h0) fun v1 h1 =>
 bnd (aA v1 h1) fun v2 h2 =>
  cCd r n v2 h2
noncomputable def cJu (r : RT) (n : Nat) (x2 x6 : DV) (h0 : Hp) : aH :=
 bnd (gP .not x6 h0) fun v1 h1 =>
 aU v1 (
 some (.t [.l0, (aF 19)], h1)) (
  bXd r n x2 h1)
noncomputable def aPg (r : RT) (n : Nat) (x1 x2 : DV) (h0 : Hp) : aH :=
 bnd (aL 6 x2 h0) fun v1 h1 =>
 bnd (r 67 [v1, x1] h1) fun v2 h2 =>
  cJu r n x2 v2 h2
noncomputable def s25 (r : RT) (n : Nat) (x0 x1 : DV) (h0 : Hp) : aH :=
 bnd (bQ x0 h0) fun v1 h1 =>
  aPg r n x1 v1 h1
noncomputable abbrev c25 : Code := cf Tryz.f25
noncomputable abbrev bIf : Code := cR c25
noncomputable abbrev bIi : Code := cR bIf
noncomputable abbrev bCz : Code := cR bIi
noncomputable abbrev bBh : Code := cR bCz
noncomputable abbrev bFf : Code := cR bBh
noncomputable abbrev bCq : Code := cR bFf
noncomputable abbrev bDs : Code := cR bCq
noncomputable abbrev bIh : Code := cR bDs
noncomputable abbrev bHk : Code := cR bIh
noncomputable abbrev dOl : Code := cR bHk
noncomputable abbrev yU : Code := cL bHk
noncomputable abbrev aSi : Code := cR yU
noncomputable abbrev aLp : Code := cL aSi
noncomputable abbrev kX : Code := cL aLp
noncomputable abbrev aSe : Code := cR kX
noncomputable abbrev aLc : Code := cL aSe
noncomputable abbrev aHi : Code := cR aLc
noncomputable abbrev aWj : Code := cR aHi
noncomputable abbrev aLe : Code := cL aWj
noncomputable abbrev kQ : Code := cL aLe
noncomputable abbrev aEl : Code := cR kQ
noncomputable abbrev dQz : Code := cR aEl
noncomputable abbrev aEy : Code := cL aEl
noncomputable abbrev aIs : Code := cL aEy
noncomputable abbrev aKs : Code := cR aIs
noncomputable abbrev aHk : Code := cR aKs
noncomputable abbrev aLg : Code := cR aHk
noncomputable abbrev aFj : Code := cR aLg
noncomputable abbrev aCr : Code := cR aFj
noncomputable abbrev aKt : Code := cR aCr
noncomputable abbrev aGb : Code := cR aKt
noncomputable abbrev aHy : Code := cR aGb
noncomputable abbrev aMe : Code := cR aHy
noncomputable abbrev aVv : Code := cR aMe
noncomputable abbrev aIp : Code := cL aVv
noncomputable abbrev kU : Code := cL aIp
noncomputable abbrev aIz : Code := cR kU
noncomputable abbrev dSp : Code := cR aIz
noncomputable abbrev cDt : Code := cL aIz
noncomputable abbrev bSx : Code := cL kU
noncomputable abbrev cMe : Code := cL aMe
noncomputable abbrev aXj : Code := cL aHy
noncomputable abbrev cFg : Code := cL aGb
noncomputable abbrev aUf : Code := cL aKt
noncomputable abbrev bZh : Code := cL aCr
noncomputable abbrev bWg : Code := cL aFj
noncomputable abbrev cLl : Code := cL aLg
noncomputable abbrev cBy : Code := cL aHk
noncomputable abbrev aUo : Code := cL aKs
noncomputable abbrev cNc : Code := cL aIs
noncomputable abbrev bTq : Code := cL kQ
noncomputable abbrev cLx : Code := cL aHi
noncomputable abbrev bWy : Code := cL aLc
noncomputable abbrev cLa : Code := cL kX
noncomputable abbrev cCj : Code := cL yU
noncomputable abbrev wR : Code := cL bIh
noncomputable abbrev aTq : Code := cR wR
noncomputable abbrev aKe : Code := cL aTq
noncomputable abbrev kJ : Code := cL aKe
noncomputable abbrev aHb : Code := cR kJ
noncomputable abbrev dRd : Code := cR aHb
noncomputable abbrev aHd : Code := cL aHb
noncomputable abbrev aEh : Code := cL aHd
noncomputable abbrev aKh : Code := cR aEh
noncomputable abbrev cNv : Code := cR aKh
noncomputable abbrev bOw : Code := cL aKh
noncomputable abbrev bQd : Code := cL aEh
noncomputable abbrev cCf : Code := cL kJ
noncomputable abbrev cGr : Code := cL wR
noncomputable abbrev bZd : Code := cL bDs
noncomputable abbrev bWv : Code := cL bCq
noncomputable abbrev bZk : Code := cL bFf
noncomputable abbrev cIe : Code := cL bBh
noncomputable abbrev bSj : Code := cL bCz
noncomputable abbrev cFh : Code := cL bIi
noncomputable abbrev bVh : Code := cL bIf
noncomputable abbrev aXl : Code := cL c25
noncomputable abbrev r25 : K := aQ CF Tryz.f25
noncomputable def D25 (r : RT) (n : Nat) (c : Code) (X : Nat → K) (k : K) : K := aP CF r 199 n c X r25 k
theorem dDx : D25 r n dOl x0 r25 = (K1 (aS r n) 9) :=
 (by kernel_rfl)
theorem cUl (kk12 : bT) (kk16 : bK) : D25 r n dQz (xs (xs (xs x0 2 (K1 (aS r n) 9)) 3 (K4 kk12 7 8 9 12)) 4 (K4 kk12 7 8 9 12)) (K5 kk16 7 8 9 12 13) = (K5 (aT r n kk12 kk16) 7 8 9 12 13) :=
 (by kernel_rfl)
theorem cXm (kk12 : bT) (kk16 : bK) (kk29 : TT8) : D25 r n dSp (xs (xs (xs (xs (xs x0 2 (K1 (aS r n) 9)) 3 (K4 kk12 7 8 9 12)) 4 (K4 kk12 7 8 9 12)) 5 (K5 (aT r n kk12 kk16) 7 8 9 12 13)) 6 (K5 (aT r n kk12 kk16) 7 8 9 12 13)) (K8 kk29 7 8 9 12 13 15 16 18) = (K8 (aCu r n kk12 kk16 kk29) 7 8 9 12 13 15 16 18) :=
 (by kernel_rfl)
theorem bWb (kk12 : bT) (kk16 : bK) (kk29 : TT8) : D25 r n aIz (xs (xs (xs (xs (xs x0 2 (K1 (aS r n) 9)) 3 (K4 kk12 7 8 9 12)) 4 (K4 kk12 7 8 9 12)) 5 (K5 (aT r n kk12 kk16) 7 8 9 12 13)) 6 (K5 (aT r n kk12 kk16) 7 8 9 12 13)) (K8 kk29 7 8 9 12 13 15 16 18) = D25 r n cDt (xs (xs (xs (xs (xs x0 2 (K1 (aS r n) 9)) 3 (K4 kk12 7 8 9 12)) 4 (K4 kk12 7 8 9 12)) 5 (K5 (aT r n kk12 kk16) 7 8 9 12 13)) 6 (K5 (aT r n kk12 kk16) 7 8 9 12 13)) (K8 (aCu r n kk12 kk16 kk29) 7 8 9 12 13 15 16 18) :=
 congrArg (fun k => D25 r n cDt (xs (xs (xs (xs (xs x0 2 (K1 (aS r n) 9)) 3 (K4 kk12 7 8 9 12)) 4 (K4 kk12 7 8 9 12)) 5 (K5 (aT r n kk12 kk16) 7 8 9 12 13)) 6 (K5 (aT r n kk12 kk16) 7 8 9 12 13)) k) (cXm r n kk12 kk16 kk29)
theorem cOk (kk12 : bT) (kk16 : bK) (kk29 : TT8) : D25 r n aIz (xs (xs (xs (xs (xs x0 2 (K1 (aS r n) 9)) 3 (K4 kk12 7 8 9 12)) 4 (K4 kk12 7 8 9 12)) 5 (K5 (aT r n kk12 kk16) 7 8 9 12 13)) 6 (K5 (aT r n kk12 kk16) 7 8 9 12 13)) (K8 kk29 7 8 9 12 13 15 16 18) = (K8 (aXk r n kk12 kk16 kk29) 7 8 9 12 13 15 16 18) :=
 (bWb r n kk12 kk16 kk29).trans
 ((by kernel_rfl))
theorem cKi (kk12 : bT) (kk16 : bK) (kk29 : TT8) : D25 r n kU (xs (xs (xs (xs (xs x0 2 (K1 (aS r n) 9)) 3 (K4 kk12 7 8 9 12)) 4 (K4 kk12 7 8 9 12)) 5 (K5 (aT r n kk12 kk16) 7 8 9 12 13)) 6 (K5 (aT r n kk12 kk16) 7 8 9 12 13)) (K8 kk29 7 8 9 12 13 15 16 18) = D25 r n bSx (xs (xs (xs (xs (xs x0 2 (K1 (aS r n) 9)) 3 (K4 kk12 7 8 9 12)) 4 (K4 kk12 7 8 9 12)) 5 (K5 (aT r n kk12 kk16) 7 8 9 12 13)) 6 (K5 (aT r n kk12 kk16) 7 8 9 12 13)) (K8 (aXk r n kk12 kk16 kk29) 7 8 9 12 13 15 16 18) :=
 congrArg (fun k => D25 r n bSx (xs (xs (xs (xs (xs x0 2 (K1 (aS r n) 9)) 3 (K4 kk12 7 8 9 12)) 4 (K4 kk12 7 8 9 12)) 5 (K5 (aT r n kk12 kk16) 7 8 9 12 13)) 6 (K5 (aT r n kk12 kk16) 7 8 9 12 13)) k) (cOk r n kk12 kk16 kk29)
theorem cCo (kk12 : bT) (kk16 : bK) (kk29 : TT8) : D25 r n kU (xs (xs (xs (xs (xs x0 2 (K1 (aS r n) 9)) 3 (K4 kk12 7 8 9 12)) 4 (K4 kk12 7 8 9 12)) 5 (K5 (aT r n kk12 kk16) 7 8 9 12 13)) 6 (K5 (aT r n kk12 kk16) 7 8 9 12 13)) (K8 kk29 7 8 9 12 13 15 16 18) = (K8 (aZp r n kk12 kk16 kk29) 7 8 9 12 13 15 16 18) :=
 (cKi r n kk12 kk16 kk29).trans
 ((by kernel_rfl))
theorem bVs (kk12 : bT) (kk16 : bK) (m : Nat) : aK (fun kk => D25 r n kU (xs (xs (xs (xs (xs x0 2 (K1 (aS r n) 9)) 3 (K4 kk12 7 8 9 12)) 4 (K4 kk12 7 8 9 12)) 5 (K5 (aT r n kk12 kk16) 7 8 9 12 13)) 6 (K5 (aT r n kk12 kk16) 7 8 9 12 13)) kk) m = (K8 (uP r n kk12 kk16 m) 7 8 9 12 13 15 16 18) := by
 induction m with
 | zero => exact (by kernel_rfl : aK (fun kk => D25 r n kU (xs (xs (xs (xs (xs x0 2 (K1 (aS r n) 9)) 3 (K4 kk12 7 8 9 12)) 4 (K4 kk12 7 8 9 12)) 5 (K5 (aT r n kk12 kk16) 7 8 9 12 13)) 6 (K5 (aT r n kk12 kk16) 7 8 9 12 13)) kk) 0 = (K8 (uP r n kk12 kk16 0) 7 8 9 12 13 15 16 18))
 | succ m ih =>
  refine (by kernel_rfl : aK (fun kk => D25 r n kU (xs (xs (xs (xs (xs x0 2 (K1 (aS r n) 9)) 3 (K4 kk12 7 8 9 12)) 4 (K4 kk12 7 8 9 12)) 5 (K5 (aT r n kk12 kk16) 7 8 9 12 13)) 6 (K5 (aT r n kk12 kk16) 7 8 9 12 13)) kk) (m + 1) = D25 r n kU (xs (xs (xs (xs (xs x0 2 (K1 (aS r n) 9)) 3 (K4 kk12 7 8 9 12)) 4 (K4 kk12 7 8 9 12)) 5 (K5 (aT r n kk12 kk16) 7 8 9 12 13)) 6 (K5 (aT r n kk12 kk16) 7 8 9 12 13)) (aK (fun kk => D25 r n kU (xs (xs (xs (xs (xs x0 2 (K1 (aS r n) 9)) 3 (K4 kk12 7 8 9 12)) 4 (K4 kk12 7 8 9 12)) 5 (K5 (aT r n kk12 kk16) 7 8 9 12 13)) 6 (K5 (aT r n kk12 kk16) 7 8 9 12 13)) kk) m)).trans ?_
  rw [ih]
  exact (cCo r n kk12 kk16 (uP r n kk12 kk16 m)).trans (by kernel_rfl)
theorem dAn (kk12 : bT) (kk16 : bK) : D25 r n aIp (xs (xs (xs (xs (xs x0 2 (K1 (aS r n) 9)) 3 (K4 kk12 7 8 9 12)) 4 (K4 kk12 7 8 9 12)) 5 (K5 (aT r n kk12 kk16) 7 8 9 12 13)) 6 (K5 (aT r n kk12 kk16) 7 8 9 12 13)) (K5 (aT r n kk12 kk16) 7 8 9 12 13) = (K8 (cNt r n kk12 kk16) 7 8 9 12 13 15 16 18) :=
 (by kernel_rfl : D25 r n aIp (xs (xs (xs (xs (xs x0 2 (K1 (aS r n) 9)) 3 (K4 kk12 7 8 9 12)) 4 (K4 kk12 7 8 9 12)) 5 (K5 (aT r n kk12 kk16) 7 8 9 12 13)) 6 (K5 (aT r n kk12 kk16) 7 8 9 12 13)) (K5 (aT r n kk12 kk16) 7 8 9 12 13) = aK (fun kk => D25 r n kU (xs (xs (xs (xs (xs x0 2 (K1 (aS r n) 9)) 3 (K4 kk12 7 8 9 12)) 4 (K4 kk12 7 8 9 12)) 5 (K5 (aT r n kk12 kk16) 7 8 9 12 13)) 6 (K5 (aT r n kk12 kk16) 7 8 9 12 13)) kk) n).trans ((bVs r n kk12 kk16 n).trans (by kernel_rfl))
theorem cWt (kk12 : bT) (kk16 : bK) : D25 r n aVv (xs (xs (xs (xs x0 2 (K1 (aS r n) 9)) 3 (K4 kk12 7 8 9 12)) 4 (K4 kk12 7 8 9 12)) 5 (K5 (aT r n kk12 kk16) 7 8 9 12 13)) (K5 (aT r n kk12 kk16) 7 8 9 12 13) = (K8 (aTk r n kk12 kk16) 7 8 9 12 13 15 16 18) :=
 (by kernel_rfl : D25 r n aVv (xs (xs (xs (xs x0 2 (K1 (aS r n) 9)) 3 (K4 kk12 7 8 9 12)) 4 (K4 kk12 7 8 9 12)) 5 (K5 (aT r n kk12 kk16) 7 8 9 12 13)) (K5 (aT r n kk12 kk16) 7 8 9 12 13) = D25 r n aIp (xs (xs (xs (xs (xs x0 2 (K1 (aS r n) 9)) 3 (K4 kk12 7 8 9 12)) 4 (K4 kk12 7 8 9 12)) 5 (K5 (aT r n kk12 kk16) 7 8 9 12 13)) 6 (K5 (aT r n kk12 kk16) 7 8 9 12 13)) (K5 (aT r n kk12 kk16) 7 8 9 12 13)).trans
 ((dAn r n kk12 kk16).trans (by kernel_rfl))
theorem cLt (kk12 : bT) (kk16 : bK) : D25 r n aMe (xs (xs (xs (xs x0 2 (K1 (aS r n) 9)) 3 (K4 kk12 7 8 9 12)) 4 (K4 kk12 7 8 9 12)) 5 (K5 (aT r n kk12 kk16) 7 8 9 12 13)) (K5 (aT r n kk12 kk16) 7 8 9 12 13) = D25 r n cMe (xs (xs (xs (xs x0 2 (K1 (aS r n) 9)) 3 (K4 kk12 7 8 9 12)) 4 (K4 kk12 7 8 9 12)) 5 (K5 (aT r n kk12 kk16) 7 8 9 12 13)) (K8 (aTk r n kk12 kk16) 7 8 9 12 13 15 16 18) :=
 congrArg (fun k => D25 r n cMe (xs (xs (xs (xs x0 2 (K1 (aS r n) 9)) 3 (K4 kk12 7 8 9 12)) 4 (K4 kk12 7 8 9 12)) 5 (K5 (aT r n kk12 kk16) 7 8 9 12 13)) k) (cWt r n kk12 kk16)
theorem cVt (kk12 : bT) (kk16 : bK) : D25 r n aMe (xs (xs (xs (xs x0 2 (K1 (aS r n) 9)) 3 (K4 kk12 7 8 9 12)) 4 (K4 kk12 7 8 9 12)) 5 (K5 (aT r n kk12 kk16) 7 8 9 12 13)) (K5 (aT r n kk12 kk16) 7 8 9 12 13) = (K7 (pQ r n kk12 kk16) 7 8 9 12 13 15 16) :=
 (cLt r n kk12 kk16).trans
 ((by kernel_rfl))
theorem bNs (kk12 : bT) (kk16 : bK) : D25 r n aHy (xs (xs (xs (xs x0 2 (K1 (aS r n) 9)) 3 (K4 kk12 7 8 9 12)) 4 (K4 kk12 7 8 9 12)) 5 (K5 (aT r n kk12 kk16) 7 8 9 12 13)) (K5 (aT r n kk12 kk16) 7 8 9 12 13) = D25 r n aXj (xs (xs (xs (xs x0 2 (K1 (aS r n) 9)) 3 (K4 kk12 7 8 9 12)) 4 (K4 kk12 7 8 9 12)) 5 (K5 (aT r n kk12 kk16) 7 8 9 12 13)) (K7 (pQ r n kk12 kk16) 7 8 9 12 13 15 16) :=
 congrArg (fun k => D25 r n aXj (xs (xs (xs (xs x0 2 (K1 (aS r n) 9)) 3 (K4 kk12 7 8 9 12)) 4 (K4 kk12 7 8 9 12)) 5 (K5 (aT r n kk12 kk16) 7 8 9 12 13)) k) (cVt r n kk12 kk16)
theorem bSo (kk12 : bT) (kk16 : bK) (q0 : TT7) (q1 : TT1) (q2 : bK) : D25 r n aXj (xs (xs (xs (xs x0 2 (K1 q1 9)) 3 (K4 kk12 7 8 9 12)) 4 (K4 kk12 7 8 9 12)) 5 (K5 q2 7 8 9 12 13)) (K7 q0 7 8 9 12 13 15 16) = fun (env : aZ) (h : Hp) =>
 bnd (aD .geq (env 17) (aF 0) h) fun v1 h1 =>
 aU v1 (
 bnd (aO [(aF 0)] 1 [(0, 1, (env 17))] h1) fun v2 h2 =>
 bnd (aW 1 8 (env 16) v2 h2) fun v3 h3 =>
      q0 (env 7) (env 8) (env 9) (env 12) (env 13) (env 15) v3 h3) (
      q0 (env 7) (env 8) (env 9) (env 12) (env 13) (env 15) (env 16) h1) := by kernel_rfl
theorem bKq (kk12 : bT) (kk16 : bK) : (fun (env : aZ) (h : Hp) =>
 bnd (aD .geq (env 17) (aF 0) h) fun v1 h1 =>
 aU v1 (
 bnd (aO [(aF 0)] 1 [(0, 1, (env 17))] h1) fun v2 h2 =>
 bnd (aW 1 8 (env 16) v2 h2) fun v3 h3 =>
      pQ r n kk12 kk16 (env 7) (env 8) (env 9) (env 12) (env 13) (env 15) v3 h3) (
      pQ r n kk12 kk16 (env 7) (env 8) (env 9) (env 12) (env 13) (env 15) (env 16) h1)) = (K8 (aDk r n kk12 kk16) 7 8 9 12 13 15 16 17) := by kernel_rfl
theorem cYz (kk12 : bT) (kk16 : bK) : D25 r n aHy (xs (xs (xs (xs x0 2 (K1 (aS r n) 9)) 3 (K4 kk12 7 8 9 12)) 4 (K4 kk12 7 8 9 12)) 5 (K5 (aT r n kk12 kk16) 7 8 9 12 13)) (K5 (aT r n kk12 kk16) 7 8 9 12 13) = (K8 (aDk r n kk12 kk16) 7 8 9 12 13 15 16 17) :=
 (bNs r n kk12 kk16).trans
 ((bSo r n kk12 kk16 (pQ r n kk12 kk16) (aS r n) (aT r n kk12 kk16)).trans (bKq r n kk12 kk16))
theorem cNn (kk12 : bT) (kk16 : bK) : D25 r n aGb (xs (xs (xs (xs x0 2 (K1 (aS r n) 9)) 3 (K4 kk12 7 8 9 12)) 4 (K4 kk12 7 8 9 12)) 5 (K5 (aT r n kk12 kk16) 7 8 9 12 13)) (K5 (aT r n kk12 kk16) 7 8 9 12 13) = D25 r n cFg (xs (xs (xs (xs x0 2 (K1 (aS r n) 9)) 3 (K4 kk12 7 8 9 12)) 4 (K4 kk12 7 8 9 12)) 5 (K5 (aT r n kk12 kk16) 7 8 9 12 13)) (K8 (aDk r n kk12 kk16) 7 8 9 12 13 15 16 17) :=
 congrArg (fun k => D25 r n cFg (xs (xs (xs (xs x0 2 (K1 (aS r n) 9)) 3 (K4 kk12 7 8 9 12)) 4 (K4 kk12 7 8 9 12)) 5 (K5 (aT r n kk12 kk16) 7 8 9 12 13)) k) (cYz r n kk12 kk16)
theorem cXz (kk12 : bT) (kk16 : bK) : D25 r n aGb (xs (xs (xs (xs x0 2 (K1 (aS r n) 9)) 3 (K4 kk12 7 8 9 12)) 4 (K4 kk12 7 8 9 12)) 5 (K5 (aT r n kk12 kk16) 7 8 9 12 13)) (K5 (aT r n kk12 kk16) 7 8 9 12 13) = (K8 (pP r n kk12 kk16) 7 8 9 12 13 14 15 16) :=
 (cNn r n kk12 kk16).trans
 ((by kernel_rfl))
theorem cAr (kk12 : bT) (kk16 : bK) : D25 r n aKt (xs (xs (xs (xs x0 2 (K1 (aS r n) 9)) 3 (K4 kk12 7 8 9 12)) 4 (K4 kk12 7 8 9 12)) 5 (K5 (aT r n kk12 kk16) 7 8 9 12 13)) (K5 (aT r n kk12 kk16) 7 8 9 12 13) = D25 r n aUf (xs (xs (xs (xs x0 2 (K1 (aS r n) 9)) 3 (K4 kk12 7 8 9 12)) 4 (K4 kk12 7 8 9 12)) 5 (K5 (aT r n kk12 kk16) 7 8 9 12 13)) (K8 (pP r n kk12 kk16) 7 8 9 12 13 14 15 16) :=
 congrArg (fun k => D25 r n aUf (xs (xs (xs (xs x0 2 (K1 (aS r n) 9)) 3 (K4 kk12 7 8 9 12)) 4 (K4 kk12 7 8 9 12)) 5 (K5 (aT r n kk12 kk16) 7 8 9 12 13)) k) (cXz r n kk12 kk16)
theorem cKz (kk12 : bT) (kk16 : bK) (q0 : TT8) (q1 : TT1) (q2 : bK) : D25 r n aUf (xs (xs (xs (xs x0 2 (K1 q1 9)) 3 (K4 kk12 7 8 9 12)) 4 (K4 kk12 7 8 9 12)) 5 (K5 q2 7 8 9 12 13)) (K8 q0 7 8 9 12 13 14 15 16) = fun (env : aZ) (h : Hp) =>
 bnd (aB 0 (env 14) h) fun v1 h1 =>
 bnd (aA v1 h1) fun v2 h2 =>
 bnd (aD .neq v2 (aF 16) h2) fun v3 h3 =>
 bnd (gD v3 true (aB 0 (env 14) h3) h3) fun v4 h4 =>
 bnd (gD v3 true (aA v4 h4) h4) fun v5 h5 =>
 bnd (gD v3 true (aD .neq v5 (aF 19) h5) h5) fun v6 h6 =>
 bnd (aN v3 v6 (.b false) h6) fun v7 h7 =>
 bnd (gD v7 true (aB 0 (env 14) h7) h7) fun v8 h8 =>
 bnd (gD v7 true (aA v8 h8) h8) fun v9 h9 =>
 bnd (gD v7 true (aD .neq v9 (aF 20) h9) h9) fun v10 h10 =>
 bnd (aN v7 v10 (.b false) h10) fun v11 h11 =>
 aU v11 (
 bnd (aD .add (env 13) (aF 1) h11) fun v12 h12 =>
 bnd (aO [(aF 0)] 1 [(0, 1, v12)] h12) fun v13 h13 =>
 bnd (aW 1 8 (env 16) v13 h13) fun v14 h14 =>
      q0 (env 7) (env 8) (env 9) (env 12) (env 13) (env 14) (env 15) v14 h14) (
      q0 (env 7) (env 8) (env 9) (env 12) (env 13) (env 14) (env 15) (env 16) h11) := by kernel_rfl
theorem bJx (kk12 : bT) (kk16 : bK) : (fun (env : aZ) (h : Hp) =>
 bnd (aB 0 (env 14) h) fun v1 h1 =>
 bnd (aA v1 h1) fun v2 h2 =>
 bnd (aD .neq v2 (aF 16) h2) fun v3 h3 =>
 bnd (gD v3 true (aB 0 (env 14) h3) h3) fun v4 h4 =>
 bnd (gD v3 true (aA v4 h4) h4) fun v5 h5 =>
 bnd (gD v3 true (aD .neq v5 (aF 19) h5) h5) fun v6 h6 =>
 bnd (aN v3 v6 (.b false) h6) fun v7 h7 =>
 bnd (gD v7 true (aB 0 (env 14) h7) h7) fun v8 h8 =>
 bnd (gD v7 true (aA v8 h8) h8) fun v9 h9 =>
 bnd (gD v7 true (aD .neq v9 (aF 20) h9) h9) fun v10 h10 =>
 bnd (aN v7 v10 (.b false) h10) fun v11 h11 =>
 aU v11 (
 bnd (aD .add (env 13) (aF 1) h11) fun v12 h12 =>
 bnd (aO [(aF 0)] 1 [(0, 1, v12)] h12) fun v13 h13 =>
 bnd (aW 1 8 (env 16) v13 h13) fun v14 h14 =>
      pP r n kk12 kk16 (env 7) (env 8) (env 9) (env 12) (env 13) (env 14) (env 15) v14 h14) (
      pP r n kk12 kk16 (env 7) (env 8) (env 9) (env 12) (env 13) (env 14) (env 15) (env 16) h11)) = (K8 (aEt r n kk12 kk16) 7 8 9 12 13 14 15 16) := by kernel_rfl
theorem dBr (kk12 : bT) (kk16 : bK) : D25 r n aKt (xs (xs (xs (xs x0 2 (K1 (aS r n) 9)) 3 (K4 kk12 7 8 9 12)) 4 (K4 kk12 7 8 9 12)) 5 (K5 (aT r n kk12 kk16) 7 8 9 12 13)) (K5 (aT r n kk12 kk16) 7 8 9 12 13) = (K8 (aEt r n kk12 kk16) 7 8 9 12 13 14 15 16) :=
 (cAr r n kk12 kk16).trans
 ((cKz r n kk12 kk16 (pP r n kk12 kk16) (aS r n) (aT r n kk12 kk16)).trans (bJx r n kk12 kk16))
theorem cBp (kk12 : bT) (kk16 : bK) : D25 r n aCr (xs (xs (xs (xs x0 2 (K1 (aS r n) 9)) 3 (K4 kk12 7 8 9 12)) 4 (K4 kk12 7 8 9 12)) 5 (K5 (aT r n kk12 kk16) 7 8 9 12 13)) (K5 (aT r n kk12 kk16) 7 8 9 12 13) = D25 r n bZh (xs (xs (xs (xs x0 2 (K1 (aS r n) 9)) 3 (K4 kk12 7 8 9 12)) 4 (K4 kk12 7 8 9 12)) 5 (K5 (aT r n kk12 kk16) 7 8 9 12 13)) (K8 (aEt r n kk12 kk16) 7 8 9 12 13 14 15 16) :=
 congrArg (fun k => D25 r n bZh (xs (xs (xs (xs x0 2 (K1 (aS r n) 9)) 3 (K4 kk12 7 8 9 12)) 4 (K4 kk12 7 8 9 12)) 5 (K5 (aT r n kk12 kk16) 7 8 9 12 13)) k) (dBr r n kk12 kk16)
theorem cZw (kk12 : bT) (kk16 : bK) : D25 r n aCr (xs (xs (xs (xs x0 2 (K1 (aS r n) 9)) 3 (K4 kk12 7 8 9 12)) 4 (K4 kk12 7 8 9 12)) 5 (K5 (aT r n kk12 kk16) 7 8 9 12 13)) (K5 (aT r n kk12 kk16) 7 8 9 12 13) = (K7 (aRz r n kk12 kk16) 7 8 9 12 13 14 15) :=
 (cBp r n kk12 kk16).trans
 ((by kernel_rfl))
theorem bJp (kk12 : bT) (kk16 : bK) : D25 r n aFj (xs (xs (xs (xs x0 2 (K1 (aS r n) 9)) 3 (K4 kk12 7 8 9 12)) 4 (K4 kk12 7 8 9 12)) 5 (K5 (aT r n kk12 kk16) 7 8 9 12 13)) (K5 (aT r n kk12 kk16) 7 8 9 12 13) = D25 r n bWg (xs (xs (xs (xs x0 2 (K1 (aS r n) 9)) 3 (K4 kk12 7 8 9 12)) 4 (K4 kk12 7 8 9 12)) 5 (K5 (aT r n kk12 kk16) 7 8 9 12 13)) (K7 (aRz r n kk12 kk16) 7 8 9 12 13 14 15) :=
 congrArg (fun k => D25 r n bWg (xs (xs (xs (xs x0 2 (K1 (aS r n) 9)) 3 (K4 kk12 7 8 9 12)) 4 (K4 kk12 7 8 9 12)) 5 (K5 (aT r n kk12 kk16) 7 8 9 12 13)) k) (cZw r n kk12 kk16)
theorem cUx (kk12 : bT) (kk16 : bK) : D25 r n aFj (xs (xs (xs (xs x0 2 (K1 (aS r n) 9)) 3 (K4 kk12 7 8 9 12)) 4 (K4 kk12 7 8 9 12)) 5 (K5 (aT r n kk12 kk16) 7 8 9 12 13)) (K5 (aT r n kk12 kk16) 7 8 9 12 13) = (K7 (aRf r n kk12 kk16) 7 8 9 12 13 14 15) :=
 (bJp r n kk12 kk16).trans
 ((by kernel_rfl))
theorem bJu (kk12 : bT) (kk16 : bK) : D25 r n aLg (xs (xs (xs (xs x0 2 (K1 (aS r n) 9)) 3 (K4 kk12 7 8 9 12)) 4 (K4 kk12 7 8 9 12)) 5 (K5 (aT r n kk12 kk16) 7 8 9 12 13)) (K5 (aT r n kk12 kk16) 7 8 9 12 13) = D25 r n cLl (xs (xs (xs (xs x0 2 (K1 (aS r n) 9)) 3 (K4 kk12 7 8 9 12)) 4 (K4 kk12 7 8 9 12)) 5 (K5 (aT r n kk12 kk16) 7 8 9 12 13)) (K7 (aRf r n kk12 kk16) 7 8 9 12 13 14 15) :=
 congrArg (fun k => D25 r n cLl (xs (xs (xs (xs x0 2 (K1 (aS r n) 9)) 3 (K4 kk12 7 8 9 12)) 4 (K4 kk12 7 8 9 12)) 5 (K5 (aT r n kk12 kk16) 7 8 9 12 13)) k) (cUx r n kk12 kk16)
theorem cTs (kk12 : bT) (kk16 : bK) : D25 r n aLg (xs (xs (xs (xs x0 2 (K1 (aS r n) 9)) 3 (K4 kk12 7 8 9 12)) 4 (K4 kk12 7 8 9 12)) 5 (K5 (aT r n kk12 kk16) 7 8 9 12 13)) (K5 (aT r n kk12 kk16) 7 8 9 12 13) = (K7 (aRo r n kk12 kk16) 7 8 9 12 13 14 15) :=
 (bJu r n kk12 kk16).trans
 ((by kernel_rfl))
theorem bIv (kk12 : bT) (kk16 : bK) : D25 r n aHk (xs (xs (xs (xs x0 2 (K1 (aS r n) 9)) 3 (K4 kk12 7 8 9 12)) 4 (K4 kk12 7 8 9 12)) 5 (K5 (aT r n kk12 kk16) 7 8 9 12 13)) (K5 (aT r n kk12 kk16) 7 8 9 12 13) = D25 r n cBy (xs (xs (xs (xs x0 2 (K1 (aS r n) 9)) 3 (K4 kk12 7 8 9 12)) 4 (K4 kk12 7 8 9 12)) 5 (K5 (aT r n kk12 kk16) 7 8 9 12 13)) (K7 (aRo r n kk12 kk16) 7 8 9 12 13 14 15) :=
 congrArg (fun k => D25 r n cBy (xs (xs (xs (xs x0 2 (K1 (aS r n) 9)) 3 (K4 kk12 7 8 9 12)) 4 (K4 kk12 7 8 9 12)) 5 (K5 (aT r n kk12 kk16) 7 8 9 12 13)) k) (cTs r n kk12 kk16)
theorem cYa (kk12 : bT) (kk16 : bK) : D25 r n aHk (xs (xs (xs (xs x0 2 (K1 (aS r n) 9)) 3 (K4 kk12 7 8 9 12)) 4 (K4 kk12 7 8 9 12)) 5 (K5 (aT r n kk12 kk16) 7 8 9 12 13)) (K5 (aT r n kk12 kk16) 7 8 9 12 13) = (K6 (wS r n kk12 kk16) 7 8 9 12 13 14) :=
 (bIv r n kk12 kk16).trans
 ((by kernel_rfl))
theorem bKi (kk12 : bT) (kk16 : bK) : D25 r n aKs (xs (xs (xs (xs x0 2 (K1 (aS r n) 9)) 3 (K4 kk12 7 8 9 12)) 4 (K4 kk12 7 8 9 12)) 5 (K5 (aT r n kk12 kk16) 7 8 9 12 13)) (K5 (aT r n kk12 kk16) 7 8 9 12 13) = D25 r n aUo (xs (xs (xs (xs x0 2 (K1 (aS r n) 9)) 3 (K4 kk12 7 8 9 12)) 4 (K4 kk12 7 8 9 12)) 5 (K5 (aT r n kk12 kk16) 7 8 9 12 13)) (K6 (wS r n kk12 kk16) 7 8 9 12 13 14) :=
 congrArg (fun k => D25 r n aUo (xs (xs (xs (xs x0 2 (K1 (aS r n) 9)) 3 (K4 kk12 7 8 9 12)) 4 (K4 kk12 7 8 9 12)) 5 (K5 (aT r n kk12 kk16) 7 8 9 12 13)) k) (cYa r n kk12 kk16)
theorem bNf (kk12 : bT) (kk16 : bK) (q0 : gX) (q1 : TT1) (q2 : bK) : D25 r n aUo (xs (xs (xs (xs x0 2 (K1 q1 9)) 3 (K4 kk12 7 8 9 12)) 4 (K4 kk12 7 8 9 12)) 5 (K5 q2 7 8 9 12 13)) (K6 q0 7 8 9 12 13 14) = fun (env : aZ) (h : Hp) =>
 bnd (aC 3 (env 7) (env 13) h) fun v1 h1 =>
 bnd (aL 3 v1 h1) fun v2 h2 =>
 bnd (bS [(aF 0), (aF 0), (aF 0)] h2) fun v3 h3 =>
 bnd (aJ 3 v3 v2 h3) fun _ h4 =>
  q0 (env 7) (env 8) (env 9) (env 12) (env 13) v3 h4 := by kernel_rfl
theorem aVm (kk12 : bT) (kk16 : bK) : (fun (env : aZ) (h : Hp) =>
 bnd (aC 3 (env 7) (env 13) h) fun v1 h1 =>
 bnd (aL 3 v1 h1) fun v2 h2 =>
 bnd (bS [(aF 0), (aF 0), (aF 0)] h2) fun v3 h3 =>
 bnd (aJ 3 v3 v2 h3) fun _ h4 =>
  wS r n kk12 kk16 (env 7) (env 8) (env 9) (env 12) (env 13) v3 h4) = (K5 (aJq r n kk12 kk16) 7 8 9 12 13) := by kernel_rfl
theorem cSt (kk12 : bT) (kk16 : bK) : D25 r n aKs (xs (xs (xs (xs x0 2 (K1 (aS r n) 9)) 3 (K4 kk12 7 8 9 12)) 4 (K4 kk12 7 8 9 12)) 5 (K5 (aT r n kk12 kk16) 7 8 9 12 13)) (K5 (aT r n kk12 kk16) 7 8 9 12 13) = (K5 (aJq r n kk12 kk16) 7 8 9 12 13) :=
 (bKi r n kk12 kk16).trans
 ((bNf r n kk12 kk16 (wS r n kk12 kk16) (aS r n) (aT r n kk12 kk16)).trans (aVm r n kk12 kk16))
theorem bKx (kk12 : bT) (kk16 : bK) : D25 r n aEl (xs (xs (xs x0 2 (K1 (aS r n) 9)) 3 (K4 kk12 7 8 9 12)) 4 (K4 kk12 7 8 9 12)) (K5 kk16 7 8 9 12 13) = D25 r n aEy (xs (xs (xs x0 2 (K1 (aS r n) 9)) 3 (K4 kk12 7 8 9 12)) 4 (K4 kk12 7 8 9 12)) (K5 (aT r n kk12 kk16) 7 8 9 12 13) :=
 congrArg (fun k => D25 r n aEy (xs (xs (xs x0 2 (K1 (aS r n) 9)) 3 (K4 kk12 7 8 9 12)) 4 (K4 kk12 7 8 9 12)) k) (cUl r n kk12 kk16)
theorem bMu (kk12 : bT) (kk16 : bK) : D25 r n aIs (xs (xs (xs (xs x0 2 (K1 (aS r n) 9)) 3 (K4 kk12 7 8 9 12)) 4 (K4 kk12 7 8 9 12)) 5 (K5 (aT r n kk12 kk16) 7 8 9 12 13)) (K5 (aT r n kk12 kk16) 7 8 9 12 13) = D25 r n cNc (xs (xs (xs (xs x0 2 (K1 (aS r n) 9)) 3 (K4 kk12 7 8 9 12)) 4 (K4 kk12 7 8 9 12)) 5 (K5 (aT r n kk12 kk16) 7 8 9 12 13)) (K5 (aJq r n kk12 kk16) 7 8 9 12 13) :=
 congrArg (fun k => D25 r n cNc (xs (xs (xs (xs x0 2 (K1 (aS r n) 9)) 3 (K4 kk12 7 8 9 12)) 4 (K4 kk12 7 8 9 12)) 5 (K5 (aT r n kk12 kk16) 7 8 9 12 13)) k) (cSt r n kk12 kk16)
theorem cTt (kk12 : bT) (kk16 : bK) : D25 r n aEl (xs (xs (xs x0 2 (K1 (aS r n) 9)) 3 (K4 kk12 7 8 9 12)) 4 (K4 kk12 7 8 9 12)) (K5 kk16 7 8 9 12 13) = (K5 (aWb r n kk12 kk16) 7 8 9 12 13) :=
 (bKx r n kk12 kk16).trans
 ((by kernel_rfl : D25 r n aEy (xs (xs (xs x0 2 (K1 (aS r n) 9)) 3 (K4 kk12 7 8 9 12)) 4 (K4 kk12 7 8 9 12)) (K5 (aT r n kk12 kk16) 7 8 9 12 13) = D25 r n aIs (xs (xs (xs (xs x0 2 (K1 (aS r n) 9)) 3 (K4 kk12 7 8 9 12)) 4 (K4 kk12 7 8 9 12)) 5 (K5 (aT r n kk12 kk16) 7 8 9 12 13)) (K5 (aT r n kk12 kk16) 7 8 9 12 13)).trans
 ((bMu r n kk12 kk16).trans
 ((by kernel_rfl))))
theorem bMi (kk12 : bT) (kk16 : bK) : D25 r n kQ (xs (xs (xs x0 2 (K1 (aS r n) 9)) 3 (K4 kk12 7 8 9 12)) 4 (K4 kk12 7 8 9 12)) (K5 kk16 7 8 9 12 13) = D25 r n bTq (xs (xs (xs x0 2 (K1 (aS r n) 9)) 3 (K4 kk12 7 8 9 12)) 4 (K4 kk12 7 8 9 12)) (K5 (aWb r n kk12 kk16) 7 8 9 12 13) :=
 congrArg (fun k => D25 r n bTq (xs (xs (xs x0 2 (K1 (aS r n) 9)) 3 (K4 kk12 7 8 9 12)) 4 (K4 kk12 7 8 9 12)) k) (cTt r n kk12 kk16)
theorem bXg (kk12 : bT) (kk16 : bK) : D25 r n kQ (xs (xs (xs x0 2 (K1 (aS r n) 9)) 3 (K4 kk12 7 8 9 12)) 4 (K4 kk12 7 8 9 12)) (K5 kk16 7 8 9 12 13) = (K5 (bEn r n kk12 kk16) 7 8 9 12 13) :=
 (bMi r n kk12 kk16).trans
 ((by kernel_rfl))
theorem bXe (kk12 : bT) (m : Nat) : aK (fun kk => D25 r n kQ (xs (xs (xs x0 2 (K1 (aS r n) 9)) 3 (K4 kk12 7 8 9 12)) 4 (K4 kk12 7 8 9 12)) kk) m = (K5 (vX r n kk12 m) 7 8 9 12 13) := by
 induction m with
 | zero => exact (by kernel_rfl : aK (fun kk => D25 r n kQ (xs (xs (xs x0 2 (K1 (aS r n) 9)) 3 (K4 kk12 7 8 9 12)) 4 (K4 kk12 7 8 9 12)) kk) 0 = (K5 (vX r n kk12 0) 7 8 9 12 13))
 | succ m ih =>
  refine (by kernel_rfl : aK (fun kk => D25 r n kQ (xs (xs (xs x0 2 (K1 (aS r n) 9)) 3 (K4 kk12 7 8 9 12)) 4 (K4 kk12 7 8 9 12)) kk) (m + 1) = D25 r n kQ (xs (xs (xs x0 2 (K1 (aS r n) 9)) 3 (K4 kk12 7 8 9 12)) 4 (K4 kk12 7 8 9 12)) (aK (fun kk => D25 r n kQ (xs (xs (xs x0 2 (K1 (aS r n) 9)) 3 (K4 kk12 7 8 9 12)) 4 (K4 kk12 7 8 9 12)) kk) m)).trans ?_
  rw [ih]
  exact (bXg r n kk12 (vX r n kk12 m)).trans (by kernel_rfl)
theorem cUy (kk12 : bT) : D25 r n aLe (xs (xs (xs x0 2 (K1 (aS r n) 9)) 3 (K4 kk12 7 8 9 12)) 4 (K4 kk12 7 8 9 12)) (K4 kk12 7 8 9 12) = (K5 (bXb r n kk12) 7 8 9 12 13) :=
 (by kernel_rfl : D25 r n aLe (xs (xs (xs x0 2 (K1 (aS r n) 9)) 3 (K4 kk12 7 8 9 12)) 4 (K4 kk12 7 8 9 12)) (K4 kk12 7 8 9 12) = aK (fun kk => D25 r n kQ (xs (xs (xs x0 2 (K1 (aS r n) 9)) 3 (K4 kk12 7 8 9 12)) 4 (K4 kk12 7 8 9 12)) kk) n).trans ((bXe r n kk12 n).trans (by kernel_rfl))
theorem dDg (kk12 : bT) : D25 r n aWj (xs (xs x0 2 (K1 (aS r n) 9)) 3 (K4 kk12 7 8 9 12)) (K4 kk12 7 8 9 12) = (K5 (aSh r n kk12) 7 8 9 12 13) :=
 (by kernel_rfl : D25 r n aWj (xs (xs x0 2 (K1 (aS r n) 9)) 3 (K4 kk12 7 8 9 12)) (K4 kk12 7 8 9 12) = D25 r n aLe (xs (xs (xs x0 2 (K1 (aS r n) 9)) 3 (K4 kk12 7 8 9 12)) 4 (K4 kk12 7 8 9 12)) (K4 kk12 7 8 9 12)).trans
 ((cUy r n kk12).trans (by kernel_rfl))
theorem bKl (kk12 : bT) : D25 r n aHi (xs (xs x0 2 (K1 (aS r n) 9)) 3 (K4 kk12 7 8 9 12)) (K4 kk12 7 8 9 12) = D25 r n cLx (xs (xs x0 2 (K1 (aS r n) 9)) 3 (K4 kk12 7 8 9 12)) (K5 (aSh r n kk12) 7 8 9 12 13) :=
 congrArg (fun k => D25 r n cLx (xs (xs x0 2 (K1 (aS r n) 9)) 3 (K4 kk12 7 8 9 12)) k) (dDg r n kk12)
theorem cXl (kk12 : bT) : D25 r n aHi (xs (xs x0 2 (K1 (aS r n) 9)) 3 (K4 kk12 7 8 9 12)) (K4 kk12 7 8 9 12) = (K4 (aRq r n kk12) 7 8 9 12) :=
 (bKl r n kk12).trans
 ((by kernel_rfl))
theorem bNp (kk12 : bT) : D25 r n aLc (xs (xs x0 2 (K1 (aS r n) 9)) 3 (K4 kk12 7 8 9 12)) (K4 kk12 7 8 9 12) = D25 r n bWy (xs (xs x0 2 (K1 (aS r n) 9)) 3 (K4 kk12 7 8 9 12)) (K4 (aRq r n kk12) 7 8 9 12) :=
 congrArg (fun k => D25 r n bWy (xs (xs x0 2 (K1 (aS r n) 9)) 3 (K4 kk12 7 8 9 12)) k) (cXl r n kk12)
theorem cSl (kk12 : bT) : D25 r n aSe (xs x0 2 (K1 (aS r n) 9)) (K4 kk12 7 8 9 12) = (K3 (aXz r n kk12) 7 8 9) :=
 (by kernel_rfl : D25 r n aSe (xs x0 2 (K1 (aS r n) 9)) (K4 kk12 7 8 9 12) = D25 r n aLc (xs (xs x0 2 (K1 (aS r n) 9)) 3 (K4 kk12 7 8 9 12)) (K4 kk12 7 8 9 12)).trans
 ((bNp r n kk12).trans
 ((by kernel_rfl)))
theorem bNj (kk12 : bT) : D25 r n kX (xs x0 2 (K1 (aS r n) 9)) (K4 kk12 7 8 9 12) = D25 r n cLa (xs x0 2 (K1 (aS r n) 9)) (K3 (aXz r n kk12) 7 8 9) :=
 congrArg (fun k => D25 r n cLa (xs x0 2 (K1 (aS r n) 9)) k) (cSl r n kk12)
theorem bQl (kk12 : bT) : D25 r n kX (xs x0 2 (K1 (aS r n) 9)) (K4 kk12 7 8 9 12) = (K4 (bBc r n kk12) 7 8 9 12) :=
 (bNj r n kk12).trans
 ((by kernel_rfl))
theorem bOh (m : Nat) : aK (fun kk => D25 r n kX (xs x0 2 (K1 (aS r n) 9)) kk) m = (K4 (vC r n m) 7 8 9 12) := by
 induction m with
 | zero => exact (by kernel_rfl : aK (fun kk => D25 r n kX (xs x0 2 (K1 (aS r n) 9)) kk) 0 = (K4 (vC r n 0) 7 8 9 12))
 | succ m ih =>
  refine (by kernel_rfl : aK (fun kk => D25 r n kX (xs x0 2 (K1 (aS r n) 9)) kk) (m + 1) = D25 r n kX (xs x0 2 (K1 (aS r n) 9)) (aK (fun kk => D25 r n kX (xs x0 2 (K1 (aS r n) 9)) kk) m)).trans ?_
  rw [ih]
  exact (bQl r n (vC r n m)).trans (by kernel_rfl)
theorem dEp : D25 r n aLp (xs x0 2 (K1 (aS r n) 9)) (K1 (aS r n) 9) = (K4 (cFp r n) 7 8 9 12) :=
 (by kernel_rfl : D25 r n aLp (xs x0 2 (K1 (aS r n) 9)) (K1 (aS r n) 9) = aK (fun kk => D25 r n kX (xs x0 2 (K1 (aS r n) 9)) kk) n).trans ((bOh r n n).trans (by kernel_rfl))
theorem dCh : D25 r n aSi x0 (K1 (aS r n) 9) = (K4 (aYn r n) 7 8 9 12) :=
 (by kernel_rfl : D25 r n aSi x0 (K1 (aS r n) 9) = D25 r n aLp (xs x0 2 (K1 (aS r n) 9)) (K1 (aS r n) 9)).trans
 ((dEp r n).trans (by kernel_rfl))
theorem bYn : D25 r n bHk x0 r25 = D25 r n yU x0 (K1 (aS r n) 9) :=
 congrArg (fun k => D25 r n yU x0 k) (dDx r n)
theorem bOu : D25 r n yU x0 (K1 (aS r n) 9) = D25 r n cCj x0 (K4 (aYn r n) 7 8 9 12) :=
 congrArg (fun k => D25 r n cCj x0 k) (dCh r n)
theorem dRv : D25 r n bHk x0 r25 = (K3 (dC r n) 7 8 9) :=
 (bYn r n).trans
 ((bOu r n).trans
 ((by kernel_rfl)))
theorem dAl (kk33 : bT) : D25 r n dRd (xs x0 0 (K3 (dC r n) 7 8 9)) (K4 kk33 7 8 9 10) = (K4 (eL r n kk33) 7 8 9 10) :=
 (by kernel_rfl)
theorem bLq (kk33 : bT) (q0 : bT) (q1 : bZ) : D25 r n cNv (xs (xs x0 0 (K3 q1 7 8 9)) 1 (K4 q0 7 8 9 10)) (K4 q0 7 8 9 10) = fun (env : aZ) (h : Hp) =>
 bnd (aO [(aF 0)] 1 [(0, 1, (env 11))] h) fun v1 h1 =>
 bnd (aW 1 8 (env 9) v1 h1) fun v2 h2 =>
  q0 (env 7) (env 8) v2 (env 10) h2 := by kernel_rfl
theorem aUb (kk33 : bT) : (fun (env : aZ) (h : Hp) =>
 bnd (aO [(aF 0)] 1 [(0, 1, (env 11))] h) fun v1 h1 =>
 bnd (aW 1 8 (env 9) v1 h1) fun v2 h2 =>
  eL r n kk33 (env 7) (env 8) v2 (env 10) h2) = (K5 (aAc r n kk33) 7 8 9 10 11) := by kernel_rfl
theorem dBb (kk33 : bT) : D25 r n cNv (xs (xs x0 0 (K3 (dC r n) 7 8 9)) 1 (K4 (eL r n kk33) 7 8 9 10)) (K4 (eL r n kk33) 7 8 9 10) = (K5 (aAc r n kk33) 7 8 9 10 11) :=
 (bLq r n kk33 (eL r n kk33) (dC r n)).trans (aUb r n kk33)
theorem bMg (kk33 : bT) : D25 r n aKh (xs (xs x0 0 (K3 (dC r n) 7 8 9)) 1 (K4 (eL r n kk33) 7 8 9 10)) (K4 (eL r n kk33) 7 8 9 10) = D25 r n bOw (xs (xs x0 0 (K3 (dC r n) 7 8 9)) 1 (K4 (eL r n kk33) 7 8 9 10)) (K5 (aAc r n kk33) 7 8 9 10 11) :=
 congrArg (fun k => D25 r n bOw (xs (xs x0 0 (K3 (dC r n) 7 8 9)) 1 (K4 (eL r n kk33) 7 8 9 10)) k) (dBb r n kk33)
theorem dCt (kk33 : bT) : D25 r n aKh (xs (xs x0 0 (K3 (dC r n) 7 8 9)) 1 (K4 (eL r n kk33) 7 8 9 10)) (K4 (eL r n kk33) 7 8 9 10) = (K5 (aRr r n kk33) 7 8 9 10 11) :=
 (bMg r n kk33).trans
 ((by kernel_rfl))
theorem bMe (kk33 : bT) : D25 r n aHb (xs x0 0 (K3 (dC r n) 7 8 9)) (K4 kk33 7 8 9 10) = D25 r n aHd (xs x0 0 (K3 (dC r n) 7 8 9)) (K4 (eL r n kk33) 7 8 9 10) :=
 congrArg (fun k => D25 r n aHd (xs x0 0 (K3 (dC r n) 7 8 9)) k) (dAl r n kk33)
theorem bNb (kk33 : bT) : D25 r n aEh (xs (xs x0 0 (K3 (dC r n) 7 8 9)) 1 (K4 (eL r n kk33) 7 8 9 10)) (K4 (eL r n kk33) 7 8 9 10) = D25 r n bQd (xs (xs x0 0 (K3 (dC r n) 7 8 9)) 1 (K4 (eL r n kk33) 7 8 9 10)) (K5 (aRr r n kk33) 7 8 9 10 11) :=
 congrArg (fun k => D25 r n bQd (xs (xs x0 0 (K3 (dC r n) 7 8 9)) 1 (K4 (eL r n kk33) 7 8 9 10)) k) (dCt r n kk33)
theorem cPe (kk33 : bT) : D25 r n aHb (xs x0 0 (K3 (dC r n) 7 8 9)) (K4 kk33 7 8 9 10) = (K4 (aVz r n kk33) 7 8 9 10) :=
 (bMe r n kk33).trans
 ((by kernel_rfl : D25 r n aHd (xs x0 0 (K3 (dC r n) 7 8 9)) (K4 (eL r n kk33) 7 8 9 10) = D25 r n aEh (xs (xs x0 0 (K3 (dC r n) 7 8 9)) 1 (K4 (eL r n kk33) 7 8 9 10)) (K4 (eL r n kk33) 7 8 9 10)).trans
 ((bNb r n kk33).trans
 ((by kernel_rfl))))
theorem bKv (kk33 : bT) : D25 r n kJ (xs x0 0 (K3 (dC r n) 7 8 9)) (K4 kk33 7 8 9 10) = D25 r n cCf (xs x0 0 (K3 (dC r n) 7 8 9)) (K4 (aVz r n kk33) 7 8 9 10) :=
 congrArg (fun k => D25 r n cCf (xs x0 0 (K3 (dC r n) 7 8 9)) k) (cPe r n kk33)
theorem bQm (kk33 : bT) : D25 r n kJ (xs x0 0 (K3 (dC r n) 7 8 9)) (K4 kk33 7 8 9 10) = (K4 (bDz r n kk33) 7 8 9 10) :=
 (bKv r n kk33).trans
 ((by kernel_rfl))
theorem bWz (m : Nat) : aK (fun kk => D25 r n kJ (xs x0 0 (K3 (dC r n) 7 8 9)) kk) m = (K4 (uJ r n m) 7 8 9 10) := by
 induction m with
 | zero => exact (by kernel_rfl : aK (fun kk => D25 r n kJ (xs x0 0 (K3 (dC r n) 7 8 9)) kk) 0 = (K4 (uJ r n 0) 7 8 9 10))
 | succ m ih =>
  refine (by kernel_rfl : aK (fun kk => D25 r n kJ (xs x0 0 (K3 (dC r n) 7 8 9)) kk) (m + 1) = D25 r n kJ (xs x0 0 (K3 (dC r n) 7 8 9)) (aK (fun kk => D25 r n kJ (xs x0 0 (K3 (dC r n) 7 8 9)) kk) m)).trans ?_
  rw [ih]
  exact (bQm r n (uJ r n m)).trans (by kernel_rfl)
theorem cUu : D25 r n aKe (xs x0 0 (K3 (dC r n) 7 8 9)) (K3 (dC r n) 7 8 9) = (K4 (bUf r n) 7 8 9 10) :=
 (by kernel_rfl : D25 r n aKe (xs x0 0 (K3 (dC r n) 7 8 9)) (K3 (dC r n) 7 8 9) = aK (fun kk => D25 r n kJ (xs x0 0 (K3 (dC r n) 7 8 9)) kk) n).trans ((bWz r n n).trans (by kernel_rfl))
theorem cRe : D25 r n aTq x0 (K3 (dC r n) 7 8 9) = (K4 (aVp r n) 7 8 9 10) :=
 (by kernel_rfl : D25 r n aTq x0 (K3 (dC r n) 7 8 9) = D25 r n aKe (xs x0 0 (K3 (dC r n) 7 8 9)) (K3 (dC r n) 7 8 9)).trans
 ((cUu r n).trans (by kernel_rfl))
theorem bPw : D25 r n bIh x0 r25 = D25 r n wR x0 (K3 (dC r n) 7 8 9) :=
 congrArg (fun k => D25 r n wR x0 k) (dRv r n)
theorem bUw : D25 r n wR x0 (K3 (dC r n) 7 8 9) = D25 r n cGr x0 (K4 (aVp r n) 7 8 9 10) :=
 congrArg (fun k => D25 r n cGr x0 k) (cRe r n)
theorem dLp : D25 r n bIh x0 r25 = (K3 (cKm r n) 7 8 9) :=
 (bPw r n).trans
 ((bUw r n).trans
 ((by kernel_rfl)))
theorem bRk : D25 r n bDs x0 r25 = D25 r n bZd x0 (K3 (cKm r n) 7 8 9) :=
 congrArg (fun k => D25 r n bZd x0 k) (dLp r n)
theorem dTr : D25 r n bDs x0 r25 = (K2 (cKu r n) 7 8) :=
 (bRk r n).trans
 ((by kernel_rfl))
theorem cJv : D25 r n bCq x0 r25 = D25 r n bWv x0 (K2 (cKu r n) 7 8) :=
 congrArg (fun k => D25 r n bWv x0 k) (dTr r n)
theorem dOd : D25 r n bCq x0 r25 = (K3 (bWh r n) 6 7 8) :=
 (cJv r n).trans
 ((by kernel_rfl))
theorem bPy : D25 r n bFf x0 r25 = D25 r n bZk x0 (K3 (bWh r n) 6 7 8) :=
 congrArg (fun k => D25 r n bZk x0 k) (dOd r n)
theorem dJr : D25 r n bFf x0 r25 = (K2 (bYa r n) 7 8) :=
 (bPy r n).trans
 ((by kernel_rfl))
theorem bTl : D25 r n bBh x0 r25 = D25 r n cIe x0 (K2 (bYa r n) 7 8) :=
 congrArg (fun k => D25 r n cIe x0 k) (dJr r n)
theorem dQk : D25 r n bBh x0 r25 = (K1 (cCd r n) 7) :=
 (bTl r n).trans
 ((by kernel_rfl))
theorem bRb : D25 r n bCz x0 r25 = D25 r n bSj x0 (K1 (cCd r n) 7) :=
 congrArg (fun k => D25 r n bSj x0 k) (dQk r n)
theorem dHy : D25 r n bCz x0 r25 = (K1 (bXd r n) 2) :=
 (bRb r n).trans
 ((by kernel_rfl))
theorem bUc : D25 r n bIi x0 r25 = D25 r n cFh x0 (K1 (bXd r n) 2) :=
 congrArg (fun k => D25 r n cFh x0 k) (dHy r n)
theorem dQj : D25 r n bIi x0 r25 = (K2 (cJu r n) 2 6) :=
 (bUc r n).trans
 ((by kernel_rfl))
theorem cLy : D25 r n bIf x0 r25 = D25 r n bVh x0 (K2 (cJu r n) 2 6) :=
 congrArg (fun k => D25 r n bVh x0 k) (dQj r n)
theorem dQq : D25 r n bIf x0 r25 = (K2 (aPg r n) 1 2) :=
 (cLy r n).trans
 ((by kernel_rfl))
theorem dHz : D25 r n c25 x0 r25 = D25 r n aXl x0 (K2 (aPg r n) 1 2) :=
 congrArg (fun k => D25 r n aXl x0 k) (dQq r n)
theorem dKf (q0 : gV) : D25 r n aXl x0 (K2 q0 1 2) = fun (env : aZ) (h : Hp) =>
 bnd (bQ (env 0) h) fun v1 h1 =>
  q0 (env 1) v1 h1 := by kernel_rfl
theorem dBn : (fun (env : aZ) (h : Hp) =>
 bnd (bQ (env 0) h) fun v1 h1 =>
  aPg r n (env 1) v1 h1) = (K2 (s25 r n) 0 1) := by kernel_rfl
theorem eKi : D25 r n c25 x0 r25 = (K2 (s25 r n) 0 1) :=
 (dHz r n).trans
 ((dKf r n (aPg r n)).trans (dBn r n))
theorem dYw : aG CF r n 25 args h = s25 r n (aR args 0) (aR args 1) h :=
 (by kernel_rfl : aG CF r n 25 args h = D25 r n c25 x0 r25 (aI args) h).trans ((congrFun (congrFun (eKi r n) (aI args)) h).trans (by kernel_rfl))
end Go.Dd

