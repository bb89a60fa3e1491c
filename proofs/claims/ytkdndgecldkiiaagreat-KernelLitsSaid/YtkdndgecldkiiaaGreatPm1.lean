/- A part of the proof: N O CH RF1 RF2 RF3 RF4 RF5 RF6 RF7 SM SN RS RG MF Qh Q0 Q1: each text has a comment of its own. -/
import Derived.Test.YtkdndgecldkiiaaGreatPm0
import Derived.LoopN
import Derived.Scope
import Derived.OrdersIn
import Derived.LoopNIn
import Derived.LoopIn
import Derived.RangeFuncIn
import Derived.RangeFuncCalls
import Derived.RangeFuncLeaves
import Derived.Test.YtkdndgecldkiiaaGreatProg
import Derived.KernelRfl
set_option linter.unusedVariables false
set_option linter.unusedSimpArgs false
set_option linter.constructorNameAsVariable false
set_option maxRecDepth 100000
namespace Go.Dd
open Go.RowKit (Below)
section
variable {C : Cfg} {G : Gd} {rec : FuncId → List DV → Hp → aH} {ops : Array Oper} {nt : Nat} {p0 : Pos}
theorem rC {listed : Array Bool} {i : Nat} : i ∈ Region.ready .any ops listed ↔ i < ops.size ∧ listed.getD i true = false ∧ ∃ o, ops[i]? = some o ∧ ∀ e ∈ o.after, Region.binds .any e = true → listed.getD e.on false = true := by
 unfold Region.ready
 rw [List.mem_filter]
 simp only [List.mem_range, Bool.and_eq_true, Bool.not_eq_eq_eq_not, Bool.not_true]
 constructor
 ·rintro ⟨h1, h2, h3⟩
  refine ⟨h1, h2, ops[i], by simp [h1], fun e he hb => ?_⟩
  simp only [h1, getElem?_pos, Option.map_some, Option.getD_some] at h3
  have := (Array.all_eq_true_iff_forall_mem.1 h3) e he
  simpa [hb] using this
 ·rintro ⟨h1, h2, o, ho, h3⟩
  refine ⟨h1, h2, ?_⟩
  simp only [ho, Option.map_some, Option.getD_some]
  refine Array.all_eq_true_iff_forall_mem.2 fun e he => ?_
  cases hb : Region.binds .any e with
  | false => simp
  | true => simp [h3 e he hb]
noncomputable def idp (C : Cfg) (ops : Array Oper) (p0 : Pos) (p : Nat) : Pos := cF (cK C.P (ops.toList.take p)) p0
structure Tr1 (C : Cfg) (rec : FuncId → List DV → Hp → aH) (ops : Array Oper) (nt : Nat) (p0 : Pos) (E : Nat → bA) (Hh : Nat → Hp) (V : Nat → DV) : Prop where
 ok : eL C.P ops = true
 st : ∀ p o, ops[p]? = some o → StepT C rec ops (Region.before ops) nt (idp C ops p0 p) E Hh V 0 [(none, Hh 0)] p o
theorem Tr1.same {E : Nat → bA} {Hh : Nat → Hp} {V : Nat → DV} (T : Tr1 C rec ops nt p0 E Hh V) {p : Nat} {o : Oper} (ho : ops[p]? = some o) (hc : bW C.P o.op ≠ .acts) (hm : bW C.P o.op ≠ .makes) : Hh (p + 1) = Hh p := by
 have hs := (T.st p o ho).step hm
 cases hcl : bW C.P o.op with
 | pure => exact (rR hcl _ _ _ hs).1
 | reads => exact oS hcl hs
 | makes => exact absurd hcl hm
 | acts => exact absurd hcl hc
def cUe (C : Cfg) (ops : Array Oper) (q : Nat) : Prop := q = 0 ∨ ∃ j oj, ops[j]? = some oj ∧ bW C.P oj.op = .acts ∧ q = j + 1
theorem pN {m : Array Nat} {i q : Nat} {Pv : Hp → Prop} {Hh : Nat → Hp} {tl : List (Option Nat × Hp)} : ∀ d, q ≤ d → rL m i Pv (jC C ops Hh 0 d ++ tl) →
  (∀ j oj, ops[j]? = some oj → bW C.P oj.op = .acts → q ≤ j → j < d → ¬ gN m j i = true) → rL m i Pv (jC C ops Hh 0 q ++ tl)
 | 0, hq, hc, _ => by have : q = 0 := by omega
                      subst this; exact hc
 | d + 1, hq, hc, hno => by
  by_cases e : q = d + 1
  ·subst e; exact hc
  ·have hq' : q ≤ d := by omega
   simp only [jC, Nat.zero_add] at hc
   cases ha : kG C ops d with
   | false =>
    rw [ha] at hc
    simp only [Bool.false_eq_true, if_false, List.nil_append] at hc
    exact pN d hq' hc fun j oj h1 h2 h3 h4 => hno j oj h1 h2 h3 (by omega)
   | true =>
    rw [ha] at hc
    simp only [if_true, List.cons_append, List.nil_append] at hc
    obtain ⟨_, h2⟩ := hc
    have ⟨oj, hoj, hcj⟩ : ∃ oj, ops[d]? = some oj ∧ bW C.P oj.op = .acts := by
     unfold kG at ha
     split at ha
     ·rename_i o ho; exact ⟨o, ho, by simpa using ha⟩
     ·cases ha
    rcases h2 with h2 | h2
    ·exact absurd h2 (hno d oj hoj hcj hq' (by omega))
    ·exact pN d hq' h2 fun j oj h1 h2 h3 h4 => hno j oj h1 h2 h3 (by omega)
theorem Tr1.value {E : Nat → bA} {Hh : Nat → Hp} {V : Nat → DV} (T : Tr1 C rec ops nt p0 E Hh V) {listed : Array Bool} {i q : Nat} {o : Oper} (ho : ops[i]? = some o) (hc : bW C.P o.op ≠ .acts) (hm : bW C.P o.op ≠ .makes)
  (hq : cUe C ops q) (hgap : ∀ j oj, ops[j]? = some oj → bW C.P oj.op = .acts → (j < q ↔ S listed j))
  (hni : ¬ S listed i) (hdown : ∀ j x, gN (Region.before ops) j x = true → S listed x → S listed j) (hpre : ∀ j, gN (Region.before ops) j i = true → S listed j) :
  bI C rec ops o (E i) (Hh q) = some (V i, Hh q) := by
 have hst := T.st i o ho
 cases hcl : bW C.P o.op with
 | acts => exact absurd hcl hc
 | makes => exact absurd hcl hm
 | pure => exact (rR hcl _ _ _ (hst.step hm)).2 _
 | reads =>
  rcases Nat.lt_or_ge i q with h | h
  ·rcases hq with rfl | ⟨j, oj, hj, haj, rfl⟩
   ·omega
   ·have hSj : S listed j := (hgap j oj hj haj).1 (by omega)
    have hij : i ≠ j := fun e => by subst e; exact hni hSj
    rcases (T.st j oj hj).acts haj i o (Nat.zero_le _) (by omega) ho hcl with h3 | h3
    ·exact absurd (hdown i j h3 hSj) hni
    ·exact sX hcl h3
  ·have h1 := hst.reads hcl
   rw [Nat.sub_zero] at h1
   have h2 := pN (q := q) i h h1 fun j oj hj haj hqj hji hord => by
    have := (hgap j oj hj haj).2 (hpre j hord)
    omega
   rcases hq with rfl | ⟨j, oj, hj, haj, rfl⟩
   ·exact h2.1
   ·simp only [jC, Nat.zero_add, (bFg hj).2 haj, if_true, List.cons_append, List.nil_append] at h2
    exact h2.1
theorem cNk {listed : Array Bool} {i j : Nat} (hi : i < listed.size) : S (listed.setIfInBounds i true) j ↔ (j = i ∨ S listed j) := by
 unfold S
 by_cases e : j = i
 ·subst e; simp [hi]
 ·simp [Array.getElem?_setIfInBounds_ne (Ne.symm e), e]
theorem sQ {listed : Array Bool} {i : Nat} (hi : i < listed.size) : listed.getD i true = listed.getD i false := by
 simp [hi]
theorem cZp {V : Nat → DV} {env : bA} {listed : Array Bool} {i : Nat} {o : Oper} (ho : ops[i]? = some o) (hi : i < listed.size) (hni : ¬ S listed i) (t : Nat)
  (hlast : ∀ j oj, i < j → ops[j]? = some oj → oj.dst = some t → o.dst = some t → ¬ S listed j) :
  ∀ p, i < p → TS ops V env (listed.setIfInBounds i true) p t = if o.dst = some t then V i else TS ops V env listed p t := by
 have hbefore : ∀ p, p ≤ i → TS ops V env (listed.setIfInBounds i true) p = TS ops V env listed p := by
  intro p
  induction p with
  | zero => intro _; rfl
  | succ p ih =>
   intro h
   have e : (listed.setIfInBounds i true).getD p false = listed.getD p false := by simp [Array.getElem?_setIfInBounds_ne (show i ≠ p by omega)]
   simp only [TS, ih (by omega), e]
 intro p
 induction p with
 | zero => intro h; omega
 | succ p ih =>
  intro h
  by_cases hpi : p = i
  ·subst hpi
   have e1 : (listed.setIfInBounds p true).getD p false = true := by simp [hi]
   have e2 : ¬ listed.getD p false = true := hni
   simp only [TS, ho, hbefore p (Nat.le_refl _), e1, if_true, mE]
   rw [if_neg e2]
  ·have ih' := ih (by omega)
   have e : (listed.setIfInBounds i true).getD p false = listed.getD p false := by simp [Array.getElem?_setIfInBounds_ne (Ne.symm hpi)]
   cases hop : ops[p]? with
   | none => simp only [TS, hop]; exact ih'
   | some op =>
    simp only [TS, hop, e]
    split
    ·rename_i hl
     rw [mE, mE, ih']
     by_cases hd : op.dst = some t
     ·rw [if_pos hd, if_pos hd]
      by_cases hod : o.dst = some t
      ·exact absurd hl (hlast p op (by omega) hop hd hod)
      ·rw [if_neg hod]
     ·rw [if_neg hd, if_neg hd]
    ·exact ih'
def jB (C : Cfg) (ops : Array Oper) (listed : Array Bool) (q i : Nat) : Prop := ∃ o, ops[i]? = some o ∧ bW C.P o.op = .makes ∧ S listed i ∧ q ≤ i
def GX (G : Gd) (N : Nat) (C : Cfg) (ops : Array Oper) (listed : Array Bool) (R : Nat → Nat) (q : Nat) : Gd := ⟨G.B, fun k => G.X k ∨ ∃ i, jB C ops listed q i ∧ R i = k, N, G.W, G.ok⟩
structure Made (G : Gd) (C : Cfg) (ops : Array Oper) (p0 : Pos) (Hh : Nat → Hp) (ρ : cM) (w : World) (R : Nat → Nat) (i : Nat) : Prop where
 name : ρ (idp C ops p0 i) = some ⟨R i, 0, 0, none⟩
 low : G.B ≤ R i
 ex : ¬ G.X (R i)
 row : ∃ (x0 : Obj) (ob : Ob), w.heap[R i]? = some x0 ∧ MO ρ ob x0 ∧ Hh (i + 1) = ⟨(Hh i).next, Tr.set ob (idp C ops p0 i) (Hh i).bl⟩
theorem aMs {E : Nat → bA} {Hh : Nat → Hp} {V : Nat → DV} (T : Tr1 C rec ops nt p0 E Hh V) {listed : Array Bool} {R : Nat → Nat} {N q : Nat} {ρ : cM} {w : World}
  (hmade : ∀ i, jB C ops listed q i → Made G C ops p0 Hh ρ w R i) (hdist : ∀ i i', jB C ops listed q i → jB C ops listed q i' → R i = R i' → i = i') :
  ∀ p, q ≤ p → p ≤ ops.size → (∀ j oj, ops[j]? = some oj → q ≤ j → j < p → bW C.P oj.op ≠ .acts ∧ (bW C.P oj.op = .makes → S listed j)) →
  HR (GX G N C ops listed R q) ρ (Hh q) w → HR (GX G N C ops listed R p) ρ (Hh p) w := by
 intro p
 induction p with
 | zero => intro h1 _ _ H; have : q = 0 := by omega
           subst this; exact H
 | succ p ih =>
  intro h1 h2 hr H
  by_cases e : q = p + 1
  ·subst e; exact H
  ·have H' := ih (by omega) (by omega) (fun j oj hj hq hjp => hr j oj hj hq (by omega)) H
   obtain ⟨o, ho⟩ : ∃ o, ops[p]? = some o := ⟨ops[p], by simp [show p < ops.size by omega]⟩
   obtain ⟨ha, hm⟩ := hr p o ho (by omega) (by omega)
   have hsub : ∀ k, (GX G N C ops listed R (p + 1)).X k → (GX G N C ops listed R p).X k := by
    rintro k (hk | ⟨i, ⟨oi, h3, h4, h5, h6⟩, h7⟩)
    ·exact .inl hk
    ·exact .inr ⟨i, ⟨oi, h3, h4, h5, by omega⟩, h7⟩
   by_cases hmk : bW C.P o.op = .makes
   ·have hE : jB C ops listed q p := ⟨o, ho, hmk, hm hmk, by omega⟩
    have hM := hmade p hE
    obtain ⟨x0, ob, r1, r2, r3⟩ := hM.row
    rw [r3]
    refine dOv (G := GX G N C ops listed R (p + 1)) H' rfl hsub (Nat.le_refl _) rfl hM.name r1 r2 hM.low ?_ (.inr ⟨p, ⟨o, ho, hmk, hm hmk, Nat.le_refl _⟩, rfl⟩)
    rintro (hk | ⟨i, ⟨oi, h3, h4, h5, h6⟩, h7⟩)
    ·exact hM.ex hk
    ·have := hdist i p ⟨oi, h3, h4, h5, by omega⟩ hE h7
     omega
   ·rw [T.same ho ha hmk]
    exact H'.weak rfl hsub (Nat.le_refl _) rfl
def Inv (DD : List Deferred) (C : Cfg) (G : Gd) (ops : Array Oper) (nt : Nat) (p0 : Pos) (N : Nat) (E : Nat → bA) (Hh : Nat → Hp) (V : Nat → DV) (ρ : cM) (w0 : World) (listed : Array Bool) (a : Act) (w : World) : Prop :=
 listed.size = ops.size ∧ (∀ j x, gN (Region.before ops) j x = true → S listed x → S listed j) ∧
 ∃ q, q ≤ ops.size ∧ cUe C ops q ∧ (∀ j oj, ops[j]? = some oj → bW C.P oj.op = .acts → (j < q ↔ S listed j)) ∧
 ∃ (ρ' : cM) (R : Nat → Nat), Ex G ρ ρ' ∧ HR (GX G N C ops listed R q) ρ' (Hh q) w ∧ EnvR ρ' (TS ops V (E 0) listed ops.size) a ∧ Kp G w0 w ∧ nt ≤ a.tmps.size ∧ a.defers = DD ∧
  (∀ i o, ops[i]? = some o → bW C.P o.op = .makes → ¬ S listed i → ρ' (idp C ops p0 i) = none) ∧
  (∀ i, jB C ops listed q i → Made G C ops p0 Hh ρ' w R i) ∧ (∀ i i', jB C ops listed q i → jB C ops listed q i' → R i = R i' → i = i')
theorem bNg {i : Nat} {o : Oper} (ho : ops[i]? = some o) (hm : bW C.P o.op = .makes) : (idp C ops p0 i).toNat < p0.toNat + cK C.P ops.toList := by
 unfold idp
 rw [dJ]
 have hlt : i < ops.toList.length := by
  rcases Nat.lt_or_ge i ops.toList.length with h | h
  ·exact h
  ·simp at h; simp [Array.getElem?_eq_none h] at ho
 have key : ∀ (l : List Oper) (i : Nat), l[i]? = some o → cK C.P (l.take i) < cK C.P l := by
  intro l
  induction l with
  | nil => intro i h; simp at h
  | cons x l ih =>
   intro i h
   cases i with
   | zero => simp at h; subst h; simp [cK, hm]; omega
   | succ i => simp at h; have := ih i h; simp only [List.take_succ_cons, cK]; omega
 have := key ops.toList i (by simpa using ho)
 omega
theorem cUv {i i' : Nat} {o o' : Oper} (ho : ops[i]? = some o) (hm : bW C.P o.op = .makes) (ho' : ops[i']? = some o') (hm' : bW C.P o'.op = .makes) (hne : i ≠ i') : idp C ops p0 i ≠ idp C ops p0 i' := by
 have key : ∀ (l : List Oper) (i j : Nat) (o : Oper), l[i]? = some o → bW C.P o.op = .makes → i < j → cK C.P (l.take i) < cK C.P (l.take j) := by
  intro l
  induction l with
  | nil => intro i j o h; simp at h
  | cons x l ih =>
   intro i j o h hm hij
   cases j with
   | zero => omega
   | succ j =>
    cases i with
    | zero => simp at h; subst h; simp only [List.take_succ_cons, cK, hm, List.take_zero]; omega
    | succ i => simp at h; have := ih i j o h hm (by omega); simp only [List.take_succ_cons, cK]; omega
 intro e
 have e' := congrArg Pos.toNat e
 unfold idp at e'
 rw [dJ, dJ] at e'
 rcases Nat.lt_or_ge i i' with h | h
 ·have := key ops.toList i i' o (by simpa using ho) hm h; omega
 ·have := key ops.toList i' i o' (by simpa using ho') hm' (by omega); omega
theorem bOi {DD : List Deferred} (K : OkC C rec) {N : Nat} {E : Nat → bA} {Hh : Nat → Hp} {V : Nat → DV} (T : Tr1 C rec ops nt p0 E Hh V) (hN : N = p0.toNat + cK C.P ops.toList) (hGN : G.N ≤ p0.toNat) {ρ : cM} {w0 : World} {Q : Exit → Act → World → Prop}
  (hQ : ∀ ρ' a' w', Ex G ρ ρ' → HR G ρ' (Hh ops.size) w' → EnvR ρ' (E ops.size) a' → Kp G w0 w' → nt ≤ a'.tmps.size → a'.defers = DD → Q .normal a' w') :
  ∀ (fuel : Nat) (listed : Array Bool) (a : Act) (w : World), Inv DD C G ops nt p0 N E Hh V ρ w0 listed a w → ((List.range ops.size).filter fun i => !listed.getD i false).length ≤ fuel → wpAny C.P .any ops Q fuel listed a w := by
 have hlt : ∀ p, p < ops.size → ∃ o, ops[p]? = some o := fun p hp => ⟨ops[p], by simp [hp]⟩
 have hin : ∀ (j : Nat) oj, ops[j]? = some oj → j < ops.size := fun j oj hj => by
  rcases Nat.lt_or_ge j ops.size with h | h
  ·exact h
  ·simp [Array.getElem?_eq_none h] at hj
 have hend : ∀ listed a w, Inv DD C G ops nt p0 N E Hh V ρ w0 listed a w → (∀ i, i < ops.size → S listed i) → Q .normal a w := by
  rintro listed a w ⟨hsz, hdown, q, hq, hcand, hgap, ρ', R, h1, h2, h3, h4, h5, h6, h7, h8, h9⟩ hall
  have hH := aMs (G := G) T h8 h9 ops.size hq (Nat.le_refl _) (fun j oj hj hqj hjn => ⟨fun ha => by
   have := (hgap j oj hj ha).2 (hall j hjn)
   omega, fun _ => hall j hjn⟩) h2
  have hE : ∀ t, TS ops V (E 0) listed ops.size t = E ops.size t := fun t =>
   bTc (E := E) rfl (fun p o hp ho => (T.st p o ho).env) (fun p hp => hlt p hp) (fun j o hj _ _ => hall j hj) ops.size (Nat.le_refl _)
  refine hQ ρ' a w h1 (hH.weak rfl (fun k hk => .inl hk) (by show G.N ≤ N; omega) rfl) (fun t => ?_) h4 h5 h6
  rw [← hE t]
  exact h3 t
 have hready : ∀ listed, listed.size = ops.size → Region.ready .any ops listed = [] → ∀ i, i < ops.size → S listed i := by
  intro listed hsz hr i
  induction i using Nat.strongRecOn with
  | _ i ih =>
   intro hi
   obtain ⟨o, ho⟩ := hlt i hi
   by_cases hs : S listed i
   ·exact hs
   ·exfalso
    have hmem : i ∈ Region.ready .any ops listed := by
     rw [rC]
     refine ⟨hi, ?_, o, ho, fun e he hb => ?_⟩
     ·rw [sQ (by omega)]
      unfold S at hs
      simpa using hs
     ·have := (dP T.ok ho).1 e he hb
      exact ih e.on this (by omega)
    rw [hr] at hmem
    cases hmem
 intro fuel
 induction fuel with
 | zero =>
  intro listed a w hI hfuel
  have hall : ∀ i, i < ops.size → S listed i := by
   intro i hi
   by_cases hs : S listed i
   ·exact hs
   ·exfalso
    have : i ∈ (List.range ops.size).filter fun i => !listed.getD i false := by
     rw [List.mem_filter]
     refine ⟨by simpa using hi, ?_⟩
     unfold S at hs
     simpa using hs
    have := List.length_pos_of_mem this
    omega
  refine ⟨?_, hend listed a w hI hall⟩
  cases hr : Region.ready .any ops listed with
  | nil => rfl
  | cons x xs =>
   have hx : x ∈ Region.ready .any ops listed := by rw [hr]; simp
   rw [rC] at hx
   have := hall x hx.1
   rw [sQ (by rw [hI.1]; exact hx.1)] at hx
   unfold S at this
   rw [this] at hx
   cases hx.2.1
 | succ fuel ih =>
  intro listed a w hI hfuel
  refine ⟨fun hr => hend listed a w hI (hready listed hI.1 hr), fun i hi => ?_⟩
  obtain ⟨hsz, hdown, q, hq, hcand, hgap, ρ', R, h1, h2, h3, h4, h5, h6, h7, h8, h9⟩ := hI
  rw [rC] at hi
  obtain ⟨hisz, hni, o, ho, hpre0⟩ := hi
  rw [sQ (by omega)] at hni
  have hnS : ¬ S listed i := by unfold S; rw [hni]; simp
  have hpre : ∀ j, gN (Region.before ops) j i = true → S listed j := by
   intro j hj
   obtain ⟨e, he, hb, h | h⟩ := aMc ho hj
   ·rw [← h]; exact hpre0 e he hb
   ·exact hdown j e.on h (hpre0 e he hb)
  have hst := T.st i o ho
  have hlook : ∀ t ∈ o.looksAt ops, TS ops V (E 0) listed ops.size t = E i t := by
   intro t ht
   rw [cFj (i := i) (fun j oj hij hj hd hS => ?_) ops.size (by omega)]
   ·exact bTc (E := E) rfl (fun p op hp hop => (T.st p op hop).env) (fun p hp => hlt p (by omega)) (fun j oj hj hoj hd => by
     rcases (dP T.ok ho).2.2 j oj hj hoj with h | ⟨h, _⟩
     ·exact hpre j h
     ·exact absurd ht ((Oper.apart_spec h).1 t hd)) i (Nat.le_refl _)
   ·rcases Nat.eq_or_lt_of_le hij with e | e
    ·subst e; exact hnS hS
    ·rcases (dP T.ok hj).2.2 i o e ho with h | ⟨h, _⟩
     ·exact hnS (hdown i j h hS)
     ·exact absurd ht ((Oper.apart_spec h).2.2 t hd)
  have hmkq : ∀ j oj, ops[j]? = some oj → bW C.P oj.op = .makes → j < q → S listed j := by
   intro j oj hj hmj hjq
   rcases hcand with rfl | ⟨l, ol, hl, hal, rfl⟩
   ·omega
   ·have hSl : S listed l := (hgap l ol hl hal).1 (by omega)
    have hjl : j ≠ l := fun e => by subst e; rw [hl] at hj; cases hj; rw [hal] at hmj; cases hmj
    rcases (dP T.ok hl).2.2 j oj (by omega) hj with h | ⟨_, h⟩
    ·exact hdown j l h hSl
    ·exact absurd ⟨.inr hmj, hal⟩ h
  have hdown' : ∀ j x, gN (Region.before ops) j x = true → S (listed.setIfInBounds i true) x → S (listed.setIfInBounds i true) j := by
   intro j x hjx hx
   rw [cNk (by omega)] at hx ⊢
   rcases hx with rfl | hx
   ·exact .inr (hpre j hjx)
   ·exact .inr (hdown j x hjx hx)
  have hTS : ∀ (ρ2 : cM) (v2 : Value), Ext ρ' ρ2 → VR ρ2 (V i) v2 → EnvR ρ2 (TS ops V (E 0) (listed.setIfInBounds i true) ops.size) (a.put o.dst v2) := by
   intro ρ2 v2 e1 e2 t
   rw [cZp ho (by omega) hnS t (fun j oj hij hj hd hod hS => by
    rcases (dP T.ok hj).2.2 i o hij ho with h | ⟨h, _⟩
    ·exact hnS (hdown i j h hS)
    ·exact (Oper.apart_spec h).2.1 t hod hd) ops.size (by omega)]
   have := EnvR.put h3 e1 e2 hst.fits h5 t
   rwa [mE] at this
  have hcount : ((List.range ops.size).filter fun j => !(listed.setIfInBounds i true).getD j false).length ≤ fuel := by
   have hmem : i ∈ (List.range ops.size).filter fun i => !listed.getD i false := by
    rw [List.mem_filter]
    exact ⟨by simpa using hisz, by simp [hni]⟩
   have hle : ((List.range ops.size).filter fun j => !(listed.setIfInBounds i true).getD j false).length < ((List.range ops.size).filter fun j => !listed.getD j false).length := by
    have hsub : ((List.range ops.size).filter fun j => !(listed.setIfInBounds i true).getD j false) = ((List.range ops.size).filter fun j => !listed.getD j false).filter (fun j => j != i) := by
     rw [List.filter_filter]
     apply List.filter_congr
     intro j hj
     by_cases e : j = i
     ·subst e; simp [show j < listed.size by omega]
     ·simp [Array.getElem?_setIfInBounds_ne (Ne.symm e), e]
    rw [hsub]
    exact List.length_filter_lt_length_iff_exists.2 ⟨i, hmem, by simp⟩
   omega
  have hS' : ∀ j, S (listed.setIfInBounds i true) j ↔ (j = i ∨ S listed j) := fun j => cNk (by omega)
  by_cases hmk : bW C.P o.op = .makes
  ·
   have hqi : q ≤ i := by
    rcases Nat.lt_or_ge i q with h | h
    ·exact absurd (hmkq i o ho hmk h) hnS
    ·exact h
   have hg := (dP T.ok ho).2.1 hmk
   have hbn := h7 i o ho hmk hnS
   have hst1 := hst.made hmk
   have hext : Ext ρ' (lV ρ' (idp C ops p0 i) ⟨w.heap.size, 0, 0, none⟩) := by
    intro x L hx
    by_cases e : x = idp C ops p0 i
    ·subst e; rw [hbn] at hx; cases hx
    ·rw [aS _ _ e]; exact hx
   have hE0 : dS C o (idp C ops p0 i) (TS ops V (E 0) listed ops.size) (Hh i) = some (V i, Hh (i + 1)) := by
    rw [← hst1]
    refine aAg fun x hx => aBd fun t ht => hlook t ?_
    unfold Oper.looksAt
    refine List.mem_append_left _ (List.mem_filterMap.2 ⟨x, by simpa using hx, ?_⟩)
    rw [ht]
   obtain ⟨ob, x0, v', m1, m2, m3, m4⟩ := cYh (w := w) h3 hE0 hbn
   have hidlt := bNg (p0 := p0) ho hmk
   have H2 := h2.early hbn (by have := h2.nx; simp only [GX] at this; omega) x0
   unfold wpOp
   simp only [ho]
   rw [if_pos (by simp [Region.wanted, hg])]
   refine .inl ?_
   unfold Oper.wp
   rw [m1]
   show wpAny C.P .any ops Q fuel (listed.setIfInBounds i true) (a.put o.dst v') (w.alloc x0)
   have hEarly : ∀ j, jB C ops (listed.setIfInBounds i true) q j → j = i ∨ jB C ops listed q j := by
    rintro j ⟨oj, e1, e2, e3, e4⟩
    rcases (hS' j).1 e3 with e | e
    ·exact .inl e
    ·exact .inr ⟨oj, e1, e2, e, e4⟩
   have hRlt : ∀ j, jB C ops listed q j → R j < w.heap.size := fun j hj => h2.sz.2 _ (.inr ⟨j, hj, rfl⟩)
   have hjne : ∀ j, jB C ops listed q j → j ≠ i := by
    rintro j ⟨oj, e1, e2, e3, e4⟩ e
    subst e; exact hnS e3
   refine ih _ _ _ ⟨by simpa using hsz, hdown', q, hq, hcand, fun j oj hj haj => ?_, lV ρ' (idp C ops p0 i) ⟨w.heap.size, 0, 0, none⟩, fun j => if j = i then w.heap.size else R j, ?_, ?_, hTS _ _ hext m4, ?_, by rw [lI]; exact h5, by rw [iS]; exact h6, ?_, ?_, ?_⟩ hcount
   ·rw [hS' j, hgap j oj hj haj]
    constructor
    ·exact .inr
    ·rintro (h | h)
     ·subst h; rw [ho] at hj; cases hj; rw [hmk] at haj; cases haj
     ·exact h
   ·refine h1.trans ⟨hext, fun b L hb => ?_⟩
    by_cases e : b = idp C ops p0 i
    ·right
     rw [e]
     unfold idp
     rw [dJ]
     omega
    ·rw [aS _ _ e] at hb; exact .inl hb
   ·refine H2.weak rfl ?_ (Nat.le_refl _) rfl
    rintro k (hk | ⟨j, hj, hjk⟩)
    ·exact .inl (.inl hk)
    ·rcases hEarly j hj with rfl | hj'
     ·right; simpa using hjk.symm
     ·left; right
      refine ⟨j, hj', ?_⟩
      simpa [hjne j hj'] using hjk
   ·exact h4.trans (dZ (G := G) ⟨h2.sz.1, fun k hk => h2.sz.2 k (.inl hk)⟩ _)
   ·intro j oj hj hmj hSj
    have hji : j ≠ i := fun e => hSj ((hS' j).2 (.inl e))
    rw [aS _ _ (cUv hj hmj ho hmk hji)]
    exact h7 j oj hj hmj fun h => hSj ((hS' j).2 (.inr h))
   ·intro j hj
    rcases hEarly j hj with rfl | hj'
    ·refine ⟨by simp [bS], by simp; exact h2.sz.1, ?_, x0, ob, ?_, m2.mono hext, m3⟩
     ·simp only [if_true]
      intro hx
      have := h2.sz.2 _ (.inl hx)
      omega
     ·simp only [if_true]
      show (w.heap.push _)[w.heap.size]? = _
      simp
    ·have hM := h8 j hj'
     obtain ⟨x1, ob1, r1, r2, r3⟩ := hM.row
     have hji := hjne j hj'
     refine ⟨?_, by simp [hji]; exact hM.low, by simp [hji]; exact hM.ex, x1, ob1, ?_, r2.mono hext, r3⟩
     ·simp only [hji, if_false]; exact hext _ _ hM.name
     ·simp only [hji, if_false]
      rw [Below.heap_alloc _ _ _ (hRlt j hj')]
      exact r1
   ·intro j j' hj hj' he
    rcases hEarly j hj with rfl | hj1
    ·rcases hEarly j' hj' with rfl | hj1'
     ·rfl
     ·simp only [if_true, hjne j' hj1', if_false] at he
      have := hRlt j' hj1'
      omega
    ·rcases hEarly j' hj' with rfl | hj1'
     ·simp only [if_true, hjne j hj1, if_false] at he
      have := hRlt j hj1
      omega
     ·simp only [hjne j hj1, hjne j' hj1', if_false] at he
      exact h9 j j' hj1 hj1' he
  ·
   have hstep : ∃ q1 q2, q ≤ q1 ∧ q1 ≤ ops.size ∧ q2 ≤ ops.size ∧ q1 ≤ q2 ∧ cUe C ops q2 ∧ HR (GX G N C ops listed R q1) ρ' (Hh q1) w ∧
     bI C rec ops o (TS ops V (E 0) listed ops.size) (Hh q1) = some (V i, Hh q2) ∧
     (∀ j oj, ops[j]? = some oj → bW C.P oj.op = .acts → (j < q2 ↔ S (listed.setIfInBounds i true) j)) ∧
     (∀ j, jB C ops (listed.setIfInBounds i true) q2 j → jB C ops listed q1 j) := by
    rw [show bI C rec ops o (TS ops V (E 0) listed ops.size) = bI C rec ops o (E i) from funext fun h => aJx hlook]
    by_cases ha : bW C.P o.op = .acts
    ·have hqi : q ≤ i := by
      rcases Nat.lt_or_ge i q with h | h
      ·exact absurd ((hgap i o ho ha).1 h) hnS
      ·exact h
     refine ⟨i, i + 1, hqi, by omega, by omega, by omega, .inr ⟨i, o, ho, ha, rfl⟩, ?_, hst.step hmk, fun j oj hj haj => ?_, ?_⟩
     ·refine aMs (G := G) T h8 h9 i hqi (by omega) (fun j oj hj hqj hji => ⟨fun haj => ?_, fun hmj => ?_⟩) h2
      ·rcases (dP T.ok ho).2.2 j oj hji hj with h | ⟨_, h⟩
       ·have := (hgap j oj hj haj).2 (hpre j h); omega
       ·exact absurd ⟨.inl haj, ha⟩ h
      ·rcases (dP T.ok ho).2.2 j oj hji hj with h | ⟨_, h⟩
       ·exact hpre j h
       ·exact absurd ⟨.inr hmj, ha⟩ h
     ·rw [hS' j]
      constructor
      ·intro hlt'
       by_cases e : j = i
       ·exact .inl e
       ·right
        rcases (dP T.ok ho).2.2 j oj (by omega) hj with h | ⟨_, h⟩
        ·exact hpre j h
        ·exact absurd ⟨.inl haj, ha⟩ h
      ·rintro (h | h)
       ·omega
       ·rcases Nat.lt_or_ge i j with hij | hij
        ·rcases (dP T.ok hj).2.2 i o hij ho with h' | ⟨_, h'⟩
         ·exact absurd (hdown i j h' h) hnS
         ·exact absurd ⟨.inl ha, haj⟩ h'
        ·omega
     ·rintro j ⟨oj, e1, e2, e3, e4⟩
      rcases (hS' j).1 e3 with e | e
      ·omega
      ·exact ⟨oj, e1, e2, e, by omega⟩
    ·refine ⟨q, q, Nat.le_refl _, hq, hq, Nat.le_refl _, hcand, h2, T.value ho ha hmk hcand hgap hnS hdown hpre, fun j oj hj haj => ?_, ?_⟩
     ·rw [hS' j, hgap j oj hj haj]
      constructor
      ·exact .inr
      ·rintro (h | h)
       ·subst h; rw [ho] at hj; cases hj; exact absurd haj ha
       ·exact h
     ·rintro j ⟨oj, e1, e2, e3, e4⟩
      rcases (hS' j).1 e3 with e | e
      ·subst e; rw [ho] at e1; cases e1; exact absurd e2 hmk
      ·exact ⟨oj, e1, e2, e, e4⟩
   obtain ⟨q1, q2, k1, k2, k2', k12, k3, k4, k5, k6, k7⟩ := hstep
   refine uA (vO K k4 h3 k5) rfl ho k4 fun ρ2 w2 v2 e1 e2 e3 e4 => ?_
   have hEq : ∀ j, jB C ops listed q1 j → jB C ops listed q j := by
    rintro j ⟨oj, f1, f2, f3, f4⟩
    exact ⟨oj, f1, f2, f3, by omega⟩
   refine ih _ _ _ ⟨by simpa using hsz, hdown', q2, k2', k3, k6, ρ2, R, ?_, ?_, hTS _ _ e1.ext e2, ?_, by rw [lI]; exact h5, by rw [iS]; exact h6, ?_, ?_, ?_⟩ hcount
   ·refine h1.trans ⟨e1.ext, fun b L hb => (e1.new b L hb).imp id fun h => ?_⟩
    simp only [GX] at h
    omega
   ·refine e3.weak rfl ?_ (Nat.le_refl _) rfl
    rintro k (hk | ⟨j, hj, hjk⟩)
    ·exact .inl hk
    ·exact .inr ⟨j, k7 j hj, hjk⟩
   ·exact h4.trans ⟨e4.low, fun k hk => e4.ex k (.inl hk)⟩
   ·intro j oj hj hmj hSj
    have hn := h7 j oj hj hmj fun h => hSj ((hS' j).2 (.inr h))
    cases hr : ρ2 (idp C ops p0 j) with
    | none => rfl
    | some L =>
     rcases e1.new _ _ hr with h | h
     ·rw [hn] at h; cases h
     ·have := bNg (p0 := p0) hj hmj
      simp only [GX] at h
      omega
   ·intro j hj
    have hj1 := k7 j hj
    have hM := h8 j (hEq j hj1)
    obtain ⟨x1, ob1, r1, r2, r3⟩ := hM.row
    exact ⟨e1.ext _ _ hM.name, hM.low, hM.ex, x1, ob1, by rw [e4.ex _ (.inr ⟨j, hj1, rfl⟩)]; exact r1, r2.mono e1.ext, r3⟩
   ·intro j j' hj hj' he
    exact h9 j j' (hEq j (k7 j hj)) (hEq j' (k7 j' hj')) he
theorem aMv {DD : List Deferred} (K : OkC C rec) {k : Dd.K} {r : DV × Hp} {env : bA} {h : Hp} {ρ : cM} {a : Act} {w : World} {Q : Exit → Act → World → Prop}
  (hok : eL C.P ops = true) (hp : iO C rec nt ops k env h = some r) (H : HR G ρ h w) (he : EnvR ρ env a) (hnt : nt ≤ a.tmps.size) (hd : a.defers = DD)
  (hQ : ∀ ρ' env' h' a' w', Ex G ρ ρ' → HR G ρ' h' w' → EnvR ρ' env' a' → Kp G w w' → nt ≤ a'.tmps.size → a'.defers = DD → k env' h' = some r → Q .normal a' w') :
  wpAny C.P .any ops Q ops.size (Array.replicate ops.size false) a { w with drawn := w.drawn + 1 } := by
 obtain ⟨E, Hh, V, e1, e2, e3, e4⟩ := tA (p0 := h.next) ops.toList 0 0 false [] _ env _ r hp (by simp) (fun _ => ⟨_, _, rfl⟩)
 simp only [Nat.zero_add, Array.length_toList, Nat.sub_zero] at e3 e4
 have T : Tr1 C rec ops nt h.next E Hh V := ⟨hok, fun p o ho => by
  have := (e4 p o (Nat.zero_le _) (by
   rcases Nat.lt_or_ge p ops.size with h | h
   ·exact h
   ·simp [Array.getElem?_eq_none h] at ho) ho).1
  rw [← e2] at this
  exact this⟩
 obtain ⟨n1, n2⟩ := sO (cK C.P ops.toList) h
 have hNN : (resv (cK C.P ops.toList) h).next.toNat = h.next.toNat + cK C.P ops.toList := by rw [n1, dJ]
 refine (bOi (G := G) K T rfl H.nx (ρ := ρ) (w0 := w) (fun ρ' a' w' h1 h2 h3 h4 h5 h6 => hQ ρ' _ _ a' w' h1 h2 h3 h4 h5 h6 e3) ops.size _ a _ ?_ ?_)
 ·have hno : ∀ j, ¬ S (Array.replicate ops.size false) j := by
   intro j hj
   unfold S at hj
   simp [Array.getElem?_replicate] at hj
   split at hj <;> simp at hj
  have hnoE : ∀ j, ¬ jB C ops (Array.replicate ops.size false) 0 j := by
   rintro j ⟨oj, _, _, h3, _⟩
   exact hno j h3
  refine ⟨by simp, fun j x _ hx => absurd hx (hno x), 0, Nat.zero_le _, .inl rfl, fun j oj hj ha => ⟨fun h => by omega, fun h => absurd h (hno j)⟩, ρ, fun _ => 0, Ex.refl G ρ, ?_, ?_, ?_, hnt, hd, ?_, fun j hj => absurd hj (hnoE j), fun j j' hj => absurd hj (hnoE j)⟩
  ·rw [e2]
   have := (H.reserve (cK C.P ops.toList)).congr (w' := { w with drawn := w.drawn + 1 }) rfl
   rw [hNN] at this
   refine this.weak rfl ?_ (Nat.le_refl _) rfl
   rintro k (hk | ⟨j, hj, _⟩)
   ·exact hk
   ·exact absurd hj (hnoE j)
  ·have hT : ∀ p, TS ops V (E 0) (Array.replicate ops.size false) p = E 0 := by
    intro p
    induction p with
    | zero => rfl
    | succ p ih =>
     simp only [TS, ih]
     split
     ·rename_i o ho
      rw [if_neg (show ¬ (Array.replicate ops.size false).getD p false = true from hno p)]
     ·rfl
   intro t
   rw [hT, e1]
   exact he t
  ·exact (Kp.refl G w).drew
  ·intro j oj hj hmj _
   cases hr : ρ (idp C ops h.next j) with
   | none => rfl
   | some L =>
    have h1 := H.lt _ _ hr
    unfold idp at h1
    rw [dJ] at h1
    omega
 ·have := List.length_filter_le (fun i => !(Array.replicate ops.size false).getD i false) (List.range ops.size)
  simpa using this
theorem bAw {DD : List Deferred} (K : OkC C rec) (hm : C.P.follows .mixedOrders = true) {id : Nat} {k : Dd.K} {r : DV × Hp} {env : bA} {h : Hp} {ρ : cM} {a : Act} {w : World} {Q : Exit → Act → World → Prop}
  (hok : eL C.P ops = true) (hp : iO C rec nt ops k env h = some r) (H : HR G ρ h w) (he : EnvR ρ env a) (hnt : nt ≤ a.tmps.size) (hd : a.defers = DD)
  (hQ : ∀ ρ' env' h' a' w', Ex G ρ ρ' → HR G ρ' h' w' → EnvR ρ' env' a' → Kp G w w' → nt ≤ a'.tmps.size → a'.defers = DD → k env' h' = some r → Q .normal a' w') :
  (Code.region id ops true).wp C.P Q a w :=
 wp_region_any hm (aMv K hok hp H he hnt hd hQ)
end
end Go.Dd

namespace Go.Dd
open Go.RowKit (Below)
section
variable {C : Cfg} {G : Gd} {rec : FuncId → List DV → Hp → aH} {nt n : Nat}
def St (DD : List Deferred) (G : Gd) (nt : Nat) (ρ : cM) (w0 : World) (k : K) (r : DV × Hp) (a : Act) (w : World) : Prop :=
 ∃ ρ' env h, Ex G ρ ρ' ∧ HR G ρ' h w ∧ EnvR ρ' env a ∧ Kp G w0 w ∧ nt ≤ a.tmps.size ∧ a.defers = DD ∧ k env h = some r
def QQ (DD : List Deferred) (G : Gd) (nt : Nat) (ρ : cM) (w0 : World) (X : Nat → K) (kr k : K) (r : DV × Hp) : Exit → Act → World → Prop
 | .normal, a, w => St DD G nt ρ w0 k r a w
 | .exit id, a, w => St DD G nt ρ w0 (X id) r a w
 | .ret, a, w => St DD G nt ρ w0 kr r a w
 | _, _, _ => False
theorem cIq {DD : List Deferred} (K : OkC C rec) (hm : C.P.follows .mixedOrders = true) {ρ : cM} {w0 : World} {r : DV × Hp} : ∀ (c : Code) (X : Nat → Dd.K) (kr k : Dd.K) (a : Act) (w : World),
  St DD G nt ρ w0 (aP C rec nt n c X kr k) r a w → c.wp C.P (QQ DD G nt ρ w0 X kr k r) a w := by
 intro c
 induction c with
 | skip => intro X kr k a w h; exact wp_skip h
 | region id ops dr =>
  intro X kr k a w h
  obtain ⟨ρ', env, hp, h1, h2, h3, h4, h5, h6, h7⟩ := h
  change (Bool.rec (motive := fun _ => Dd.K) (gW C rec nt ops ops.toList k) (Bool.rec (motive := fun _ => Dd.K) cQ (iO C rec nt ops k) (eL C.P ops)) dr) env hp = some r at h7
  cases dr with
  | true =>
   dsimp only at h7
   cases hok : eL C.P ops with
   | false => rw [hok] at h7; cases h7
   | true =>
    rw [hok] at h7
    exact bAw K hm hok h7 h2 h3 h5 h6 fun ρ2 env2 h2' a2 w2 e1 e2 e3 e4 e5 e6 e7 => ⟨ρ2, env2, h2', h1.trans e1, e2, e3, h4.trans e4, e5, e6, e7⟩
  | false =>
   simp only [cond_false] at h7
   obtain ⟨env', h', hr, hk⟩ := nJ ops.toList k env hp r h7
   refine wp_region ?_
   have := aFg (Q := QQ DD G nt ρ w0 X kr k r) K ops.toList 0 ρ' env hp a w (by simp) hr h2 h3 h5 h6 fun ρ2 a2 w2 e1 e2 e3 e4 e5 e6 => ⟨ρ2, env', h', h1.trans e1, e2, e3, h4.trans e4, e5, e6, hk⟩
   rw [List.range_eq_range']
   simpa using this
 | seq x y ihx ihy =>
  intro X kr k a w h
  refine wp_seq (wp_mono (ihx X kr (aP C rec nt n y X kr k) a w h) fun e a' w' hq => ?_)
  cases e with
  | normal => exact ihy X kr k a' w' hq
  | exit id => exact hq
  | ret => exact hq
  | goto l => exact hq
  | panic ch => exact hq
  | outgrown => exact hq
 | cond c x y ihx ihy =>
  intro X kr k a w h
  obtain ⟨ρ', env, hp, h1, h2, h3, h4, h5, h6, h7⟩ := h
  change aX (opr env c) (aP C rec nt n x X kr k env hp) (aP C rec nt n y X kr k env hp) = some r at h7
  have hc := bD h3 c
  unfold aX at h7
  split at h7 <;> (try (cases h7; done))
  ·rename_i hcb
   rw [hcb] at hc
   generalize hcv : a.eval c = cv at hc
   cases hc
   exact wp_cond_true hcv (ihx X kr k a w ⟨ρ', env, hp, h1, h2, h3, h4, h5, h6, h7⟩)
  ·rename_i hcb
   rw [hcb] at hc
   generalize hcv : a.eval c = cv at hc
   cases hc
   exact wp_cond_false hcv (ihy X kr k a w ⟨ρ', env, hp, h1, h2, h3, h4, h5, h6, h7⟩)
 | block id x ih =>
  intro X kr k a w h
  refine wp_block (wp_mono (ih (fun j => bif Nat.beq j id then k else X j) kr k a w h) fun e a' w' hq => ?_)
  cases e with
  | normal => exact hq
  | exit id' =>
   simp only [QQ] at hq
   simp only [Exit.inBlock, QQ]
   split
   ·rename_i e
    subst e
    have hb : Nat.beq id' id' = true := Nat.beq_refl id'
    rw [hb] at hq
    exact hq
   ·rename_i e
    have : Nat.beq id' id = false := by
     cases hb : Nat.beq id' id with
     | false => rfl
     | true => exact absurd (Nat.eq_of_beq_eq_true hb) e
    rw [this] at hq
    exact hq
  | ret => exact hq
  | goto l => exact hq
  | panic ch => exact hq
  | outgrown => exact hq
 | loop x ih =>
  intro X kr k a w h
  have key : ∀ (m : Nat) (a : Act) (w : World), St DD G nt ρ w0 (aM (fun kk => aP C rec nt n x X kr kk) m) r a w → Code.rounds C.P x (QQ DD G nt ρ w0 X kr k r) m a w := by
   intro m
   induction m with
   | zero =>
    rintro a w ⟨ρ', env, hp, h1, h2, h3, h4, h5, h6, h7⟩
    cases h7
   | succ m ihm =>
    intro a w hs
    rw [rounds_succ]
    refine wp_mono (ih X kr (aM (fun kk => aP C rec nt n x X kr kk) m) a w hs) fun e a' w' hq => ?_
    cases e with
    | normal => exact ihm a' w' hq
    | exit id => exact hq
    | ret => exact hq
    | goto l => exact hq
    | panic ch => exact hq
    | outgrown => exact hq
  exact wp_loop_rounds n (key n a w h)
 | rangeFunc f ps x y ihx ihy =>
  rintro X kr k a w ⟨ρ', env, hp, h1, h2, h3, h4, h5, h6, h7⟩
  cases h7
 | exit id => intro X kr k a w h; exact wp_exit h
 | scope x ih =>
  intro X kr k a w h
  refine wp_scope_straight (wp_mono (ih X kr k a w h) fun e a' w' hq => ?_)
  cases e with
  | goto l => exact hq
  | normal => exact hq
  | exit id => exact hq
  | ret => exact hq
  | panic ch => exact hq
  | outgrown => exact hq
 | label l => intro X kr k a w h; exact wp_label h
 | goto l =>
  rintro X kr k a w ⟨ρ', env, hp, h1, h2, h3, h4, h5, h6, h7⟩
  cases h7
 | ret => intro X kr k a w h; exact wp_ret h
 | refuse why =>
  rintro X kr k a w ⟨ρ', env, hp, h1, h2, h3, h4, h5, h6, h7⟩
  cases h7
def aEv (tmps : Array Value) (rv : ResultVar) : Sem Value :=
 match rv with
 | .tmp t => pure (tmps.getD t undef)
 | .cell q t => do loadVar t (← asAddr (tmps.getD q undef))
theorem pH (fn : Func) (tmps : Array Value) : results fn tmps = (do
  let vs ← fn.results.mapM (aEv tmps)
  pure (if h : vs.size = 1 then vs[0] else .tuple vs)) := by
 unfold results
 congr 2
theorem bNz {ρ : cM} {w : World} {h : Hp} {x : DV} {x' : Value} {t : TypeId} {k : DV → aH} {r : DV × Hp} (H : HR G ρ h w) (hx : VR ρ x x') (hr : aAv C t x h k = some r) :
  ∃ v v', (do loadVar t (← asAddr x') : Sem Value).run C.P w = .ok v' w ∧ VR ρ v v' ∧ k v = some r := by
 unfold aAv at hr
 split at hr <;> (try (cases hr; done))
 rename_i d i ht hi
 obtain ⟨v, h', hl, hk⟩ := dI hr
 have hconv : ∀ b o, x = .p b o → (Instr.loadAt t x') = (do loadVar t (← asAddr x')) := by
  rintro b o rfl
  cases hx
  simp [Instr.loadAt, Instr.sureAddr, asAddr]
 cases hd : jN d with
 | true =>
  rw [hd] at hl
  simp only [cond_true] at hl
  unfold aK at hl
  split at hl <;> (try (cases hl; done))
  rename_i b o
  split at hl <;> (try (cases hl; done))
  rename_i cs hc
  simp only [bC, bP] at hl
  obtain ⟨rfl, _⟩ := hl
  cases hx with
  | p _ _ L hL =>
   obtain ⟨c1, c2, _, vs, c4, c5, c6⟩ := eQ H hc hL
   have hrun := dD (P := C.P) vs rfl c6
   rw [c5] at hrun
   refine ⟨_, .agg vs.toArray, ?_, .a cs vs.toArray (by simpa using c4), hk⟩
   simp only [asAddr, Sem.run_bind, Sem.run_pure, Result.andThen_ok, loadVar, rA ht, hd, if_true, rS hi, hrun]
 | false =>
  rw [hd] at hl
  simp only [cond_false] at hl
  unfold aA at hl
  split at hl <;> (try (cases hl; done))
  rename_i b o
  split at hl <;> (try (cases hl; done))
  rename_i u' hc
  simp only [bC, bP] at hl
  obtain ⟨rfl, _⟩ := hl
  cases hx with
  | p _ _ L hL =>
   unfold cellD rowOf at hc
   split at hc <;> (try (cases hc; done))
   rename_i l hl
   split at hl <;> (try (cases hl; done))
   rename_i kd l0 hb
   simp only [bC] at hl
   subst hl
   split at hc <;> (try (cases hc; done))
   rename_i u0 hu
   split at hc <;> (try (cases hc; done))
   rename_i ho
   simp only [bC] at hc
   subst hc
   obtain ⟨v', h5, h6⟩ := H.cell b kd l0 L o u0 hb hL hu ho
   refine ⟨_, v', ?_, h6, hk⟩
   simp only [asAddr, Sem.run_bind, Sem.run_pure, Result.andThen_ok, loadVar, rA ht, hd, Bool.false_eq_true, if_false, run_load, h5]
theorem wJ {ρ : cM} {w : World} {h : Hp} {env : bA} {a : Act} (H : HR G ρ h w) (he : EnvR ρ env a) {r : DV × Hp} : ∀ (l : List ResultVar) (k : List DV → aH), aXk C env h l k = some r →
  ∃ vs vs', (l.mapM (aEv a.tmps)).run C.P w = .ok vs' w ∧ VRs ρ vs vs' ∧ k vs = some r
 | [], k, hr => ⟨[], [], by simp, .nil, hr⟩
 | .tmp t :: l, k, hr => by
  obtain ⟨vs, vs', h1, h2, h3⟩ := wJ H he l (fun vs => k (env t :: vs)) hr
  refine ⟨env t :: vs, a.tmps.getD t undef :: vs', ?_, .cons _ _ _ _ (he t) h2, h3⟩
  simp only [List.mapM_cons, Sem.run_bind, aEv, Result.andThen_ok, h1, Sem.run_pure]
 | .cell q t :: l, k, hr => by
  obtain ⟨v, v', h1, h2, h3⟩ := bNz (x' := a.tmps.getD q undef) H (he q) hr
  obtain ⟨vs, vs', h4, h5, h6⟩ := wJ H he l (fun vs => k (v :: vs)) h3
  refine ⟨v :: vs, v' :: vs', ?_, .cons _ _ _ _ h2 h5, h6⟩
  simp only [List.mapM_cons, Sem.run_bind, aEv] at h1 ⊢
  simp only [h1, Result.andThen_ok, h4, Sem.run_pure]
theorem aHe {ρ : cM} {w : World} {h h1 : Hp} {env : bA} {a : Act} (H : HR G ρ h w) (he : EnvR ρ env a) {fn : Func} {v : DV} (hr : aV C fn env h = some (v, h1)) :
  h1 = h ∧ ∃ v', (results fn a.tmps).run C.P w = .ok v' w ∧ VR ρ v v' := by
 obtain ⟨us, vs', h2, h3, hk⟩ := wJ H he _ _ hr
 unfold bNw at hk
 split at hk
 ·rename_i u
  simp only [bC, bP] at hk
  obtain ⟨rfl, rfl⟩ := hk
  cases h3 with
  | cons _ v' _ l' hv hn =>
   cases hn
   refine ⟨rfl, v', ?_, hv⟩
   rw [pH, Array.mapM_eq_mapM_toList]
   simp only [Sem.run_bind, Sem.run_map, h2, Result.andThen_ok, Sem.run_pure]
   simp
 ·rename_i hne
  simp only [bC, bP] at hk
  obtain ⟨rfl, rfl⟩ := hk
  have hl := h3.length
  have hne1 : vs'.length ≠ 1 := by
   intro e
   rw [e] at hl
   match us, hl with
   | [x], _ => exact hne x rfl
  refine ⟨rfl, .tuple vs'.toArray, ?_, .t _ _ (by simpa using h3)⟩
  rw [pH, Array.mapM_eq_mapM_toList]
  simp only [Sem.run_bind, Sem.run_map, h2, Result.andThen_ok, Sem.run_pure]
  rw [dif_neg (by simpa using hne1)]
structure POk (P : Program) : Prop where
 mixed : P.follows .mixedOrders = true
 names : ∀ (f : Nat) (fn : Func), P.funcs[f]? = some fn → (fn.name == "runtime.NumGoroutine") = false
theorem pU (K : OkC C rec) (hP : POk C.P) (n : Nat) (f : FuncId) : hZ C.P G f (aF C rec n f) := by
 intro args h v h1 hr ρ w args' H hargs
 unfold aF at hr
 split at hr <;> (try (cases hr; done))
 rename_i fn hf
 split at hr <;> (try (cases hr; done))
 rename_i c hb
 refine .inl ⟨?_, ?_⟩
 ·unfold callFunc
  have hn : ¬ fn.name = "runtime.NumGoroutine" := by simpa using hP.names f fn hf
  simp [hf, hn, hb]
 ·refine calls_of_wp hf hb ?_
  have he : EnvR ρ (aJ args) { tmps := args' ++ Array.replicate (fn.ntmps - args'.size) undef, defers := [] } := by
   intro t
   unfold aJ
   have hlen := hargs.length
   simp only [Array.length_toList] at hlen
   by_cases ht : t < args.length
   ·have hg : args[t]? = some args[t] := by simp [ht]
    obtain ⟨v', h2, h3⟩ := hargs.get t _ hg
    simp only [Array.getElem?_toList] at h2
    rw [show args.getD t aU = args[t] by simp [List.getD, hg]]
    have : (args' ++ Array.replicate (fn.ntmps - args'.size) undef).getD t undef = v' := by
     simp [Array.getElem?_append_left (show t < args'.size by omega), h2]
    rw [this]
    exact h3
   ·have hg : args.getD t aU = aU := by simp [List.getD, List.getElem?_eq_none (Nat.le_of_not_lt ht)]
    rw [hg]
    have : (args' ++ Array.replicate (fn.ntmps - args'.size) undef).getD t undef = undef := by
     rw [Array.getD_eq_getD_getElem?, Array.getElem?_append_right (by omega)]
     simp only [Array.getElem?_replicate]
     split <;> rfl
    rw [this]
    exact .t [] #[] .nil
  have hst : St [] G fn.ntmps ρ w (aP C rec fn.ntmps n c (fun _ => cQ) (aV C fn) (aV C fn)) (v, h1) { tmps := args' ++ Array.replicate (fn.ntmps - args'.size) undef, defers := [] } w :=
   ⟨ρ, aJ args, h, Ex.refl G ρ, H, he, Kp.refl G w, by simp; omega, rfl, hr⟩
  refine wp_mono (cIq K hP.mixed c _ _ _ _ _ hst) fun e a' w' hq => ?_
  have hfin : St [] G fn.ntmps ρ w (aV C fn) (v, h1) a' w' → a'.defers = [] ∧ ∃ v', (results fn a'.tmps).run C.P w' = .ok v' w' ∧ lR G ρ w v h1 (.returned v') w' := by
   rintro ⟨ρ', env, h', e1, e2, e3, e4, e5, e6, e7⟩
   obtain ⟨rfl, v', r1, r2⟩ := aHe e2 e3 e7
   exact ⟨e6, v', r1, ρ', v', rfl, e1, r2, e2, e4⟩
  cases e with
  | normal => exact hfin hq
  | ret => exact hfin hq
  | exit id =>
   obtain ⟨ρ', env, h', e1, e2, e3, e4, e5, e6, e7⟩ := hq
   cases e7
  | goto l => exact hq.elim
  | panic ch => exact hq.elim
  | outgrown => exact hq.elim
theorem bVg (hP : POk C.P) (hI : ∀ G g F, C.I g = some F → hZ C.P G g F) : ∀ (n : Nat) (G : Gd) (f : FuncId), hZ C.P G f (fnD C n f)
 | 0, G, f => fun args h v h1 hr => by cases hr
 | n + 1, G, f => pU (rec := fnD C n) ⟨hI, fun G g => bVg hP hI n G g⟩ hP n f
end
end Go.Dd

namespace Go.Dd
open Go.RowKit (Below)
section
variable {C : Cfg} {G : Gd} {rec : FuncId → List DV → Hp → aH} {nt : Nat}
def oG (h : Hp) : Prop := ∀ b o, h.bl.get b = some o → b.toNat < h.next.toNat
theorem HR.isFresh {ρ : cM} {h : Hp} {w : World} (H : HR G ρ h w) : oG h := fun b o hb => by
 obtain ⟨L, hL⟩ := H.dom b o hb
 exact H.lt b L hL
def aMb (C : Cfg) (rec : FuncId → List DV → Hp → aH) (nt : Nat) (ops : Array Oper) (lR : bA → Hp → Prop) : Nat → Array Bool → bA → Hp → Prop
 | 0, listed, env, h => Region.ready .any ops listed = [] ∧ lR env h
 | f + 1, listed, env, h => (Region.ready .any ops listed = [] → lR env h) ∧
   ∀ i ∈ Region.ready .any ops listed, ∃ o v h', ops[i]? = some o ∧ cZ nt o.dst = true ∧ bI C rec ops o env h = some (v, h') ∧
    aMb C rec nt ops lR f (listed.setIfInBounds i true) (bO env o.dst v) h'
theorem bNs (K : OkC C rec) {ops : Array Oper} {lR : bA → Hp → Prop} {Q : Exit → Act → World → Prop} : ∀ (fuel : Nat) (listed : Array Bool) (ρ : cM) (env : bA) (h : Hp) (a : Act) (w : World),
  aMb C rec nt ops lR fuel listed env h → HR G ρ h w → EnvR ρ env a → nt ≤ a.tmps.size → a.defers = [] →
  (∀ ρ' env' h' a' w', lR env' h' → Ex G ρ ρ' → HR G ρ' h' w' → EnvR ρ' env' a' → Kp G w w' → nt ≤ a'.tmps.size → a'.defers = [] → Q .normal a' w') →
  wpAny C.P .any ops Q fuel listed a w
 | 0, listed, ρ, env, h, a, w, hp, H, he, hnt, hd, hQ => ⟨hp.1, hQ ρ env h a w hp.2 (Ex.refl G ρ) H he (Kp.refl G w) hnt hd⟩
 | f + 1, listed, ρ, env, h, a, w, hp, H, he, hnt, hd, hQ => by
  refine ⟨fun hr => hQ ρ env h a w (hp.1 hr) (Ex.refl G ρ) H he (Kp.refl G w) hnt hd, fun i hi => ?_⟩
  obtain ⟨o, v, h', ho, hf, hs, hn⟩ := hp.2 i hi
  refine uA (vO K H he hs) rfl ho H fun ρ' w' v' h2 h3 h4 h5 => ?_
  exact bNs K f _ ρ' _ h' _ w' hn h4 (he.put h2.ext h3 hf hnt) (by rw [lI]; exact hnt) (by rw [iS]; exact hd)
   fun ρ2 env2 hh a2 w2 e0 e1 e2 e3 e4 e5 e6 => hQ ρ2 env2 hh a2 w2 e0 (h2.trans e1) e2 e3 (h5.trans e4) e5 e6
def rO (C : Cfg) (rec : FuncId → List DV → Hp → aH) (nt : Nat) : Code → (Nat → bA → Hp → Prop) → (bA → Hp → Prop) → (bA → Hp → Prop) → bA → Hp → Prop
 | .skip, _, _, N => N
 | .region _ ops dr, _, _, N => fun env h => if dr then (aMb C rec nt ops (fun e h => oG h → N e h) ops.size (Array.replicate ops.size false) env h ∨
    (eL C.P ops = true ∧ ∃ k r, iO C rec nt ops k env h = some r ∧ ∀ env' h', k env' h' = some r → oG h' → N env' h'))
   else ∃ env' h', zR C rec nt ops ops.toList env h env' h' ∧ (oG h' → N env' h')
 | .seq a b, X, R, N => rO C rec nt a X R (rO C rec nt b X R N)
 | .cond c a b, X, R, N => fun env h => (opr env c = .b true ∧ rO C rec nt a X R N env h) ∨ (opr env c = .b false ∧ rO C rec nt b X R N env h)
 | .block id a, X, R, N => rO C rec nt a (fun j => if j = id then N else X j) R N
 | .exit id, X, _, _ => X id
 | .scope a, X, R, N => rO C rec nt a X R N
 | .ret, _, R, _ => R
 | _, _, _, _ => fun _ _ => False
def StP (G : Gd) (nt : Nat) (ρ : cM) (w0 : World) (N : bA → Hp → Prop) (a : Act) (w : World) : Prop :=
 ∃ ρ' env h, Ex G ρ ρ' ∧ HR G ρ' h w ∧ EnvR ρ' env a ∧ Kp G w0 w ∧ nt ≤ a.tmps.size ∧ a.defers = [] ∧ N env h
def QP (G : Gd) (nt : Nat) (ρ : cM) (w0 : World) (X : Nat → bA → Hp → Prop) (R N : bA → Hp → Prop) : Exit → Act → World → Prop
 | .normal, a, w => StP G nt ρ w0 N a w
 | .exit id, a, w => StP G nt ρ w0 (X id) a w
 | .ret, a, w => StP G nt ρ w0 R a w
 | _, _, _ => False
theorem bPr (K : OkC C rec) (hm : C.P.follows .mixedOrders = true) {ρ : cM} {w0 : World} : ∀ (c : Code) (X : Nat → bA → Hp → Prop) (R N : bA → Hp → Prop) (a : Act) (w : World),
  StP G nt ρ w0 (rO C rec nt c X R N) a w → c.wp C.P (QP G nt ρ w0 X R N) a w := by
 intro c
 induction c with
 | skip => intro X R N a w h; exact wp_skip h
 | region id ops dr =>
  intro X R N a w h
  obtain ⟨ρ', env, hp, h1, h2, h3, h4, h5, h6, h7⟩ := h
  cases dr with
  | true =>
   simp only [rO, if_true] at h7
   rcases h7 with h7 | ⟨hok, k, r, h7, h8⟩
   ·refine wp_region_any hm (bNs K ops.size _ ρ' env hp a _ h7 (h2.congr rfl) h3 h5 h6 fun ρ2 env2 h2' a2 w2 e0 e1 e2 e3 e4 e5 e6 => ?_)
    exact ⟨ρ2, env2, h2', h1.trans e1, e2, e3, (h4.trans ((Kp.refl G w).drew)).trans e4, e5, e6, e0 e2.isFresh⟩
   ·exact bAw K hm hok h7 h2 h3 h5 h6 fun ρ2 env2 h2' a2 w2 e1 e2 e3 e4 e5 e6 e7 => ⟨ρ2, env2, h2', h1.trans e1, e2, e3, h4.trans e4, e5, e6, h8 _ _ e7 e2.isFresh⟩
  | false =>
   simp only [rO, Bool.false_eq_true, if_false] at h7
   obtain ⟨env', h', hr, hk⟩ := h7
   refine wp_region ?_
   have := aFg (Q := QP G nt ρ w0 X R N) K ops.toList 0 ρ' env hp a w (by simp) hr h2 h3 h5 h6 fun ρ2 a2 w2 e1 e2 e3 e4 e5 e6 => ⟨ρ2, env', h', h1.trans e1, e2, e3, h4.trans e4, e5, e6, hk e2.isFresh⟩
   rw [List.range_eq_range']
   simpa using this
 | seq x y ihx ihy =>
  intro X R N a w h
  refine wp_seq (wp_mono (ihx X R (rO C rec nt y X R N) a w h) fun e a' w' hq => ?_)
  cases e with
  | normal => exact ihy X R N a' w' hq
  | exit id => exact hq
  | ret => exact hq
  | goto l => exact hq
  | panic ch => exact hq
  | outgrown => exact hq
 | cond c x y ihx ihy =>
  intro X R N a w h
  obtain ⟨ρ', env, hp, h1, h2, h3, h4, h5, h6, h7⟩ := h
  have hc := bD h3 c
  rcases h7 with ⟨hcb, h7⟩ | ⟨hcb, h7⟩
  ·rw [hcb] at hc
   generalize hcv : a.eval c = cv at hc
   cases hc
   exact wp_cond_true hcv (ihx X R N a w ⟨ρ', env, hp, h1, h2, h3, h4, h5, h6, h7⟩)
  ·rw [hcb] at hc
   generalize hcv : a.eval c = cv at hc
   cases hc
   exact wp_cond_false hcv (ihy X R N a w ⟨ρ', env, hp, h1, h2, h3, h4, h5, h6, h7⟩)
 | block id x ih =>
  intro X R N a w h
  refine wp_block (wp_mono (ih (fun j => if j = id then N else X j) R N a w h) fun e a' w' hq => ?_)
  cases e with
  | normal => exact hq
  | exit id' =>
   simp only [QP] at hq
   simp only [Exit.inBlock]
   split
   ·rename_i e
    rw [if_pos e] at hq
    exact hq
   ·rename_i e
    rw [if_neg e] at hq
    exact hq
  | ret => exact hq
  | goto l => exact hq
  | panic ch => exact hq
  | outgrown => exact hq
 | loop x ih => rintro X R N a w ⟨ρ', env, hp, h1, h2, h3, h4, h5, h6, h7⟩; exact h7.elim
 | rangeFunc f ps x y ihx ihy => rintro X R N a w ⟨ρ', env, hp, h1, h2, h3, h4, h5, h6, h7⟩; exact h7.elim
 | exit id => intro X R N a w h; exact wp_exit h
 | scope x ih =>
  intro X R N a w h
  refine wp_scope_straight (wp_mono (ih X R N a w h) fun e a' w' hq => ?_)
  cases e with
  | goto l => exact hq
  | normal => exact hq
  | exit id => exact hq
  | ret => exact hq
  | panic ch => exact hq
  | outgrown => exact hq
 | label l => rintro X R N a w ⟨ρ', env, hp, h1, h2, h3, h4, h5, h6, h7⟩; exact h7.elim
 | goto l => rintro X R N a w ⟨ρ', env, hp, h1, h2, h3, h4, h5, h6, h7⟩; exact h7.elim
 | ret => intro X R N a w h; exact wp_ret h
 | refuse why => rintro X R N a w ⟨ρ', env, hp, h1, h2, h3, h4, h5, h6, h7⟩; exact h7.elim
def Le (h2 h1 : Hp) : Prop := ∀ G ρ w, HR G ρ h2 w → HR G ρ h1 w
theorem cYp (K : OkC C rec) (hP : POk C.P) {f : FuncId} {fn : Func} {c : Code} (hf : C.P.funcs[f]? = some fn) (hb : fn.body = some c) {F : List DV → Hp → aH}
  (hF : ∀ args h v h1, F args h = some (v, h1) → oG h → rO C rec fn.ntmps c (fun _ _ _ => False) (fun env h' => ∃ h2, aV C fn env h' = some (v, h2) ∧ Le h2 h1)
   (fun env h' => ∃ h2, aV C fn env h' = some (v, h2) ∧ Le h2 h1) (aJ args) h) : hZ C.P G f F := by
 intro args h v h1 hr ρ w args' H hargs
 refine .inl ⟨?_, ?_⟩
 ·unfold callFunc
  have hn : ¬ fn.name = "runtime.NumGoroutine" := by simpa using hP.names f fn hf
  simp [hf, hn, hb]
 ·refine calls_of_wp hf hb ?_
  have he : EnvR ρ (aJ args) { tmps := args' ++ Array.replicate (fn.ntmps - args'.size) undef, defers := [] } := by
   intro t
   unfold aJ
   have hlen := hargs.length
   simp only [Array.length_toList] at hlen
   by_cases ht : t < args.length
   ·have hg : args[t]? = some args[t] := by simp [ht]
    obtain ⟨v', h2, h3⟩ := hargs.get t _ hg
    simp only [Array.getElem?_toList] at h2
    rw [show args.getD t aU = args[t] by simp [List.getD, hg]]
    have : (args' ++ Array.replicate (fn.ntmps - args'.size) undef).getD t undef = v' := by
     simp [Array.getElem?_append_left (show t < args'.size by omega), h2]
    rw [this]
    exact h3
   ·have hg : args.getD t aU = aU := by simp [List.getD, List.getElem?_eq_none (Nat.le_of_not_lt ht)]
    rw [hg]
    have : (args' ++ Array.replicate (fn.ntmps - args'.size) undef).getD t undef = undef := by
     rw [Array.getD_eq_getD_getElem?, Array.getElem?_append_right (by omega)]
     simp only [Array.getElem?_replicate]
     split <;> rfl
    rw [this]
    exact .t [] #[] .nil
  have hst : StP G fn.ntmps ρ w _ { tmps := args' ++ Array.replicate (fn.ntmps - args'.size) undef, defers := [] } w :=
   ⟨ρ, aJ args, h, Ex.refl G ρ, H, he, Kp.refl G w, by simp; omega, rfl, hF args h v h1 hr H.isFresh⟩
  refine wp_mono (bPr K hP.mixed c _ _ _ _ _ hst) fun e a' w' hq => ?_
  have hfin : StP G fn.ntmps ρ w (fun env h' => ∃ h2, aV C fn env h' = some (v, h2) ∧ Le h2 h1) a' w' → a'.defers = [] ∧ ∃ v', (results fn a'.tmps).run C.P w' = .ok v' w' ∧ lR G ρ w v h1 (.returned v') w' := by
   rintro ⟨ρ', env, h', e1, e2, e3, e4, e5, e6, h2, e7, e8⟩
   obtain ⟨rfl, v', r1, r2⟩ := aHe e2 e3 e7
   exact ⟨e6, v', r1, ρ', v', rfl, e1, r2, e8 _ _ _ e2, e4⟩
  cases e with
  | normal => exact hfin hq
  | ret => exact hfin hq
  | exit id => obtain ⟨ρ', env, h', e1, e2, e3, e4, e5, e6, e7⟩ := hq; exact e7.elim
  | goto l => exact hq.elim
  | panic ch => exact hq.elim
  | outgrown => exact hq.elim
end
end Go.Dd

namespace Go.Dd
open Go.RowKit (Below)
def Fw (ro : Option Nat) : Fence := { Fence.wide with round := ro }
theorem aPc {ro : Option Nat} {n : Nat} {P : Program} {f : FuncId} {args : Array Value} {w : World} {R : Ending → World → Prop} (h : Calls P f args w R) : CallsIn (Fw ro) n P f args w R := by
 have e : CallsIn Fence.wide n P f args w R := callsIn_wide.2 h
 exact e
theorem stepsIn_fw {ro : Option Nat} {P : Program} {m m' : Machine} : StepsIn (Machine.fenced P (Fw ro)) P m m' ↔ Steps P m m' := by
 exact stepsIn_wide (P := P)
def fS (o : Oper) : Bool := match o.op with
 | .defer _ => false
 | _ => true
section
variable {ro : Option Nat} {n : Nat} {P : Program} {Q : Exit → Act → World → Prop}
theorem bUn {o : Oper} {ρ : Operand → Value} (h : fS o = true) : o.semAt ro ρ = execOp ρ o := by
 refine Oper.semAt_eq ro ρ o fun c e => ?_
 unfold fS at h
 rw [e] at h
 cases h
theorem dHf {o : Oper} {a : Act} {w : World} {K : Act → World → Prop} (hd : fS o = true) (h : o.wp P a w K Q) : o.wpIn (Fw ro) n P a w K Q := by
 refine ⟨fun _ _ => trivial, ?_⟩
 show o.uponIn (Fw ro) n P a K Q ((o.semAt ro a.eval).run P w)
 rw [bUn hd]
 unfold Oper.wp at h
 generalize (execOp a.eval o).run P w = r at h
 cases r with
 | ok x w' =>
  cases x <;> first
   | exact h
   | exact h.elim
   | exact ⟨fun e => (by cases e), aPc h⟩
   | exact ⟨fun e => (by cases e), fun c cs _ => (let ⟨v, w2, r, s⟩ := h c cs; ⟨v, w2, r, stepsIn_fw.2 s⟩)⟩
 | halt x w' => cases x <;> exact h
theorem aHb {ops : Array Oper} {i : Nat} {K K' : Act → World → Prop} {a : Act} {w : World} (hd : ∀ o ∈ ops.toList, fS o = true) (hQ : ¬ LetsOut Q) (hK : ∀ a w, K a w → K' a w) (h : wpOp P ops Q i K a w) : wpOpIn (Fw ro) n P ops Q i K' a w := by
 unfold wpOp at h
 unfold wpOpIn
 cases ho : ops[i]? with
 | none => rw [ho] at h; exact hK _ _ h
 | some o =>
  rw [ho] at h
  dsimp only at h ⊢
  have hm : o ∈ ops.toList := by
   have := Array.mem_of_getElem? ho
   exact Array.mem_toList_iff.2 this
  split
  ·rename_i hw
   rw [if_pos hw] at h
   rcases h with h | h
   ·exact Oper.wpIn_mono hK (dHf (hd o hm) h)
   ·exact absurd h.2 hQ
  ·rename_i hw
   rw [if_neg hw] at h
   exact ⟨fun _ _ => trivial, hK _ _ h⟩
theorem aMo {ops : Array Oper} (hd : ∀ o ∈ ops.toList, fS o = true) (hQ : ¬ LetsOut Q) : ∀ (l : List Nat) (a : Act) (w : World), wpOps P ops Q l a w → wpOpsIn (Fw ro) n P ops Q l a w
 | [], a, w, h => h
 | i :: l, a, w, h => by
  rw [wpOps_cons] at h
  rw [wpOpsIn_cons]
  exact aHb hd hQ (aMo hd hQ l) h
theorem aMf {ops : Array Oper} {md : Region.Mode} (hd : ∀ o ∈ ops.toList, fS o = true) (hQ : ¬ LetsOut Q) : ∀ (fuel : Nat) (listed : Array Bool) (a : Act) (w : World), wpAny P md ops Q fuel listed a w → wpAnyIn (Fw ro) n P md ops Q fuel listed a w
 | 0, listed, a, w, h => h
 | fuel + 1, listed, a, w, h => ⟨h.1, fun i hi => aHb hd hQ (aMf hd hQ fuel _) (h.2 i hi)⟩
def dV : Code → Bool
 | .skip => true
 | .region _ ops _ => ops.toList.all fS
 | .seq x y => dV x && dV y
 | .cond _ x y => dV x && dV y
 | .block _ x => dV x
 | .loop x => dV x
 | .exit _ => true
 | .ret => true
 | _ => false
end
section
variable {C : Cfg} {G : Gd} {rec : FuncId → List DV → Hp → aH} {nt n : Nat}
theorem bMk {DD : List Deferred} {ρ : cM} {w0 : World} {X : Nat → K} {kr k : K} {r : DV × Hp} : ¬ LetsOut (QQ DD G nt ρ w0 X kr k r) := fun ⟨_, _, h⟩ => h
theorem aXj {ro : Option Nat} {N : Nat} {DD : List Deferred} (K : OkC C rec) (hm : C.P.follows .mixedOrders = true) {ρ : cM} {w0 : World} {r : DV × Hp} : ∀ (c : Code), dV c = true → ∀ (X : Nat → Dd.K) (kr k : Dd.K) (a : Act) (w : World),
  St DD G nt ρ w0 (aP C rec nt n c X kr k) r a w → c.wpIn (Fw ro) N C.P (QQ DD G nt ρ w0 X kr k r) a w := by
 intro c
 induction c with
 | skip => intro _ X kr k a w h; exact wpIn_skip h
 | region id ops dr =>
  intro hpc X kr k a w h
  have hd : ∀ o ∈ ops.toList, fS o = true := List.all_eq_true.1 hpc
  obtain ⟨ρ', env, hp, h1, h2, h3, h4, h5, h6, h7⟩ := h
  change (Bool.rec (motive := fun _ => Dd.K) (gW C rec nt ops ops.toList k) (Bool.rec (motive := fun _ => Dd.K) cQ (iO C rec nt ops k) (eL C.P ops)) dr) env hp = some r at h7
  cases dr with
  | true =>
   dsimp only at h7
   cases hok : eL C.P ops with
   | false => rw [hok] at h7; cases h7
   | true =>
    rw [hok] at h7
    exact wpIn_region_any hm (aMf hd bMk _ _ _ _ (aMv K hok h7 h2 h3 h5 h6 fun ρ2 env2 h2' a2 w2 e1 e2 e3 e4 e5 e6 e7 => ⟨ρ2, env2, h2', h1.trans e1, e2, e3, h4.trans e4, e5, e6, e7⟩))
  | false =>
   simp only [cond_false] at h7
   obtain ⟨env', h', hr, hk⟩ := nJ ops.toList k env hp r h7
   refine wpIn_region ?_
   have := aFg (Q := QQ DD G nt ρ w0 X kr k r) K ops.toList 0 ρ' env hp a w (by simp) hr h2 h3 h5 h6 fun ρ2 a2 w2 e1 e2 e3 e4 e5 e6 => ⟨ρ2, env', h', h1.trans e1, e2, e3, h4.trans e4, e5, e6, hk⟩
   rw [List.range_eq_range']
   exact aMo hd bMk _ _ _ (by simpa using this)
 | seq x y ihx ihy =>
  intro hpc X kr k a w h
  simp only [dV, Bool.and_eq_true] at hpc
  refine wpIn_seq (wpIn_mono (ihx hpc.1 X kr (aP C rec nt n y X kr k) a w h) fun e a' w' hq => ?_)
  cases e with
  | normal => exact ihy hpc.2 X kr k a' w' hq
  | exit id => exact hq
  | ret => exact hq
  | goto l => exact hq
  | panic ch => exact hq
  | outgrown => exact hq
 | cond c x y ihx ihy =>
  intro hpc X kr k a w h
  simp only [dV, Bool.and_eq_true] at hpc
  obtain ⟨ρ', env, hp, h1, h2, h3, h4, h5, h6, h7⟩ := h
  change aX (opr env c) (aP C rec nt n x X kr k env hp) (aP C rec nt n y X kr k env hp) = some r at h7
  have hc := bD h3 c
  unfold aX at h7
  split at h7 <;> (try (cases h7; done))
  ·rename_i hcb
   rw [hcb] at hc
   generalize hcv : a.eval c = cv at hc
   cases hc
   exact wpIn_cond_true hcv (ihx hpc.1 X kr k a w ⟨ρ', env, hp, h1, h2, h3, h4, h5, h6, h7⟩)
  ·rename_i hcb
   rw [hcb] at hc
   generalize hcv : a.eval c = cv at hc
   cases hc
   exact wpIn_cond_false hcv (ihy hpc.2 X kr k a w ⟨ρ', env, hp, h1, h2, h3, h4, h5, h6, h7⟩)
 | block id x ih =>
  intro hpc X kr k a w h
  refine wpIn_block (wpIn_mono (ih hpc (fun j => bif Nat.beq j id then k else X j) kr k a w h) fun e a' w' hq => ?_)
  cases e with
  | normal => exact hq
  | exit id' =>
   simp only [QQ] at hq
   simp only [Exit.inBlock, QQ]
   split
   ·rename_i e
    subst e
    have hb : Nat.beq id' id' = true := Nat.beq_refl id'
    rw [hb] at hq
    exact hq
   ·rename_i e
    have : Nat.beq id' id = false := by
     cases hb : Nat.beq id' id with
     | false => rfl
     | true => exact absurd (Nat.eq_of_beq_eq_true hb) e
    rw [this] at hq
    exact hq
  | ret => exact hq
  | goto l => exact hq
  | panic ch => exact hq
  | outgrown => exact hq
 | loop x ih =>
  intro hpc X kr k a w h
  have key : ∀ (m : Nat) (a : Act) (w : World), St DD G nt ρ w0 (aM (fun kk => aP C rec nt n x X kr kk) m) r a w → Code.roundsIn (Fw ro) N C.P x (QQ DD G nt ρ w0 X kr k r) m a w := by
   intro m
   induction m with
   | zero =>
    rintro a w ⟨ρ', env, hp, h1, h2, h3, h4, h5, h6, h7⟩
    cases h7
   | succ m ihm =>
    intro a w hs
    rw [roundsIn_succ]
    refine wpIn_mono (ih hpc X kr (aM (fun kk => aP C rec nt n x X kr kk) m) a w hs) fun e a' w' hq => ?_
    cases e with
    | normal => exact ihm a' w' hq
    | exit id => exact hq
    | ret => exact hq
    | goto l => exact hq
    | panic ch => exact hq
    | outgrown => exact hq
  exact wpIn_loop_rounds n (key n a w h)
 | exit id => intro _ X kr k a w h; exact wpIn_exit h
 | ret => intro _ X kr k a w h; exact wpIn_ret h
 | _ => intro hpc; cases hpc
end
end Go.Dd

namespace Go.Dd
open Go.RowKit (Below)
section
variable {G G' : Gd} {ρ : cM} {h : Hp} {w : World}
theorem HR.earlyO (H : HR G ρ h w) {b : Pos} (hb : ρ b = none) (hlt : b.toNat < h.next.toNat) (ob : Obj) :
  HR ⟨G.B, fun k => G.X k ∨ k = w.heap.size, G.N, G.W, G.ok⟩ (lV ρ b ⟨w.heap.size, 0, 0, none⟩) h (w.alloc ob) := by
 have hext : Ext ρ (lV ρ b ⟨w.heap.size, 0, 0, none⟩) := by
  intro x L hx
  by_cases e : x = b
  ·subst e; rw [hb] at hx; cases hx
  ·rw [aS _ _ e]; exact hx
 have hrow : h.bl.get b = none := by
  cases hr : h.bl.get b with
  | none => rfl
  | some o => obtain ⟨L, hL⟩ := H.dom b o hr; rw [hb] at hL; cases hL
 have hne : ∀ x o, h.bl.get x = some o → x ≠ b := fun x o hx e => by subst e; rw [hrow] at hx; cases hx
 have hcl : ∀ {x a}, Claims (lV ρ b ⟨w.heap.size, 0, 0, none⟩) h x a → Claims ρ h x a := by
  rintro x a ⟨k, l, L, h1, h2, h3⟩
  rw [aS _ _ (hne x _ h1)] at h2
  exact ⟨k, l, L, h1, h2, h3⟩
 have hblt : ∀ {x a}, Claims ρ h x a → a.block < w.heap.size := fun hc => by
  obtain ⟨v, hv⟩ := H.lt_cell hc
  exact eA hv
 refine { gl := fun k hk => by rw [Below.heap_alloc _ _ _ (Nat.lt_of_lt_of_le hk H.sz.1)]; exact H.gl k hk, sz := ⟨by have := H.sz.1; simp; omega, fun k hk => ?_⟩, nx := H.nx, ro := fun x a h1 h2 => H.ro x a (hcl h1) h2, dom := ?_, lt := ?_, cell := ?_, spare := ?_, free := ?_, inj := ?_, ex := ?_, grone := H.grone, itr := ?_, itj := ?_ }
 ·rcases hk with hk | hk
  ·have := H.sz.2 k hk; simp; omega
  ·simp; omega
 ·intro x o hx
  obtain ⟨L, hL⟩ := H.dom x o hx
  exact ⟨L, hext _ _ hL⟩
 ·intro x L hx
  by_cases e : x = b
  ·subst e; exact hlt
  ·rw [aS _ _ e] at hx; exact H.lt x L hx
 ·intro x k l L i v hx hL hi hv
  rw [aS _ _ (hne x _ hx)] at hL
  obtain ⟨v', h5, h6⟩ := H.cell x k l L i v hx hL hi hv
  exact ⟨v', by rw [dO (eA h5)]; exact h5, h6.mono hext⟩
 ·intro x l L es j hx hL hj
  rw [aS _ _ (hne x _ hx)] at hL
  obtain ⟨v', h5⟩ := H.spare x l L es j hx hL hj
  exact ⟨v', by rw [dO (eA h5)]; exact h5⟩
 ·intro x a hc hr
  have hlt' := hblt (hcl hc)
  obtain ⟨h3, h4, h5⟩ := H.free x a (hcl hc) hr
  refine ⟨by rw [fU (by omega)]; exact h3, h4, ?_⟩
  rintro (hk | hk)
  ·exact h5 hk
  ·omega
 ·intro x x' a hc hc' hr
  exact H.inj x x' a (hcl hc) (hcl hc') hr
 ·intro x l L hx hL
  have : x ≠ b := by rcases hx with hx | hx <;> exact hne x _ hx
  rw [aS _ _ this] at hL
  exact H.ex x l L hx hL
 ·intro x o L h0 hx hL
  rw [aS _ _ (hne x _ hx)] at hL
  obtain ⟨⟨h1, h1'⟩, h2, bs, h3, h4⟩ := H.itr x o L h0 hx hL
  have hlt' : L.bl < w.heap.size := by
   rcases Nat.lt_or_ge L.bl w.heap.size with h | h
   ·exact h
   ·simp [Array.getElem?_eq_none h] at h3
  refine ⟨⟨h1, ?_⟩, h2, bs, by rw [Below.heap_alloc _ _ _ hlt']; exact h3, h4.mono hext⟩
  rintro (hk | hk)
  ·exact h1' hk
  ·omega
 ·intro x o x' o' L L' h0 h0' hx hx' hL hL' he
  rw [aS _ _ (hne x _ hx)] at hL
  rw [aS _ _ (hne x' _ hx')] at hL'
  exact H.itj x o x' o' L L' h0 h0' hx hx' hL hL' he
theorem aKg {w : World} {l : Nat} {o o' : Obj} (hl : w.heap[l]? = some o) (ho : o.isCells = false) (ho' : o'.isCells = false) (a : Addr) : (w.putObj l o').cell? a = w.cell? a := by
 by_cases e : a.block = l
 ·have h1 : (w.putObj l o').heap[a.block]? = some o' := by rw [e]; exact World.putObj_heap_same (Array.getElem?_eq_some_iff.1 hl).1
  have h2 : w.heap[a.block]? = some o := by rw [e]; exact hl
  unfold World.cell?
  rw [h1, h2]
  cases o <;> cases ho <;> cases o' <;> cases ho' <;> rfl
 ·unfold World.cell?
  rw [World.putObj_heap_other e]
theorem aOq {w : World} {l : Nat} {o' : Obj} {a : Addr} (e : a.block ≠ l) : (w.putObj l o').frozen? a = w.frozen? a := by
 unfold World.frozen?
 rw [World.putObj_heap_other e]
theorem HR.putX (H : HR G ρ h w) {l : Nat} {o o' : Obj} (hB : G.B ≤ l) (hX : G.X l) (hl : w.heap[l]? = some o) (ho : o.isCells = false) (ho' : o'.isCells = false) : HR G ρ h (w.putObj l o') where
 gl := fun k hk => by rw [World.putObj_heap_other (by omega)]; exact H.gl k hk
 sz := by
  have e : (w.putObj l o').heap.size = w.heap.size := by simp [World.putObj]
  rw [e]
  exact H.sz
 nx := H.nx
 ro := H.ro
 dom := H.dom
 lt := H.lt
 cell := fun b k L i v v' h1 h2 h3 h4 => by
  obtain ⟨x, h5, h6⟩ := H.cell b k L i v v' h1 h2 h3 h4
  exact ⟨x, by rw [aKg hl ho ho']; exact h5, h6⟩
 spare := fun b k L es j h1 h2 h3 => by
  obtain ⟨x, h5⟩ := H.spare b k L es j h1 h2 h3
  exact ⟨x, by rw [aKg hl ho ho']; exact h5⟩
 free := fun b a h1 h2 => by
  obtain ⟨h3, h4, h5⟩ := H.free b a h1 h2
  exact ⟨by rw [aOq (by intro e; rw [e] at h5; exact h5 hX)]; exact h3, h4, h5⟩
 inj := H.inj
 ex := H.ex
 grone := H.grone
 itr := fun b o2 L h0 h1 h2 => by
  obtain ⟨⟨h3, h4⟩, h5, x, h6, h7⟩ := H.itr b o2 L h0 h1 h2
  exact ⟨⟨h3, h4⟩, h5, x, by rw [World.putObj_heap_other (by intro e; rw [e] at h4; exact h4 hX)]; exact h6, h7⟩
 itj := H.itj
theorem Kp.putX {w0 : World} (k : Kp G w0 w) {l : Nat} {o o' : Obj} (hO : Own G l) (hs : ∀ k, G.X k → k < w0.heap.size) (hB : G.B ≤ w0.heap.size) (hl : w.heap[l]? = some o) : Kp G w0 (w.putObj l o') where
 low := k.low.grown (grownBy_putObj' w l o') (Nat.le_trans hB k.low.size) (fun j e => by cases e; exact hO.1)
 ex := fun j hj => by rw [World.putObj_heap_other (by intro e; subst e; exact hO.2 hj)]; exact k.ex j hj
end
end Go.Dd

namespace Go.Dd
open Go.RowKit (Below)
structure ItC where
 gf : FuncId
 nt : Nat
 pre : Code
 b0 : Nat
 test : Code
 b1 : Nat
 rid : Nat
 front : List Oper
 y : Oper
 back : List Oper
 after : Code
 post : Code
 step : Code
 yd : Tmp
 yt : Tmp
 yx : Tmp
def ItC.ops (I : ItC) : Array Oper := (I.front ++ I.y :: I.back).toArray
def ItC.round (I : ItC) : Code := .seq I.test (.seq (.block I.b1 (.seq (.seq (.region I.rid I.ops false) I.after) I.post)) I.step)
def ItC.code (I : ItC) : Code := .seq I.pre (.block I.b0 (.loop I.round))
def kT : Nat → K := fun _ => cQ
def ylB (v : DV) (b : Pos) : Bool := match v with
 | .yl b' => b' == b
 | _ => false
section
variable (C : Cfg) (rec : FuncId → List DV → Hp → aH) (n : Nat) (I : ItC)
noncomputable def qU (b : Bool) (kr k : K) (e1 : bA) : Hp → aH := fun h =>
 cnd (cZ I.nt (some I.yd)) (gW C rec I.nt I.ops I.back (aP C rec I.nt n I.after kT kr k) (bO e1 (some I.yd) (.b b)) h)
noncomputable def aCu (nt : Nat) (p : Tmp) (x y : Code) (env : bA) (X : Nat → K) (kr kk : K) : K := fun e1 h1 =>
 cnd (cZ nt (some p)) (aP C rec nt n x kT cQ (aP C rec nt n y
   (fun i _ h2 => qU C rec n I false (fun _ h3 => X i env h3) cQ e1 h2)
   (fun _ h2 => qU C rec n I false (fun _ h3 => kr env h3) cQ e1 h2)
   (fun _ h2 => qU C rec n I true cQ (aP C rec I.nt n I.post kT cQ (aP C rec I.nt n I.step kT cQ kk)) e1 h2))
  (bO env (some p) (e1 I.yx)) h1)
noncomputable def nK (nt : Nat) (g : Operand) (p : Tmp) (x y : Code) (X : Nat → K) (kr k : K) : K := fun env h =>
 match opr env g with
 | .f gf [] cap => cnd (Nat.beq gf I.gf) (aP C rec I.nt n I.pre kT cQ
   (aM (fun kk => aP C rec I.nt n I.test (fun j => bif Nat.beq j I.b0 then (fun _ h => k env h) else cQ) cQ
    (gW C rec I.nt I.ops I.front (fun e1 h1 => cnd (ylB (e1 I.yt) h.next) (aCu C rec n I nt p x y env X kr kk e1 h1)))) n)
   (aJ (.yl h.next :: cap)) (resv 2 h))
 | _ => none
end
structure ItOk (P : Program) (I : ItC) : Prop where
 pre : dV I.pre = true
 test : dV I.test = true
 after : dV I.after = true
 post : dV I.post = true
 step : dV I.step = true
 ops : ∀ o ∈ I.ops.toList, fS o = true
 dst : I.y.dst = some I.yd
 guard : I.y.guard = none
 op : ∃ tys, I.y.op = .call ⟨.value (.tmp I.yt), #[.tmp I.yx], tys⟩
 fn : ∃ fn, P.funcs[I.gf]? = some fn ∧ fn.body = some I.code ∧ fn.ntmps = I.nt ∧ fn.results = #[] ∧ (fn.name == "runtime.NumGoroutine") = false
theorem aLu {ρ : cM} {args : List DV} {args' : Array Value} (hargs : VRs ρ args args'.toList) (nt : Nat) (ds : List Deferred) : EnvR ρ (aJ args) { tmps := args' ++ Array.replicate (nt - args'.size) undef, defers := ds } := by
 intro t
 unfold aJ
 have hlen := hargs.length
 simp only [Array.length_toList] at hlen
 by_cases ht : t < args.length
 ·have hg : args[t]? = some args[t] := by simp [ht]
  obtain ⟨v', h2, h3⟩ := hargs.get t _ hg
  simp only [Array.getElem?_toList] at h2
  rw [show args.getD t aU = args[t] by simp [List.getD, hg]]
  have : (args' ++ Array.replicate (nt - args'.size) undef).getD t undef = v' := by
   simp [Array.getElem?_append_left (show t < args'.size by omega), h2]
  rw [this]
  exact h3
 ·have hg : args.getD t aU = aU := by simp [List.getD, List.getElem?_eq_none (Nat.le_of_not_lt ht)]
  rw [hg]
  have : (args' ++ Array.replicate (nt - args'.size) undef).getD t undef = undef := by
   rw [Array.getD_eq_getD_getElem?, Array.getElem?_append_right (by omega)]
   simp only [Array.getElem?_replicate]
   split <;> rfl
  rw [this]
  exact .t [] #[] .nil
def GD (G : Gd) (D : Nat) : Gd := ⟨G.B, fun k => G.X k ∨ k = D, G.N, G.W, G.ok⟩
theorem Ex.ofGD {G : Gd} {D : Nat} {ρ ρ' : cM} (h : Ex (GD G D) ρ ρ') : Ex G ρ ρ' := ⟨h.ext, h.new⟩
theorem Kp.ofGD {G : Gd} {D : Nat} {w w' : World} (h : Kp (GD G D) w w') : Kp G w w' := ⟨h.low, fun k hk => h.ex k (.inl hk)⟩
section
variable {C : Cfg} {G : Gd} {rec : FuncId → List DV → Hp → aH} {n : Nat} {I : ItC} {N : Nat}
def StM (DD : List Deferred) (G : Gd) (nt : Nat) (ρ : cM) (w0 : World) (k : K) (r : DV × Hp) (a : Act) (w : World) : Prop :=
 ∃ D ρ' env h, Ex G ρ ρ' ∧ HR (GD G D) ρ' h w ∧ EnvR ρ' env a ∧ Kp G w0 w ∧ nt ≤ a.tmps.size ∧ a.defers = { target := .collected D, args := #[] } :: DD ∧ Own G D ∧ w.heap[D]? = some (.deferred (some [])) ∧ k env h = some r
def QM (DD : List Deferred) (G : Gd) (nt : Nat) (ρ : cM) (w0 : World) (X : Nat → K) (kr k : K) (r : DV × Hp) : Exit → Act → World → Prop
 | .normal, a, w => StM DD G nt ρ w0 k r a w
 | .exit id, a, w => StM DD G nt ρ w0 (X id) r a w
 | .ret, a, w => StM DD G nt ρ w0 kr r a w
 | _, _, _ => False
structure Iv (G : Gd) (ρ : cM) (w0 : World) (D l : Nat) (rc : Loop) (ρ' : cM) (h : Hp) (W : World) : Prop where
 ex : Ex G ρ ρ'
 hr : HR (GD (GD G D) l) ρ' h W
 kp : Kp G w0 W
 hl : W.heap[l]? = some (.loop rc)
 hD : W.heap[D]? = some (.deferred (some []))
def SS (G : Gd) (ρ : cM) (w0 : World) (D l : Nat) (rc : Loop) (ds : List Deferred) (nt : Nat) (K : K) (r : DV × Hp) (a : Act) (W : World) : Prop :=
 ∃ ρ' env h, Iv G ρ w0 D l rc ρ' h W ∧ EnvR ρ' env a ∧ nt ≤ a.tmps.size ∧ a.defers = ds ∧ K env h = some r
def QS (G : Gd) (ρ : cM) (w0 : World) (D l : Nat) (rc : Loop) (ds : List Deferred) (nt : Nat) (X : Nat → K) (kr k : K) (r : DV × Hp) : Exit → Act → World → Prop
 | .normal, a, w => SS G ρ w0 D l rc ds nt k r a w
 | .exit id, a, w => SS G ρ w0 D l rc ds nt (X id) r a w
 | .ret, a, w => SS G ρ w0 D l rc ds nt kr r a w
 | _, _, _ => False
theorem Iv.step {ρ : cM} {w0 : World} {D l : Nat} {rc : Loop} {ρ' ρ2 : cM} {h h2 : Hp} {W W2 : World} (v : Iv G ρ w0 D l rc ρ' h W) (e : Ex (GD (GD G D) l) ρ' ρ2) (H : HR (GD (GD G D) l) ρ2 h2 W2) (k : Kp (GD (GD G D) l) W W2) : Iv G ρ w0 D l rc ρ2 h2 W2 where
 ex := v.ex.trans e.ofGD.ofGD
 hr := H
 kp := v.kp.trans k.ofGD.ofGD
 hl := by rw [k.ex l (.inr rfl)]; exact v.hl
 hD := by rw [k.ex D (.inl (.inr rfl))]; exact v.hD
theorem kQ {ro : Option Nat} (K : OkC C rec) (hm : C.P.follows .mixedOrders = true) {ρ : cM} {w0 : World} {D l : Nat} {rc : Loop} {ds : List Deferred} {nt : Nat} {X : Nat → Dd.K} {kr k : Dd.K} {r : DV × Hp} {a : Act} {W : World} (c : Code) (hc : dV c = true)
  (h : SS G ρ w0 D l rc ds nt (aP C rec nt n c X kr k) r a W) : c.wpIn (Fw ro) N C.P (QS G ρ w0 D l rc ds nt X kr k r) a W := by
 obtain ⟨ρ', env, hp, v, he, hnt, hd, hk⟩ := h
 refine wpIn_mono (aXj (DD := ds) (G := GD (GD G D) l) (ρ := ρ') (w0 := W) K hm c hc X kr k a W ⟨ρ', env, hp, Ex.refl _ _, v.hr, he, Kp.refl _ _, hnt, hd, hk⟩) fun e a' w' hq => ?_
 cases e with
 | normal => obtain ⟨ρ2, env2, h2, e1, e2, e3, e4, e5, e6, e7⟩ := hq; exact ⟨ρ2, env2, h2, v.step e1 e2 e4, e3, e5, e6, e7⟩
 | exit id => obtain ⟨ρ2, env2, h2, e1, e2, e3, e4, e5, e6, e7⟩ := hq; exact ⟨ρ2, env2, h2, v.step e1 e2 e4, e3, e5, e6, e7⟩
 | ret => obtain ⟨ρ2, env2, h2, e1, e2, e3, e4, e5, e6, e7⟩ := hq; exact ⟨ρ2, env2, h2, v.step e1 e2 e4, e3, e5, e6, e7⟩
 | goto l => exact hq
 | panic ch => exact hq
 | outgrown => exact hq
theorem bNu {G : Gd} {ro : Option Nat} (K : OkC C rec) {nt : Nat} {DD : List Deferred} {ops : Array Oper} {Q : Exit → Act → World → Prop} {env' : bA} {h' : Hp} (hops : ∀ o ∈ ops.toList, fS o = true) (hQo : ¬ LetsOut Q) (rest : List Nat) : ∀ (l : List Oper) (i : Nat) (ρ : cM) (env : bA) (h : Hp) (a : Act) (w : World),
  (∀ j : Nat, j < l.length → l[j]? = ops[i + j]?) → zR C rec nt ops l env h env' h' → HR G ρ h w → EnvR ρ env a → nt ≤ a.tmps.size → a.defers = DD →
  (∀ ρ' a' w', Ex G ρ ρ' → HR G ρ' h' w' → EnvR ρ' env' a' → Kp G w w' → nt ≤ a'.tmps.size → a'.defers = DD → wpOpsIn (Fw ro) N C.P ops Q rest a' w') → wpOpsIn (Fw ro) N C.P ops Q (List.range' i l.length ++ rest) a w
 | [], i, ρ, env, h, a, w, _, hr, H, he, hnt, hd, hQ => by
  obtain ⟨rfl, rfl⟩ := hr
  exact hQ ρ a w (Ex.refl G ρ) H he (Kp.refl G w) hnt hd
 | o :: os, i, ρ, env, h, a, w, hl, hr, H, he, hnt, hd, hQ => by
  obtain ⟨hf, v, h1, hs, hr'⟩ := hr
  have hi : ops[i]? = some o := by simpa using (hl 0 (by simp)).symm
  simp only [List.length_cons, List.range'_succ, List.cons_append]
  rw [wpOpsIn_cons]
  refine aHb (K := fun a w => wpOpsIn (Fw ro) N C.P ops Q (List.range' (i + 1) os.length ++ rest) a w) hops hQo (fun _ _ h => h) (uA (vO K H he hs) rfl hi H fun ρ' w' v' h2 h3 h4 h5 => ?_)
  refine bNu (DD := DD) K hops hQo rest os (i + 1) ρ' _ h1 _ w' (fun j hj => ?_) hr' h4 (he.put h2.ext h3 hf hnt) (by rw [lI]; exact hnt) (by rw [iS]; exact hd) fun ρ2 a2 w2 e1 e2 e3 e4 e5 e6 => ?_
  ·have := hl (j + 1) (by simpa using hj)
   simpa [Nat.add_assoc, Nat.add_comm 1 j] using this
  ·exact hQ ρ2 a2 w2 (h2.trans e1) e2 e3 (h5.trans e4) e5 e6
theorem aOz {ro : Option Nat} (K : OkC C rec) {ρ : cM} {w0 : World} {D l : Nat} {rc : Loop} {ds : List Deferred} {nt : Nat} {k : Dd.K} {r : DV × Hp} {a : Act} {W : World} {ops : Array Oper} {Q : Exit → Act → World → Prop} (hops : ∀ o ∈ ops.toList, fS o = true) (L : List Oper) (i : Nat) (hL : ∀ j : Nat, j < L.length → L[j]? = ops[i + j]?)
  (hQ : ¬ LetsOut Q) (h : SS G ρ w0 D l rc ds nt (gW C rec nt ops L k) r a W) (rest : List Nat) (hn : ∀ a W, SS G ρ w0 D l rc ds nt k r a W → wpOpsIn (Fw ro) N C.P ops Q rest a W) : wpOpsIn (Fw ro) N C.P ops Q (List.range' i L.length ++ rest) a W := by
 obtain ⟨ρ', env, hp, v, he, hnt, hd, hk⟩ := h
 obtain ⟨env', h', hr, hk'⟩ := nJ L k env hp r hk
 exact bNu (G := GD (GD G D) l) (DD := ds) K hops hQ rest L i ρ' env hp a W hL hr v.hr he hnt hd fun ρ2 a2 w2 e1 e2 e3 e4 e5 e6 => hn a2 w2 ⟨ρ2, env', h', v.step e1 e2 e4, e3, e5, e6, hk'⟩
end
end Go.Dd

namespace Go.Dd
open Go.RowKit (Below)
theorem bCh {P : Program} {o : Oper} {a : Act} {W : World} {t x p : Tmp} {tys : Array TypeId} {l : Nat} {rc : Loop} (ho : o.op = .call ⟨.value (.tmp t), #[.tmp x], tys⟩) (ht : a.eval (.tmp t) = .func (.yield l) #[] #[])
  (hl : W.heap[l]? = some (.loop rc)) (hp : rc.params = #[p]) : (execOp a.eval o).run P W = .ok (.round l rc.fn (rc.tmps.setIfInBounds p (a.eval (.tmp x))) rc.assign rc.body) W := by
 have hy := run_yield (P := P) (args := #[a.eval (.tmp x)]) hl (by rw [hp]; rfl)
 rw [hp] at hy
 unfold execOp
 rw [ho]
 simp only [resolve, ht, Deferred.ofValue, Sem.run_bind, Sem.run_pure, Result.andThen, List.map_toArray, List.map_cons, List.map_nil]
 simp only [Array.map, List.map] at *
 simpa [invoke] using hy
section
variable {C : Cfg} {G : Gd} {rec : FuncId → List DV → Hp → aH} {n : Nat} {I : ItC} {N : Nat}
def oA (f : FuncId) (tmps : Array Value) (p : Tmp) (x y : Code) (D : Nat) (st : LoopState) (pe : Option Code) : Loop := { state := st, pending := pe, fn := f, tmps := tmps, params := #[p], assign := x, body := y, defers := D }
theorem Iv.put {ρ : cM} {w0 : World} {D l : Nat} {rc : Loop} {ρ' : cM} {h : Hp} {W : World} (v : Iv G ρ w0 D l rc ρ' h W) (rc' : Loop) (hD : D ≠ l) (hO : Own G l) (hs : ∀ k, G.X k → k < w0.heap.size) (hB : G.B ≤ w0.heap.size) : Iv G ρ w0 D l rc' ρ' h (W.putObj l (.loop rc')) where
 ex := v.ex
 hr := v.hr.putX hO.1 (.inr rfl) v.hl rfl rfl
 kp := v.kp.putX hO hs hB v.hl
 hl := World.putObj_heap_same (Array.getElem?_eq_some_iff.1 v.hl).1
 hD := by rw [World.putObj_heap_other hD]; exact v.hD
def QI (G : Gd) (ρ : cM) (w0 : World) (D l nt : Nat) (rc : LoopState → Option Code → Loop) (env : bA) (X : Nat → K) (kr k : K) (r : DV × Hp) : Exit → Act → World → Prop
 | .normal, a, w => SS G ρ w0 D l (rc .ready none) [] nt (fun _ h => k env h) r a w
 | .ret, a, w => ∃ c J, ((c = .ret ∧ J = kr) ∨ ∃ i, c = .exit i ∧ J = X i) ∧ SS G ρ w0 D l (rc .done (some c)) [] nt (fun _ h => J env h) r a w
 | _, _, _ => False
theorem ItC.ops_size (I : ItC) : I.ops.size = I.front.length + (I.back.length + 1) := by simp [ItC.ops]
theorem ItC.ops_front (I : ItC) (j : Nat) (h : j < I.front.length) : I.front[j]? = I.ops[0 + j]? := by
 simp [ItC.ops, List.getElem?_append_left h]
theorem ItC.ops_y (I : ItC) : I.ops[I.front.length]? = some I.y := by simp [ItC.ops]
theorem ItC.ops_back (I : ItC) (j : Nat) (h : j < I.back.length) : I.back[j]? = I.ops[I.front.length + 1 + j]? := by
 simp only [ItC.ops, List.getElem?_toArray]
 rw [List.getElem?_append_right (by omega), show I.front.length + 1 + j - I.front.length = j + 1 by omega, List.getElem?_cons_succ]
theorem ItC.ops_range (I : ItC) : List.range I.ops.size = List.range' 0 I.front.length ++ I.front.length :: (List.range' (I.front.length + 1) I.back.length ++ []) := by
 rw [I.ops_size, List.range_eq_range', ← List.range'_append_1, List.append_nil, Nat.zero_add, List.range'_succ]
section
variable {ρ : cM} {w0 : World} {D l : Nat} {nt : Nat} {p : Tmp} {x y : Code} {f0 : FuncId} {a0 : Act} {env : bA} {X : Nat → Dd.K} {kr k : Dd.K} {r : DV × Hp} {b : Pos}
theorem bCq (K : OkC C rec) (hm : C.P.follows .mixedOrders = true) (iOk : ItOk C.P I) {rc : LoopState → Option Code → Loop} {kk : Dd.K} {Qr : Exit → Act → World → Prop} (hQr : ¬ LetsOut Qr)
  (ih : ∀ a W, SS G ρ w0 D l (rc .ready none) [] I.nt kk r a W → Qr .normal a W) {a : Act} {W : World}
  (h : SS G ρ w0 D l (rc .ready none) [] I.nt (gW C rec I.nt I.ops I.back (aP C rec I.nt n I.after kT cQ (aP C rec I.nt n I.post kT cQ (aP C rec I.nt n I.step kT cQ kk)))) r a W) :
  wpOpsIn (Fw none) N C.P I.ops (Exit.then (I.after.wpIn (Fw none) N C.P (Exit.then (I.post.wpIn (Fw none) N C.P (Exit.inBlock I.b1 (Exit.then (I.step.wpIn (Fw none) N C.P Qr) Qr))) (Exit.inBlock I.b1 (Exit.then (I.step.wpIn (Fw none) N C.P Qr) Qr)))) (Exit.then (I.post.wpIn (Fw none) N C.P (Exit.inBlock I.b1 (Exit.then (I.step.wpIn (Fw none) N C.P Qr) Qr))) (Exit.inBlock I.b1 (Exit.then (I.step.wpIn (Fw none) N C.P Qr) Qr))))
   (List.range' (I.front.length + 1) I.back.length ++ []) a W := by
 refine aOz K iOk.ops I.back (I.front.length + 1) (fun j hj => I.ops_back j hj) ?_ h [] fun a1 W1 h1 => ?_
 ·rintro ⟨a, w, q⟩
  exact hQr ⟨a, w, q⟩
 show I.after.wpIn (Fw none) N C.P _ a1 W1
 refine wpIn_mono (kQ K hm I.after iOk.after h1) fun e a2 W2 hq => ?_
 cases e with
 | normal =>
  show I.post.wpIn (Fw none) N C.P _ a2 W2
  refine wpIn_mono (kQ K hm I.post iOk.post hq) fun e a3 W3 hq => ?_
  cases e with
  | normal =>
   show I.step.wpIn (Fw none) N C.P Qr a3 W3
   refine wpIn_mono (kQ K hm I.step iOk.step hq) fun e a4 W4 hq => ?_
   cases e with
   | normal => exact ih a4 W4 hq
   | exit id => obtain ⟨_, _, _, _, _, _, _, q⟩ := hq; cases q
   | ret => obtain ⟨_, _, _, _, _, _, _, q⟩ := hq; cases q
   | goto l => exact hq.elim
   | panic ch => exact hq.elim
   | outgrown => exact hq.elim
  | exit id => obtain ⟨_, _, _, _, _, _, _, q⟩ := hq; cases q
  | ret => obtain ⟨_, _, _, _, _, _, _, q⟩ := hq; cases q
  | goto l => exact hq.elim
  | panic ch => exact hq.elim
  | outgrown => exact hq.elim
 | exit id => obtain ⟨_, _, _, _, _, _, _, q⟩ := hq; cases q
 | ret => obtain ⟨_, _, _, _, _, _, _, q⟩ := hq; cases q
 | goto l => exact hq.elim
 | panic ch => exact hq.elim
 | outgrown => exact hq.elim
theorem wN (K : OkC C rec) (hm : C.P.follows .mixedOrders = true) (iOk : ItOk C.P I) {rc : Loop} {J : Dd.K} {Qr : Exit → Act → World → Prop} (hQr : ¬ LetsOut Qr)
  (ih : ∀ a W, SS G ρ w0 D l rc [] I.nt J r a W → Qr .ret a W) {a : Act} {W : World}
  (h : SS G ρ w0 D l rc [] I.nt (gW C rec I.nt I.ops I.back (aP C rec I.nt n I.after kT J cQ)) r a W) :
  wpOpsIn (Fw none) N C.P I.ops (Exit.then (I.after.wpIn (Fw none) N C.P (Exit.then (I.post.wpIn (Fw none) N C.P (Exit.inBlock I.b1 (Exit.then (I.step.wpIn (Fw none) N C.P Qr) Qr))) (Exit.inBlock I.b1 (Exit.then (I.step.wpIn (Fw none) N C.P Qr) Qr)))) (Exit.then (I.post.wpIn (Fw none) N C.P (Exit.inBlock I.b1 (Exit.then (I.step.wpIn (Fw none) N C.P Qr) Qr))) (Exit.inBlock I.b1 (Exit.then (I.step.wpIn (Fw none) N C.P Qr) Qr))))
   (List.range' (I.front.length + 1) I.back.length ++ []) a W := by
 refine aOz K iOk.ops I.back (I.front.length + 1) (fun j hj => I.ops_back j hj) ?_ h [] fun a1 W1 h1 => ?_
 ·rintro ⟨a, w, q⟩
  exact hQr ⟨a, w, q⟩
 show I.after.wpIn (Fw none) N C.P _ a1 W1
 refine wpIn_mono (kQ K hm I.after iOk.after h1) fun e a2 W2 hq => ?_
 cases e with
 | normal => obtain ⟨_, _, _, _, _, _, _, q⟩ := hq; cases q
 | exit id => obtain ⟨_, _, _, _, _, _, _, q⟩ := hq; cases q
 | ret => exact ih a2 W2 hq
 | goto l => exact hq.elim
 | panic ch => exact hq.elim
 | outgrown => exact hq.elim
end
end
end Go.Dd

namespace Go.Dd
open Go.RowKit (Below)
section
variable {C : Cfg} {G : Gd} {rec : FuncId → List DV → Hp → aH} {n : Nat} {I : ItC} {N : Nat}
variable {ρ : cM} {w0 : World} {D l : Nat} {nt : Nat} {p : Tmp} {x y : Code} {f0 : FuncId} {a0 : Act} {env : bA} {X : Nat → Dd.K} {kr k : Dd.K} {r : DV × Hp} {b : Pos}
noncomputable def aKq (C : Cfg) (rec : FuncId → List DV → Hp → aH) (n : Nat) (I : ItC) (nt : Nat) (p : Tmp) (x y : Code) (env : bA) (X : Nat → K) (kr k : K) (b : Pos) (kk : K) : K :=
 aP C rec I.nt n I.test (fun j => bif Nat.beq j I.b0 then (fun _ h => k env h) else cQ) cQ
  (gW C rec I.nt I.ops I.front (fun e1 h1 => cnd (ylB (e1 I.yt) b) (aCu C rec n I nt p x y env X kr kk e1 h1)))
theorem cPs {v : DV} {b : Pos} (h : ylB v b = true) : v = .yl b := by
 unfold ylB at h
 split at h
 ·rename_i b'
  have : b' = b := by simpa using h
  rw [this]
 ·cases h
theorem qE {c : Bool} {q : aH} {z : DV × Hp} (h : cnd c q = some z) : c = true ∧ q = some z := by
 cases c with
 | false => cases h
 | true => exact ⟨rfl, h⟩
theorem Iv.base {rc : Loop} {ρ' : cM} {h : Hp} {W : World} (v : Iv G ρ w0 D l rc ρ' h W) : Iv G ρ' w0 D l rc ρ' h W := ⟨Ex.refl _ _, v.hr, v.kp, v.hl, v.hD⟩
theorem Iv.up {rc : Loop} {ρ' ρ2 : cM} {h : Hp} {W : World} (v : Iv G ρ' w0 D l rc ρ2 h W) (e : Ex G ρ ρ') : Iv G ρ w0 D l rc ρ2 h W := ⟨e.trans v.ex, v.hr, v.kp, v.hl, v.hD⟩
theorem SS.out {rc : Loop} {ds : List Deferred} {nt : Nat} {a : Act} {W : World} (h : SS G ρ w0 D l rc ds nt cQ r a W) : False := by
 obtain ⟨_, _, _, _, _, _, _, q⟩ := h
 cases q
theorem cJk (K : OkC C rec) (hm : C.P.follows .mixedOrders = true) (iOk : ItOk C.P I) (hx : dV x = true) (hy : dV y = true) (hDl : D ≠ l) (hOl : Own G l) (hs : ∀ k, G.X k → k < w0.heap.size) (hB : G.B ≤ w0.heap.size)
  (hb : ρ b = some ⟨l, 0, 0, none⟩) (he0 : EnvR ρ env a0) (hnt0 : nt ≤ a0.tmps.size) :
  ∀ (m : Nat) (a : Act) (W : World), SS G ρ w0 D l (oA f0 a0.tmps p x y D .ready none) [] I.nt (aM (aKq C rec n I nt p x y env X kr k b) m) r a W →
   Code.roundsIn (Fw none) N C.P I.round (Exit.inBlock I.b0 (QI G ρ w0 D l I.nt (oA f0 a0.tmps p x y D) env X kr k r)) m a W := by
 intro m
 induction m with
 | zero => intro a W h; exact h.out.elim
 | succ m ih =>
  intro a W h
  rw [roundsIn_succ]
  change SS G ρ w0 D l _ [] I.nt (aKq C rec n I nt p x y env X kr k b (aM (aKq C rec n I nt p x y env X kr k b) m)) r a W at h
  refine wpIn_seq (wpIn_mono (kQ K hm I.test iOk.test h) fun e a1 W1 hq => ?_)
  cases e with
  | exit id =>
   obtain ⟨ρ', e', h', v, h2, h3, h4, h5⟩ := hq
   dsimp only at h5
   show Exit.inBlock I.b0 (QI G ρ w0 D l I.nt (oA f0 a0.tmps p x y D) env X kr k r) (.exit id) a1 W1
   cases hid : Nat.beq id I.b0 with
   | false => rw [hid] at h5; cases h5
   | true =>
    rw [hid] at h5
    have e0 : id = I.b0 := Nat.eq_of_beq_eq_true hid
    unfold Exit.inBlock
    simp only
    rw [if_pos e0]
    exact ⟨ρ', e', h', v, h2, h3, h4, h5⟩
  | ret => exact (SS.out hq).elim
  | goto l => exact hq.elim
  | panic ch => exact hq.elim
  | outgrown => exact hq.elim
  | normal =>
   have hQr : ¬ LetsOut (Exit.then (Code.roundsIn (Fw none) N C.P I.round (Exit.inBlock I.b0 (QI G ρ w0 D l I.nt (oA f0 a0.tmps p x y D) env X kr k r)) m) (Exit.inBlock I.b0 (QI G ρ w0 D l I.nt (oA f0 a0.tmps p x y D) env X kr k r))) := fun ⟨_, _, q⟩ => q
   show (Code.seq _ _).wpIn (Fw none) N C.P _ a1 W1
   refine wpIn_seq (wpIn_block (wpIn_seq (wpIn_seq (wpIn_region ?_))))
   rw [I.ops_range]
   refine aOz K iOk.ops I.front 0 (fun j hj => I.ops_front j hj) ?_ hq _ fun a2 W2 h2 => ?_
   ·rintro ⟨_, _, q⟩
    exact q
   obtain ⟨ρ', e1, h1, v, he, hnt, hd, hk⟩ := h2
   obtain ⟨hyl, hk⟩ := qE hk
   obtain ⟨hfp, hk⟩ := qE hk
   have hyv := he I.yt
   rw [cPs hyl] at hyv
   obtain ⟨L, hL, hyv'⟩ : ∃ L, ρ' b = some L ∧ a2.tmps.getD I.yt undef = .func (.yield L.bl) #[] #[] := by
    generalize hz : a2.tmps.getD I.yt undef = z at hyv
    cases hyv with
    | yl _ L h => exact ⟨L, h, rfl⟩
   rw [v.ex.ext _ _ hb] at hL
   cases hL
   obtain ⟨tys, hop⟩ := iOk.op
   have hrun := bCh (P := C.P) (a := a2) (W := W2) hop hyv' v.hl rfl
   rw [wpOpsIn_cons]
   unfold wpOpIn
   rw [I.ops_y]
   have hw : Region.wanted I.y (yielded I.ops a2.tmps) = true := by simp [Region.wanted, iOk.guard]
   simp only [hw, if_true]
   refine ⟨fun _ _ => trivial, ?_⟩
   show I.y.uponIn (Fw none) N C.P a2 _ _ ((execOp a2.eval I.y).run C.P W2)
   rw [hrun]
   refine ⟨fun e => (by cases e), roundIn_of_wpIn (F := Fw none) trivial ?_⟩
   have put : ∀ (rc' : Loop) {ρ1 ρ2 : cM} {h2 : Hp} {W3 : World} {rc : Loop}, Iv G ρ1 w0 D l rc ρ2 h2 W3 → Iv G ρ1 w0 D l rc' ρ2 h2 (W3.putObj l (.loop rc')) := fun rc' _ _ _ _ _ v => v.put rc' hDl hOl hs hB
   have hass : SS G ρ' w0 D l (oA f0 a0.tmps p x y D .ready none) [] nt (aP C rec nt n x kT cQ (aP C rec nt n y
     (fun i _ h2 => qU C rec n I false (fun _ h3 => X i env h3) cQ e1 h2)
     (fun _ h2 => qU C rec n I false (fun _ h3 => kr env h3) cQ e1 h2)
     (fun _ h2 => qU C rec n I true cQ (aP C rec I.nt n I.post kT cQ (aP C rec I.nt n I.step kT cQ (aM (aKq C rec n I nt p x y env X kr k b) m))) e1 h2))) r
     { tmps := a0.tmps.setIfInBounds p (a2.eval (.tmp I.yx)), defers := [] } W2 :=
    ⟨ρ', bO env (some p) (e1 I.yx), h1, v.base, (he0.mono v.ex.ext).put (fun _ _ h => h) (he I.yx) hfp hnt0, by simpa using hnt0, rfl, hk⟩
   refine wpIn_mono (kQ (ro := some l) K hm x hx hass) fun e a3 W3 hq => ?_
   cases e with
   | exit id => exact (SS.out hq).elim
   | ret => exact (SS.out hq).elim
   | goto l => exact hq.elim
   | panic ch => exact hq.elim
   | outgrown => exact hq.elim
   | normal =>
    obtain ⟨ρ3, e3, h3, v3, he3, hnt3, hd3, hk3⟩ := hq
    refine ⟨_, run_beginRound v3.hl rfl, ?_⟩
    have v4 := put (oA f0 a0.tmps p x y D .busy none) v3
    have key : ∀ (bb : Bool) (kr' k' : Dd.K) {ρ5 : cM} {h5 : Hp} {W5 : World} {rc : Loop}, Iv G ρ w0 D l rc ρ5 h5 W5 → Ext ρ' ρ5 → qU C rec n I bb kr' k' e1 h5 = some r →
      SS G ρ w0 D l rc [] I.nt (gW C rec I.nt I.ops I.back (aP C rec I.nt n I.after kT kr' k')) r (a2.put (some I.yd) (.bool bb)) W5 := by
     intro bb kr' k' ρ5 h5 W5 rc v5 hext hbk
     obtain ⟨hf5, hk5⟩ := qE hbk
     exact ⟨ρ5, _, h5, v5, he.put hext (.b bb) hf5 hnt, by rw [lI]; exact hnt, by rw [iS]; exact hd, hk5⟩
    refine wpIn_mono (kQ (ro := some l) K hm y hy ⟨ρ3, e3, h3, v4, he3, hnt3, hd3, hk3⟩) fun e a5 W5 hq => ?_
    cases e with
    | normal =>
     obtain ⟨ρ5, e5, h5, v5, he5, hnt5, hd5, hk5⟩ := hq
     refine ⟨_, _, run_endRound none v5.hl, ?_⟩
     show wpOpsIn (Fw none) N C.P I.ops _ _ (a2.put I.y.dst (.bool true)) _
     rw [iOk.dst]
     exact bCq K hm iOk hQr (fun a W h => ih a W h) (key true _ _ ((put (oA f0 a0.tmps p x y D .ready none) v5).up v.ex) v5.ex.ext hk5)
    | exit i =>
     obtain ⟨ρ5, e5, h5, v5, he5, hnt5, hd5, hk5⟩ := hq
     refine ⟨_, _, run_endRound (some (.exit i)) v5.hl, ?_⟩
     show wpOpsIn (Fw none) N C.P I.ops _ _ (a2.put I.y.dst (.bool false)) _
     rw [iOk.dst]
     exact wN K hm iOk hQr (fun a W h => ⟨_, X i, .inr ⟨i, rfl, rfl⟩, h⟩) (key false _ _ ((put (oA f0 a0.tmps p x y D .done (some (.exit i))) v5).up v.ex) v5.ex.ext hk5)
    | ret =>
     obtain ⟨ρ5, e5, h5, v5, he5, hnt5, hd5, hk5⟩ := hq
     refine ⟨_, _, run_endRound (some .ret) v5.hl, ?_⟩
     show wpOpsIn (Fw none) N C.P I.ops _ _ (a2.put I.y.dst (.bool false)) _
     rw [iOk.dst]
     exact wN K hm iOk hQr (fun a W h => ⟨_, kr, .inl ⟨rfl, rfl⟩, h⟩) (key false _ _ ((put (oA f0 a0.tmps p x y D .done (some .ret)) v5).up v.ex) v5.ex.ext hk5)
    | goto l => exact hq.elim
    | panic ch => exact hq.elim
    | outgrown => exact hq.elim
end
end Go.Dd

namespace Go.Dd
open Go.RowKit (Below)
section
variable {C : Cfg} {G : Gd} {rec : FuncId → List DV → Hp → aH} {n : Nat} {I : ItC} {N : Nat}
theorem aEq {P : Program} {fn : Func} (h : fn.results = #[]) (tmps : Array Value) (w : World) : ∃ v, (results fn tmps).run P w = .ok v w := by
 rw [pH, h]
 exact ⟨.tuple #[], by simp [go_sem]⟩
theorem bLs (K : OkC C rec) (hm : C.P.follows .mixedOrders = true) (iOk : ItOk C.P I) {DD : List Deferred} {nt : Nat} {ρ : cM} {w0 : World} {g : Operand} {p : Tmp} {x y : Code} (hx : dV x = true) (hy : dV y = true)
  {X : Nat → Dd.K} {kr k : Dd.K} {r : DV × Hp} {a : Act} {w : World} (h : St DD G nt ρ w0 (nK C rec n I nt g p x y X kr k) r a w) :
  (Code.rangeFunc g #[p] x y).wpIn (Fw none) N C.P (QM DD G nt ρ w0 X kr k r) a w := by
 obtain ⟨ρ1, env, h0, e1, H, he, kp, hnt, hd, hk⟩ := h
 unfold nK at hk
 split at hk <;> (try (cases hk; done))
 rename_i gf cap hg
 obtain ⟨hgf, hk2⟩ := qE hk
 clear hk
 have hgf' : gf = I.gf := Nat.eq_of_beq_eq_true hgf
 subst hgf'
 have hv := bD he g
 rw [hg] at hv
 obtain ⟨lb, hlb, hge⟩ : ∃ lb, VRs ρ1 cap lb.toList ∧ a.eval g = .func (.func I.gf) #[] lb := by
  generalize a.eval g = z at hv
  cases hv with
  | f _ _ _ x' y' h1 h2 =>
   refine ⟨y', h2, ?_⟩
   have : x' = #[] := by
    obtain ⟨q⟩ := x'
    cases h1
    rfl
   rw [this]
 obtain ⟨fnI, hf, hb, hntI, hres, hname⟩ := iOk.fn
 refine wpIn_rangeFunc ?_
 intro fn _
 obtain ⟨W1, hW1⟩ : ∃ W1, (w.alloc (.deferred (some []))).alloc (.loop (oA fn a.tmps p x y w.heap.size .ready none)) = W1 := ⟨_, rfl⟩
 have hL1 : W1.heap[w.heap.size + 1]? = some (.loop (oA fn a.tmps p x y w.heap.size .ready none)) := by
  rw [← hW1]
  have := World.alloc_heap_new (w.alloc (.deferred (some []))) (.loop (oA fn a.tmps p x y w.heap.size .ready none))
  rwa [World.size_alloc] at this
 have hD1 : W1.heap[w.heap.size]? = some (.deferred (some [])) := by
  rw [← hW1]
  exact (Below.heap_alloc _ _ _ (by simp)).trans (World.alloc_heap_new w _)
 obtain ⟨iargs, hia⟩ : ∃ iargs : Array Value, #[Value.func (.yield (w.heap.size + 1)) #[] #[]] ++ lb = iargs := ⟨_, rfl⟩
 refine ⟨w.heap.size + 1, [{ target := .collected w.heap.size, args := #[] }], W1, { target := .fn (.func I.gf) lb, args := #[Value.func (.yield (w.heap.size + 1)) #[] #[]] }, W1, I.gf,
  iargs, W1, ?_, ?_, fun _ _ => trivial, ?_, fun e => (by cases e), ?_⟩
 ·rw [← hW1]
  exact run_enterLoop_outer _ _ _ _ _
 ·simp only [resolve, hge]
  simp [go_sem]
 ·have hn : ¬ fnI.name = "runtime.NumGoroutine" := by simpa using hname
  unfold invoke
  simp only
  rw [hia]
  unfold callFunc
  simp [hf, hn, hb]
 ·
  have hno : ∀ b : Pos, h0.next.toNat ≤ b.toNat → ρ1 b = none := fun b hb => by
   cases e : ρ1 b with
   | none => rfl
   | some L => have := H.lt b L e; omega
  obtain ⟨n1, n2⟩ := sO 2 h0
  have hN2 : (resv 2 h0).next.toNat = h0.next.toNat + 2 := by rw [n1, dJ]
  have hsucc := dNd h0.next
  have H1 := H.reserve 2
  have H2 := H1.earlyO (b := h0.next.succ) (hno _ (by omega)) (by omega) (.deferred (some []))
  have hne : h0.next ≠ h0.next.succ := fun e => by have := congrArg Pos.toNat e; omega
  have H3 := H2.earlyO (b := h0.next) (by rw [aS _ _ hne]; exact hno _ (Nat.le_refl _)) (by omega) (.loop (oA fn a.tmps p x y w.heap.size .ready none))
  rw [hW1] at H3
  obtain ⟨ρ2, hρ2⟩ : ∃ ρ2, lV (lV ρ1 h0.next.succ ⟨w.heap.size, 0, 0, none⟩) h0.next ⟨(w.alloc (.deferred (some []))).heap.size, 0, 0, none⟩ = ρ2 := ⟨_, rfl⟩
  rw [hρ2] at H3
  have hb2 : ρ2 h0.next = some ⟨w.heap.size + 1, 0, 0, none⟩ := by rw [← hρ2, bS, World.size_alloc]
  have ex2 : Ex G ρ1 ρ2 := by
   refine ⟨fun b L hL => ?_, fun b L hL => ?_⟩
   ·have h1 : b ≠ h0.next := fun e => by rw [e, hno _ (Nat.le_refl _)] at hL; cases hL
    have h2 : b ≠ h0.next.succ := fun e => by rw [e, hno _ (by omega)] at hL; cases hL
    rw [← hρ2, aS _ _ h1, aS _ _ h2]
    exact hL
   ·have hx := H.nx
    by_cases h1 : b = h0.next
    ·exact .inr (by rw [h1]; exact hx)
    ·by_cases h2 : b = h0.next.succ
     ·exact .inr (by rw [h2]; omega)
     ·rw [← hρ2, aS _ _ h1, aS _ _ h2] at hL
      exact .inl hL
  have H4 : HR (GD (GD G w.heap.size) (w.heap.size + 1)) ρ2 (resv 2 h0) W1 := H3.weak rfl (fun k hk => by rw [World.size_alloc]; exact hk) (by have := H.nx; show G.N ≤ (resv 2 h0).next.toNat; omega) rfl
  have kp1 : Kp G w W1 := by
   rw [← hW1]
   refine (dZ H.sz _).trans (dZ ⟨?_, fun k hk => ?_⟩ _)
   ·have := H.sz.1; simp; omega
   ·have := H.sz.2 k hk; simp; omega
  have hOD : Own G w.heap.size := ⟨H.sz.1, fun hX => Nat.lt_irrefl _ (H.sz.2 _ hX)⟩
  have hOl : Own G (w.heap.size + 1) := ⟨by have := H.sz.1; omega, fun hX => by have := H.sz.2 _ hX; omega⟩
  have hbody : I.code.wpIn (Fw none) (N - 1) C.P (QI G ρ2 w w.heap.size (w.heap.size + 1) I.nt (oA fn a.tmps p x y w.heap.size) env X kr k r)
    { tmps := iargs ++ Array.replicate (fnI.ntmps - iargs.size) undef, defers := [] } W1 := by
   have hargs : VRs ρ2 (.yl h0.next :: cap) iargs.toList := by
    rw [← hia]
    have := VRs.cons (ρ := ρ2) _ _ _ _ (.yl h0.next _ hb2) (hlb.mono ex2.ext)
    simpa using this
   have hss : SS G ρ2 w w.heap.size (w.heap.size + 1) (oA fn a.tmps p x y w.heap.size .ready none) [] I.nt
     (aP C rec I.nt n I.pre kT cQ (aM (aKq C rec n I nt p x y env X kr k h0.next) n)) r
     { tmps := iargs ++ Array.replicate (fnI.ntmps - iargs.size) undef, defers := [] } W1 :=
    ⟨ρ2, _, _, ⟨Ex.refl _ _, H4, kp1, hL1, hD1⟩, aLu hargs _ _, by rw [hntI]; simp; omega, rfl, hk2⟩
   refine wpIn_seq (wpIn_mono (kQ K hm I.pre iOk.pre hss) fun e a1 W2 hq => ?_)
   cases e with
   | exit id => exact (SS.out hq).elim
   | ret => exact (SS.out hq).elim
   | goto l => exact hq.elim
   | panic ch => exact hq.elim
   | outgrown => exact hq.elim
   | normal =>
    show (Code.block I.b0 (.loop I.round)).wpIn (Fw none) (N - 1) C.P _ a1 W2
    exact wpIn_block (wpIn_loop_rounds n (cJk K hm iOk hx hy (by omega) hOl H.sz.2 H.sz.1 hb2 (he.mono ex2.ext) hnt n a1 W2 hq))
  refine callsIn_of_wp hf hb trivial (wpIn_mono hbody fun e a' W' hq => ?_)
  have fin : ∀ (rc : Loop) (J : Dd.K), rc.state ≠ .busy → SS G ρ2 w w.heap.size (w.heap.size + 1) rc [] I.nt (fun _ h => J env h) r a' W' →
    a'.defers = [] ∧ (Instr.endLoop (w.heap.size + 1)).run C.P W' = .ok rc.pending (W'.putObj (w.heap.size + 1) (.loop { rc with state := .exhausted })) ∧
    StM DD G nt ρ w0 J r { a with defers := [{ target := .collected w.heap.size, args := #[] }] ++ a.defers } (W'.putObj (w.heap.size + 1) (.loop { rc with state := .exhausted })) := by
   rintro rc J hst ⟨ρ', e', h', v, _, _, hd', hk'⟩
   have v' := v.put { rc with state := .exhausted } (by omega) hOl H.sz.2 H.sz.1
   refine ⟨hd', run_endLoop v.hl hst, w.heap.size, ρ', env, h', e1.trans (ex2.trans v.ex), v'.hr.weak rfl (fun k hk => .inl hk) (Nat.le_refl _) rfl, he.mono (ex2.trans v.ex).ext, kp.trans v'.kp, hnt, ?_, hOD, v'.hD, hk'⟩
   rw [← hd]
   rfl
  obtain ⟨vv, hvv⟩ := aEq (P := C.P) hres a'.tmps W'
  cases e with
  | normal =>
   obtain ⟨q1, q2, q3⟩ := fin _ k (by intro e; cases e) hq
   exact ⟨q1, vv, hvv, _, _, q2, q3⟩
  | ret =>
   obtain ⟨c, J, hcj, hss⟩ := hq
   obtain ⟨q1, q2, q3⟩ := fin _ J (by intro e; cases e) hss
   refine ⟨q1, vv, hvv, _, _, q2, ?_⟩
   rcases hcj with ⟨rfl, rfl⟩ | ⟨i, rfl, rfl⟩
   ·exact wpIn_ret q3
   ·exact wpIn_exit q3
  | exit id => exact hq.elim
  | goto l => exact hq.elim
  | panic ch => exact hq.elim
  | outgrown => exact hq.elim
end
end Go.Dd

namespace Go.Dd
open Go.RowKit (Below)
noncomputable def cPk (ps : Array Tmp) (k : Tmp → K) : K := match ps.toList with
 | [p] => k p
 | _ => cQ
section
variable (C : Cfg) (rec : FuncId → List DV → Hp → aH) (nt n : Nat) (I : ItC)
noncomputable def oC (c : Code) : (Nat → K) → K → K → K :=
 Code.rec (motive := fun _ => (Nat → K) → K → K → K)
  (fun _ _ k => k)
  (fun _ ops dr _ _ k => Bool.rec (motive := fun _ => K) (gW C rec nt ops ops.toList k) (Bool.rec (motive := fun _ => K) cQ (iO C rec nt ops k) (eL C.P ops)) dr)
  (fun _ _ iha ihb X kr k => iha X kr (ihb X kr k))
  (fun c _ _ iha ihb X kr k => fun env h => aX (opr env c) (iha X kr k env h) (ihb X kr k env h))
  (fun id _ ih X kr k => ih (fun j => bif Nat.beq j id then k else X j) kr k)
  (fun _ ih X kr _ => aM (fun kk => ih X kr kk) n)
  (fun g ps x y _ _ X kr k => cPk ps fun p => nK C rec n I nt g p x y X kr k)
  (fun id X _ _ => X id)
  (fun _ _ _ _ _ => cQ)
  (fun _ _ _ _ => cQ)
  (fun _ _ _ _ => cQ)
  (fun _ kr _ => kr)
  (fun _ _ _ _ => cQ) c
noncomputable def jM (f : FuncId) (args : List DV) (h : Hp) : aH :=
 match C.P.funcs[f]? with
 | some fn => match fn.body with
  | some c => oC C rec fn.ntmps n I c (fun _ => cQ) (aV C fn) (aV C fn) (aJ args) h
  | none => none
 | none => none
end
def gO : Code → Bool
 | .skip => true
 | .region _ ops _ => ops.toList.all fS
 | .seq x y => gO x && gO y
 | .cond _ x y => gO x && gO y
 | .block _ x => gO x
 | .loop x => gO x
 | .rangeFunc _ _ x y => dV x && dV y
 | .exit _ => true
 | .ret => true
 | _ => false
def GDs (G : Gd) (Ds : List Nat) : Gd := ⟨G.B, fun k => G.X k ∨ k ∈ Ds, G.N, G.W, G.ok⟩
def mkD (D : Nat) : Deferred := { target := .collected D, args := #[] }
theorem Ex.ofGDs {G : Gd} {Ds : List Nat} {ρ ρ' : cM} (h : Ex (GDs G Ds) ρ ρ') : Ex G ρ ρ' := ⟨h.ext, h.new⟩
theorem Kp.ofGDs {G : Gd} {Ds : List Nat} {w w' : World} (h : Kp (GDs G Ds) w w') : Kp G w w' := ⟨h.low, fun k hk => h.ex k (.inl hk)⟩
section
variable {C : Cfg} {G : Gd} {rec : FuncId → List DV → Hp → aH} {nt n : Nat} {I : ItC}
def StL (G : Gd) (nt : Nat) (ρ : cM) (w0 : World) (k : K) (r : DV × Hp) (a : Act) (w : World) : Prop :=
 ∃ Ds ρ' env h, Ex G ρ ρ' ∧ HR (GDs G Ds) ρ' h w ∧ EnvR ρ' env a ∧ Kp G w0 w ∧ nt ≤ a.tmps.size ∧ a.defers = Ds.map mkD ∧ Ds.Nodup ∧ (∀ D ∈ Ds, Own G D ∧ w.heap[D]? = some (.deferred (some []))) ∧ k env h = some r
def QL (G : Gd) (nt : Nat) (ρ : cM) (w0 : World) (X : Nat → K) (kr k : K) (r : DV × Hp) : Exit → Act → World → Prop
 | .normal, a, w => StL G nt ρ w0 k r a w
 | .exit id, a, w => StL G nt ρ w0 (X id) r a w
 | .ret, a, w => StL G nt ρ w0 kr r a w
 | _, _, _ => False
theorem bTp {N : Nat} (K : OkC C rec) (hm : C.P.follows .mixedOrders = true) (iOk : ItOk C.P I) {ρ : cM} {w0 : World} {r : DV × Hp} : ∀ (c : Code), gO c = true → ∀ (X : Nat → Dd.K) (kr k : Dd.K) (a : Act) (w : World),
  StL G nt ρ w0 (oC C rec nt n I c X kr k) r a w → c.wpIn (Fw none) N C.P (QL G nt ρ w0 X kr k r) a w := by
 have plain : ∀ (c : Code), dV c = true → ∀ (X : Nat → Dd.K) (kr k : Dd.K) (a : Act) (w : World), StL G nt ρ w0 (aP C rec nt n c X kr k) r a w → c.wpIn (Fw none) N C.P (QL G nt ρ w0 X kr k r) a w := by
  rintro c hc X kr k a w ⟨Ds, ρ', env, h, e1, e2, e3, e4, e5, e6, e7, e8, e9⟩
  have back : ∀ (J : Dd.K) (a' : Act) (w' : World), St (Ds.map mkD) (GDs G Ds) nt ρ' w J r a' w' → StL G nt ρ w0 J r a' w' := by
   rintro J a' w' ⟨ρ2, env2, h2, q1, q2, q3, q4, q5, q6, q7⟩
   exact ⟨Ds, ρ2, env2, h2, e1.trans q1.ofGDs, q2, q3, e4.trans q4.ofGDs, q5, q6, e7, fun D hD => ⟨(e8 D hD).1, by rw [q4.ex D (.inr hD)]; exact (e8 D hD).2⟩, q7⟩
  refine wpIn_mono (aXj (DD := Ds.map mkD) (G := GDs G Ds) (ρ := ρ') (w0 := w) K hm c hc X kr k a w ⟨ρ', env, h, Ex.refl _ _, e2, e3, Kp.refl _ _, e5, e6, e9⟩) fun e a' w' hq => ?_
  cases e with
  | normal => exact back _ _ _ hq
  | exit id => exact back _ _ _ hq
  | ret => exact back _ _ _ hq
  | goto l => exact hq
  | panic ch => exact hq
  | outgrown => exact hq
 intro c
 induction c with
 | skip => intro _ X kr k a w h; exact wpIn_skip h
 | region id ops dr => intro hpc X kr k a w h; exact plain (.region id ops dr) hpc X kr k a w h
 | seq x y ihx ihy =>
  intro hpc X kr k a w h
  simp only [gO, Bool.and_eq_true] at hpc
  refine wpIn_seq (wpIn_mono (ihx hpc.1 X kr (oC C rec nt n I y X kr k) a w h) fun e a' w' hq => ?_)
  cases e with
  | normal => exact ihy hpc.2 X kr k a' w' hq
  | exit id => exact hq
  | ret => exact hq
  | goto l => exact hq
  | panic ch => exact hq
  | outgrown => exact hq
 | cond c x y ihx ihy =>
  intro hpc X kr k a w h
  simp only [gO, Bool.and_eq_true] at hpc
  obtain ⟨Ds, ρ', env, hp, h1, h2, h3, h4, h5, h6, h8, h9, h7⟩ := h
  change aX (opr env c) (oC C rec nt n I x X kr k env hp) (oC C rec nt n I y X kr k env hp) = some r at h7
  have hc := bD h3 c
  unfold aX at h7
  split at h7 <;> (try (cases h7; done))
  ·rename_i hcb
   rw [hcb] at hc
   generalize hcv : a.eval c = cv at hc
   cases hc
   exact wpIn_cond_true hcv (ihx hpc.1 X kr k a w ⟨Ds, ρ', env, hp, h1, h2, h3, h4, h5, h6, h8, h9, h7⟩)
  ·rename_i hcb
   rw [hcb] at hc
   generalize hcv : a.eval c = cv at hc
   cases hc
   exact wpIn_cond_false hcv (ihy hpc.2 X kr k a w ⟨Ds, ρ', env, hp, h1, h2, h3, h4, h5, h6, h8, h9, h7⟩)
 | block id x ih =>
  intro hpc X kr k a w h
  refine wpIn_block (wpIn_mono (ih hpc (fun j => bif Nat.beq j id then k else X j) kr k a w h) fun e a' w' hq => ?_)
  cases e with
  | normal => exact hq
  | exit id' =>
   simp only [QL] at hq
   simp only [Exit.inBlock, QL]
   split
   ·rename_i e
    subst e
    have hb : Nat.beq id' id' = true := Nat.beq_refl id'
    rw [hb] at hq
    exact hq
   ·rename_i e
    have : Nat.beq id' id = false := by
     cases hb : Nat.beq id' id with
     | false => rfl
     | true => exact absurd (Nat.eq_of_beq_eq_true hb) e
    rw [this] at hq
    exact hq
  | ret => exact hq
  | goto l => exact hq
  | panic ch => exact hq
  | outgrown => exact hq
 | loop x ih =>
  intro hpc X kr k a w h
  have key : ∀ (m : Nat) (a : Act) (w : World), StL G nt ρ w0 (aM (fun kk => oC C rec nt n I x X kr kk) m) r a w → Code.roundsIn (Fw none) N C.P x (QL G nt ρ w0 X kr k r) m a w := by
   intro m
   induction m with
   | zero =>
    rintro a w ⟨Ds, ρ', env, hp, h1, h2, h3, h4, h5, h6, h8, h9, h7⟩
    cases h7
   | succ m ihm =>
    intro a w hs
    rw [roundsIn_succ]
    refine wpIn_mono (ih hpc X kr (aM (fun kk => oC C rec nt n I x X kr kk) m) a w hs) fun e a' w' hq => ?_
    cases e with
    | normal => exact ihm a' w' hq
    | exit id => exact hq
    | ret => exact hq
    | goto l => exact hq
    | panic ch => exact hq
    | outgrown => exact hq
  exact wpIn_loop_rounds n (key n a w h)
 | rangeFunc g ps x y ihx ihy =>
  intro hpc X kr k a w h
  simp only [gO, Bool.and_eq_true] at hpc
  obtain ⟨Ds, ρ', env, hp, h1, h2, h3, h4, h5, h6, h8, h9, h7⟩ := h
  change cPk ps (fun p => nK C rec n I nt g p x y X kr k) env hp = some r at h7
  obtain ⟨p, hps, h7⟩ : ∃ p, ps = #[p] ∧ nK C rec n I nt g p x y X kr k env hp = some r := by
   unfold cPk at h7
   obtain ⟨l⟩ := ps
   match l, h7 with
   | [p], h7 => exact ⟨p, rfl, h7⟩
   | [], h7 => cases h7
   | _ :: _ :: _, h7 => cases h7
  subst hps
  have back : ∀ (J : Dd.K) (a' : Act) (w' : World), StM (Ds.map mkD) (GDs G Ds) nt ρ' w J r a' w' → StL G nt ρ w0 J r a' w' := by
   rintro J a' w' ⟨D, ρ2, env2, h2, q1, q2, q3, q4, q5, q6, q7, q8, q9⟩
   have hn : D ∉ Ds := fun hD => q7.2 (.inr hD)
   refine ⟨D :: Ds, ρ2, env2, h2, h1.trans q1.ofGDs, q2.weak rfl (fun k hk => ?_) (Nat.le_refl _) rfl, q3, h4.trans q4.ofGDs, q5, q6, List.nodup_cons.2 ⟨hn, h8⟩, fun E hE => ?_, q9⟩
   ·rcases hk with hk | hk
    ·exact .inl (.inl hk)
    ·rcases List.mem_cons.1 hk with rfl | hk
     ·exact .inr rfl
     ·exact .inl (.inr hk)
   ·rcases List.mem_cons.1 hE with rfl | hE
    ·exact ⟨⟨q7.1, fun hX => q7.2 (.inl hX)⟩, q8⟩
    ·exact ⟨(h9 E hE).1, by rw [q4.ex E (.inr hE)]; exact (h9 E hE).2⟩
  refine wpIn_mono (bLs (DD := Ds.map mkD) (G := GDs G Ds) (ρ := ρ') (w0 := w) K hm iOk hpc.1 hpc.2 ⟨ρ', env, hp, Ex.refl _ _, h2, h3, Kp.refl _ _, h5, h6, h7⟩) fun e a' w' hq => ?_
  cases e with
  | normal => exact back _ _ _ hq
  | exit id => exact back _ _ _ hq
  | ret => exact back _ _ _ hq
  | goto l => exact hq
  | panic ch => exact hq
  | outgrown => exact hq
 | exit id => intro _ X kr k a w h; exact wpIn_exit h
 | ret => intro _ X kr k a w h; exact wpIn_ret h
 | _ => intro hpc; cases hpc
theorem aVj {N : Nat} {fn : Func} {ρ : cM} {w0 : World} {v : DV} {h1 : Hp} {a : Act} : ∀ (Ds : List Nat) (w : World), (∃ ρ' env h, Ex G ρ ρ' ∧ HR (GDs G Ds) ρ' h w ∧ EnvR ρ' env a ∧ Kp G w0 w ∧ aV C fn env h = some (v, h1)) →
  G.B ≤ w0.heap.size → (∀ k, G.X k → k < w0.heap.size) → Ds.Nodup → (∀ D ∈ Ds, Own G D ∧ w.heap[D]? = some (.deferred (some []))) →
  LeavesInM (Fw none) N C.P fn a.tmps (lR G ρ w0 v h1) (Ds.map mkD) .returning w
 | [], w, ⟨ρ', env, h, e1, e2, e3, e4, e5⟩, _, _, _, _ => by
  obtain ⟨rfl, v', r1, r2⟩ := aHe e2 e3 e5
  exact ⟨v', r1, ρ', v', rfl, e1, r2, e2.weak rfl (fun k hk => .inl hk) (Nat.le_refl _) rfl, e4⟩
 | D :: Ds, w, ⟨ρ', env, h, e1, e2, e3, e4, e5⟩, hB, hs, hnd, hD => by
  obtain ⟨o1, o2⟩ := hD D (by simp)
  have hnd' := List.nodup_cons.1 hnd
  refine ⟨by simp, .inl ⟨D, _, rfl, run_takeDeferred o2, ?_⟩⟩
  refine aVj Ds _ ⟨ρ', env, h, e1, (e2.putX (l := D) (o := .deferred (some [])) (o' := .deferred none) o1.1 (.inr (by simp)) o2 rfl rfl).weak rfl (fun k hk => ?_) (Nat.le_refl _) rfl, e3, e4.putX o1 hs hB o2, e5⟩ hB hs hnd'.2 fun E hE => ?_
  ·rcases hk with hk | hk
   ·exact .inl hk
   ·exact .inr (List.mem_cons_of_mem _ hk)
  ·have hne : E ≠ D := fun e => hnd'.1 (by rw [← e]; exact hE)
   exact ⟨(hD E (List.mem_cons_of_mem _ hE)).1, by rw [World.putObj_heap_other hne]; exact (hD E (List.mem_cons_of_mem _ hE)).2⟩
theorem bVm (K : OkC C rec) (hP : POk C.P) (iOk : ItOk C.P I) (n : Nat) (f : FuncId) (hc : ∀ fn c, C.P.funcs[f]? = some fn → fn.body = some c → gO c = true) : hZ C.P G f (jM C rec n I f) := by
 intro args h v h1 hr ρ w args' H hargs
 unfold jM at hr
 split at hr <;> (try (cases hr; done))
 rename_i fn hf
 split at hr <;> (try (cases hr; done))
 rename_i c hb
 refine .inl ⟨?_, ?_⟩
 ·unfold callFunc
  have hn : ¬ fn.name = "runtime.NumGoroutine" := by simpa using hP.names f fn hf
  simp [hf, hn, hb]
 ·refine (callsIn_wide (n := 3)).1 ?_
  show CallsIn (Fw none) 3 C.P f args' w _
  refine callsIn_of_wp_marks hf hb trivial ?_
  have he := aLu hargs fn.ntmps []
  have hst : StL G fn.ntmps ρ w (oC C rec fn.ntmps n I c (fun _ => cQ) (aV C fn) (aV C fn)) (v, h1) { tmps := args' ++ Array.replicate (fn.ntmps - args'.size) undef, defers := [] } w :=
   ⟨[], ρ, aJ args, h, Ex.refl G ρ, H.weak rfl (fun k hk => by rcases hk with hk | hk; exact hk; cases hk) (Nat.le_refl _) rfl, he, Kp.refl G w, by simp; omega, rfl, List.nodup_nil, (by simp), hr⟩
  refine wpIn_mono (bTp K hP.mixed iOk c (hc fn c hf hb) _ _ _ _ _ hst) fun e a' w' hq => ?_
  have hfin : StL G fn.ntmps ρ w (aV C fn) (v, h1) a' w' → LeavesInM (Fw none) 3 C.P fn a'.tmps (lR G ρ w v h1) a'.defers .returning w' := by
   rintro ⟨Ds, ρ', env, h', e1, e2, e3, e4, e5, e6, e7, e8, e9⟩
   rw [e6]
   exact aVj Ds w' ⟨ρ', env, h', e1, e2, e3, e4, e9⟩ H.sz.1 H.sz.2 e7 e8
  cases e with
  | normal => exact hfin hq
  | ret => exact hfin hq
  | exit id =>
   obtain ⟨Ds, ρ', env, h', e1, e2, e3, e4, e5, e6, e7, e8, e9⟩ := hq
   cases e9
  | goto l => exact hq.elim
  | panic ch => exact hq.elim
  | outgrown => exact hq.elim
end
end Go.Dd

namespace Go.Dd
noncomputable section
def WT.get (t : WT) : Nat → Int :=
 WT.rec (motive := fun _ => Nat → Int) (fun _ => .ofNat 0)
  (fun _ v _ ihl ihr k => bif Nat.beq k 0 then v else bif Nat.beq (Nat.mod k 2) 1 then ihl (Nat.div k 2) else ihr (Nat.div (Nat.sub k 1) 2)) t
def dOd (x : Int) (fuel : Nat) : Nat → WT → WT :=
 Nat.rec (motive := fun _ => Nat → WT → WT) (fun _ t => t)
  (fun _ ih k t => WT.rec (motive := fun _ => WT)
   (bif Nat.beq k 0 then .n .e x .e else bif Nat.beq (Nat.mod k 2) 1 then .n (ih (Nat.div k 2) .e) (.ofNat 0) .e else .n .e (.ofNat 0) (ih (Nat.div (Nat.sub k 1) 2) .e))
   (fun l v r _ _ => bif Nat.beq k 0 then .n l x r else bif Nat.beq (Nat.mod k 2) 1 then .n (ih (Nat.div k 2) l) v r else .n l v (ih (Nat.div (Nat.sub k 1) 2) r)) t) fuel
def WT.set (t : WT) (k : Nat) (x : Int) : WT := dOd x 24 k t
theorem WT.get_e (k : Nat) : WT.e.get k = 0 := rfl
theorem dNx (l : WT) (v : Int) (r : WT) (k : Nat) : (WT.n l v r).get k = if k = 0 then v else if k % 2 = 1 then l.get (k / 2) else r.get ((k - 1) / 2) := by
 show (bif Nat.beq k 0 then v else bif Nat.beq (Nat.mod k 2) 1 then l.get (Nat.div k 2) else r.get (Nat.div (Nat.sub k 1) 2)) = _
 cases h0 : Nat.beq k 0 with
 | true => have := Nat.eq_of_beq_eq_true h0; subst this; rfl
 | false =>
  have n0 : k ≠ 0 := by intro e; subst e; cases h0
  rw [if_neg n0]
  cases h1 : Nat.beq (Nat.mod k 2) 1 with
  | true => have : k % 2 = 1 := Nat.eq_of_beq_eq_true h1; rw [if_pos this]; rfl
  | false =>
   have n1 : k % 2 ≠ 1 := by intro e; have e' : Nat.mod k 2 = 1 := e; rw [e'] at h1; cases h1
   rw [if_neg n1]; rfl
theorem dOn (x : Int) (f k : Nat) (t : WT) : dOd x (f + 1) k t = match t with
  | .e => if k = 0 then .n .e x .e else if k % 2 = 1 then .n (dOd x f (k / 2) .e) 0 .e else .n .e 0 (dOd x f ((k - 1) / 2) .e)
  | .n l v r => if k = 0 then .n l x r else if k % 2 = 1 then .n (dOd x f (k / 2) l) v r else .n l v (dOd x f ((k - 1) / 2) r) := by
 have hb : ∀ {α : Type} (a b c : α), (bif Nat.beq k 0 then a else bif Nat.beq (Nat.mod k 2) 1 then b else c) = if k = 0 then a else if k % 2 = 1 then b else c := by
  intro α a b c
  cases h0 : Nat.beq k 0 with
  | true => have := Nat.eq_of_beq_eq_true h0; subst this; rfl
  | false =>
   have n0 : k ≠ 0 := by intro e; subst e; cases h0
   rw [if_neg n0]
   cases h1 : Nat.beq (Nat.mod k 2) 1 with
   | true => have : k % 2 = 1 := Nat.eq_of_beq_eq_true h1; rw [if_pos this]; rfl
   | false =>
    have n1 : k % 2 ≠ 1 := by intro e; have e' : Nat.mod k 2 = 1 := e; rw [e'] at h1; cases h1
    rw [if_neg n1]; rfl
 cases t with
 | e => exact hb _ _ _
 | n l v r => exact hb _ _ _
theorem dOh (x : Int) : ∀ (f k : Nat) (t : WT) (j : Nat), k + 1 < 2 ^ f → (dOd x f k t).get j = if j = k then x else t.get j
 | 0, k, t, j, h => by simp at h
 | f + 1, k, t, j, h => by
  have h2 : 2 ^ (f + 1) = 2 * 2 ^ f := by rw [Nat.pow_succ]; omega
  have ih := fun k t j (h : k + 1 < 2 ^ f) => dOh x f k t j h
  rw [dOn]
  cases t with
  | e =>
   simp only
   split
   ·subst_vars
    rw [dNx]
    split
    ·rfl
    ·simp [WT.get_e]
   ·split
    ·rw [dNx]
     split
     ·subst_vars; rw [if_neg (by omega)]; rfl
     ·split
      ·rw [ih _ _ _ (by omega), WT.get_e, WT.get_e]
       by_cases hj : j = k
       ·rw [if_pos hj, if_pos (by omega)]
       ·rw [if_neg hj, if_neg (by omega)]
      ·rw [WT.get_e, if_neg (by omega)]; rfl
    ·rw [dNx]
     split
     ·subst_vars; rw [if_neg (by omega)]; rfl
     ·split
      ·rw [WT.get_e, if_neg (by omega)]; rfl
      ·rw [ih _ _ _ (by omega), WT.get_e, WT.get_e]
       by_cases hj : j = k
       ·rw [if_pos hj, if_pos (by omega)]
       ·rw [if_neg hj, if_neg (by omega)]
  | n l v r =>
   simp only
   split
   ·subst_vars
    rw [dNx, dNx]
    split
    ·rfl
    ·rfl
   ·split
    ·rw [dNx, dNx]
     split
     ·subst_vars; rw [if_neg (by omega)]
     ·split
      ·rw [ih _ _ _ (by omega)]
       by_cases hj : j = k
       ·rw [if_pos hj, if_pos (by omega)]
       ·rw [if_neg hj, if_neg (by omega)]
      ·rw [if_neg (by omega)]
    ·rw [dNx, dNx]
     split
     ·subst_vars; rw [if_neg (by omega)]
     ·split
      ·rw [if_neg (by omega)]
      ·rw [ih _ _ _ (by omega)]
       by_cases hj : j = k
       ·rw [if_pos hj, if_pos (by omega)]
       ·rw [if_neg hj, if_neg (by omega)]
theorem WT.get_set (t : WT) (k : Nat) (x : Int) (j : Nat) (h : k < 16000000) : (t.set k x).get j = if j = k then x else t.get j :=
 dOh x 24 k t j (by omega)
def gG (n : Nat) (t : WT) : List DV := (List.range n).map fun i => .i .i64 (t.get i)
def vG (g : Bool) : Ob → Ob → Prop
 | .big n t, o => if g then o = .big n t else o = .row .ex (gG n t)
 | .mi t, o => if g then o = .mi t else ∃ es, o = .mp es ∧ ∀ a : Int, cY (.int .i64) (.i .i64 a) es = some (if 0 ≤ a ∧ t.get a.toNat ≠ 0 then some (.b true) else none)
 | o, o' => o' = o
structure Sim (g : Bool) (h h' : Hp) : Prop where
 next : h'.next = h.next
 get : ∀ b o, h.bl.get b = some o → ∃ o', h'.bl.get b = some o' ∧ vG g o o'
def SimR (g : Bool) (r r' : aH) : Prop := ∀ v h, r = some (v, h) → ∃ h', r' = some (v, h') ∧ Sim g h h'
def SimP (g : Bool) (p p' : Hp → aH) : Prop := ∀ h h', Sim g h h' → SimR g (p h) (p' h')
variable {h h' : Hp} {g : Bool}
theorem Sim.row (S : Sim g h h') {b : Pos} {k : Kind} {l : List DV} (hb : h.bl.get b = some (.row k l)) : h'.bl.get b = some (.row k l) := by
 obtain ⟨o', h1, h2⟩ := S.get b _ hb
 rw [h1, show o' = .row k l from h2]
theorem Sim.it (S : Sim g h h') {b : Pos} {s : List Nat} {p : Nat} (hb : h.bl.get b = some (.it s p)) : h'.bl.get b = some (.it s p) := by
 obtain ⟨o', h1, h2⟩ := S.get b _ hb
 rw [h1, show o' = .it s p from h2]
theorem Sim.mp (S : Sim g h h') {b : Pos} {es : List (DV × DV)} (hb : h.bl.get b = some (.mp es)) : h'.bl.get b = some (.mp es) := by
 obtain ⟨o', h1, h2⟩ := S.get b _ hb
 rw [h1, show o' = .mp es from h2]
theorem Sim.set (S : Sim g h h') {o o' : Ob} (hr : vG g o o') (b n : Pos) : Sim g ⟨n, Tr.set o b h.bl⟩ ⟨n, Tr.set o' b h'.bl⟩ := by
 refine ⟨rfl, fun x ob hx => ?_⟩
 by_cases e : x = b
 ·subst e
  simp only [dNc, bC] at hx ⊢
  subst hx
  exact ⟨o', rfl, hr⟩
 ·simp only [dNb _ _ _ _ e] at hx ⊢
  exact S.get x ob hx
theorem Sim.setR (S : Sim g h h') (k : Kind) (l : List DV) (b n : Pos) : Sim g ⟨n, Tr.set (.row k l) b h.bl⟩ ⟨n, Tr.set (.row k l) b h'.bl⟩ := S.set (show vG g (.row k l) (.row k l) from rfl) b n
theorem Sim.setM (S : Sim g h h') (es : List (DV × DV)) (b n : Pos) : Sim g ⟨n, Tr.set (.mp es) b h.bl⟩ ⟨n, Tr.set (.mp es) b h'.bl⟩ := S.set (show vG g (.mp es) (.mp es) from rfl) b n
theorem Sim.setI (S : Sim g h h') (s : List Nat) (p : Nat) (b n : Pos) : Sim g ⟨n, Tr.set (.it s p) b h.bl⟩ ⟨n, Tr.set (.it s p) b h'.bl⟩ := S.set (show vG g (.it s p) (.it s p) from rfl) b n
theorem Sim.new (S : Sim g h h') {o o' : Ob} (hr : vG g o o') : Sim g ⟨h.next.succ, Tr.set o h.next h.bl⟩ ⟨h'.next.succ, Tr.set o' h'.next h'.bl⟩ := by
 rw [S.next]; exact S.set hr _ _
theorem SimR.none (r : aH) : SimR g none r := fun v h e => by cases e
theorem SimR.some (S : Sim g h h') (v : DV) : SimR g (some (v, h)) (some (v, h')) := fun u k e => by
 simp only [bC, bP] at e
 obtain ⟨rfl, rfl⟩ := e
 exact ⟨h', rfl, S⟩
theorem dNg {F : Hp → aH} (hF : PureP F) : SimP g F F := fun h h' S v k e => by
 obtain ⟨rfl, h2⟩ := hF h v k e
 exact ⟨h', h2 h', S⟩
theorem Sim.rowOf (S : Sim g h h') {b : Pos} {l : List DV} (hb : rowOf b h = some l) : rowOf b h' = some l := by
 unfold Dd.rowOf at hb ⊢
 split at hb <;> (try (cases hb; done))
 rename_i k l0 h0
 rw [S.row h0]; exact hb
theorem Sim.cellsAt (S : Sim g h h') {b : Pos} {o n : Nat} {cs : List DV} (hb : cellsAt b o n h = some cs) : cellsAt b o n h' = some cs := by
 unfold Dd.cellsAt at hb ⊢
 split at hb <;> (try (cases hb; done))
 rename_i l h0
 rw [S.rowOf h0]; exact hb
theorem Sim.cellD (S : Sim g h h') {b : Pos} {o : Nat} {v : DV} (hb : cellD b o h = some v) : cellD b o h' = some v := by
 unfold Dd.cellD at hb ⊢
 split at hb <;> (try (cases hb; done))
 rename_i l h0
 rw [S.rowOf h0]; exact hb
theorem Sim.storeAt (S : Sim g h h') {b : Pos} {o : Nat} {vs : List DV} {k : Hp} (hb : cU b o vs h = some k) : ∃ k', cU b o vs h' = some k' ∧ Sim g k k' := by
 unfold cU at hb ⊢
 split at hb <;> (try (cases hb; done))
 rename_i kd l h0
 rw [S.row h0]
 dsimp only
 split at hb <;> (try (cases hb; done))
 rename_i hw
 rw [if_pos hw]
 split at hb <;> (try (cases hb; done))
 rename_i l' hp
 simp only [bC] at hb
 subst hb
 try simp only [hp]
 exact ⟨_, rfl, by rw [S.next]; exact S.set (show vG g (.row kd l') (.row kd l') from rfl) _ _⟩
theorem aFh (cs : List DV) : SimP g (bY cs) (bY cs) := fun h h' S v k e => by
 simp only [bY, bC, bP] at e ⊢
 obtain ⟨rfl, rfl⟩ := e
 exact ⟨_, ⟨by rw [S.next], rfl⟩, S.new rfl⟩
theorem aAx (b : Pos) (cs : List DV) : SimP g (mB b cs) (mB b cs) := fun h h' S v k e => by
 simp only [mB, bC, bP] at e ⊢
 obtain ⟨rfl, rfl⟩ := e
 exact ⟨_, ⟨rfl, rfl⟩, by rw [S.next]; first | exact S.setR _ _ _ _ | exact S.setM _ _ _ | exact S.setI _ _ _ _⟩
theorem cEn (x : DV) : SimP g (bU x) (bU x) := by
 unfold bU
 cases dC x with
 | none => exact fun h h' S => SimR.none _
 | some cs => exact aFh cs
theorem bDu (b : Pos) (x : DV) : SimP g (zP b x) (zP b x) := by
 unfold zP
 cases dC x with
 | none => exact fun h h' S => SimR.none _
 | some cs => exact aAx b cs
theorem lO (x : DV) : SimP g (aA x) (aA x) := fun h h' S v k e => by
 unfold aA at e ⊢
 split at e <;> (try (cases e; done))
 split at e <;> (try (cases e; done))
 rename_i hc
 simp only [bC, bP] at e
 obtain ⟨rfl, rfl⟩ := e
 simp only [S.cellD hc]
 exact ⟨_, rfl, S⟩
theorem lF (n : Nat) (x : DV) : SimP g (aK n x) (aK n x) := fun h h' S v k e => by
 unfold aK at e ⊢
 split at e <;> (try (cases e; done))
 split at e <;> (try (cases e; done))
 rename_i hc
 simp only [bC, bP] at e
 obtain ⟨rfl, rfl⟩ := e
 simp only [S.cellsAt hc]
 exact ⟨_, rfl, S⟩
theorem lJ (n : Nat) (x y : DV) : SimP g (aI n x y) (aI n x y) := fun h h' S v k e => by
 unfold aI at e ⊢
 split at e <;> (try (cases e; done))
 rename_i b o cs hc
 try rw [hc]
 try dsimp only
 split at e <;> (try (cases e; done))
 rename_i hn
 rw [if_pos hn]
 split at e <;> (try (cases e; done))
 rename_i k0 hs
 simp only [bC, bP] at e
 obtain ⟨rfl, rfl⟩ := e
 obtain ⟨k', h1, h2⟩ := S.storeAt hs
 try simp only [h1]
 exact ⟨_, rfl, h2⟩
theorem bBn (size : Nat) (x : DV) (lo hi : Option DV) : SimP g (cX size x lo hi) (cX size x lo hi) := fun h h' S v k e => by
 unfold cX at e ⊢
 split at e <;> (try (cases e; done))
 ·split at e <;> (try (cases e; done))
  rename_i en he
  try simp only [he]
  split at e <;> (try (cases e; done))
  rename_i s hs
  try simp only [hs]
  split at e <;> (try (cases e; done))
  ·rename_i l0 hb
   rw [S.row hb]
   simp only [bC, bP] at e
   obtain ⟨rfl, rfl⟩ := e
   exact ⟨_, rfl, S⟩
  ·rename_i l0 hb
   rw [S.row hb]
   simp only [bC, bP] at e
   obtain ⟨rfl, rfl⟩ := e
   exact ⟨_, rfl, S⟩
  ·rename_i k0 l0 n1 n2 hb
   rw [S.row hb]
   cases k0 with
   | ro => exact absurd rfl n1
   | ex => exact absurd rfl n2
   | gr es =>
    dsimp only
    split at e
    ·rename_i hcs
     simp only [bC, bP] at e
     obtain ⟨rfl, rfl⟩ := e
     rw [if_pos hcs]
     exact ⟨_, rfl, S⟩
    ·rename_i hcs
     simp only [bC, bP] at e
     obtain ⟨rfl, rfl⟩ := e
     rw [if_neg hcs]
     exact ⟨_, rfl, S⟩
   | sp =>
    dsimp only
    split at e
    ·rename_i hcs
     simp only [bC, bP] at e
     obtain ⟨rfl, rfl⟩ := e
     rw [if_pos hcs]
     exact ⟨_, rfl, S⟩
    ·rename_i hcs
     simp only [bC, bP] at e
     obtain ⟨rfl, rfl⟩ := e
     rw [if_neg hcs]
     exact ⟨_, rfl, S⟩
 all_goals
  split at e <;> (try (cases e; done))
  rename_i en he
  try simp only [he]
  split at e <;> (try (cases e; done))
  rename_i s hs
  try simp only [hs]
  simp only [bC, bP] at e
  obtain ⟨rfl, rfl⟩ := e
  exact ⟨_, rfl, S⟩
theorem aNf (x : DV) (lo : Option DV) (hi mx : DV) : SimP g (nY x lo hi mx) (nY x lo hi mx) := fun h h' S v k e => by
 unfold nY at e ⊢
 split at e <;> (try (cases e; done))
 all_goals
  split at e <;> (try (cases e; done))
 ·rename_i m e1
  try simp only [e1]
  split at e <;> (try (cases e; done))
  rename_i n e2
  try simp only [e2]
  simp only [bC, bP] at e
  obtain ⟨rfl, rfl⟩ := e
  exact ⟨_, rfl, S⟩
 ·rename_i m e1
  try simp only [e1]
  split at e <;> (try (cases e; done))
  rename_i n e2
  try simp only [e2]
  simp only [bC, bP] at e
  obtain ⟨rfl, rfl⟩ := e
  exact ⟨_, rfl, S⟩
 ·rename_i n1 n2 e1 e2
  try simp only [e1, e2]
  simp only [bC, bP] at e
  obtain ⟨rfl, rfl⟩ := e
  exact ⟨_, rfl, S⟩
 ·rename_i n1 n2 e1 e2
  try simp only [e1, e2]
  simp only [bC, bP] at e
  obtain ⟨rfl, rfl⟩ := e
  exact ⟨_, rfl, S⟩
theorem bDh (x : DV) : SimP g (gB x) (gB x) := fun h h' S v k e => by
 unfold gB at e ⊢
 split at e <;> (try (cases e; done))
 ·simp only [bC, bP] at e
  obtain ⟨rfl, rfl⟩ := e
  exact ⟨_, rfl, S⟩
 ·split at e <;> (try (cases e; done))
  rename_i cs hc
  simp only [S.cellsAt hc]
  split at e <;> (try (cases e; done))
  rename_i l hl
  try simp only [hl]
  simp only [bC, bP] at e
  obtain ⟨rfl, rfl⟩ := e
  exact ⟨_, rfl, S⟩
theorem xI (z : List DV) (n : Nat) (ps : List (Nat × Nat × DV)) : SimP g (aN z n ps) (aN z n ps) := fun h h' S v k e => by
 unfold aN at e ⊢
 split at e <;> (try (cases e; done))
 rename_i cs hf
 try simp only [hf]
 simp only [bC, bP] at e ⊢
 obtain ⟨rfl, rfl⟩ := e
 exact ⟨_, ⟨by rw [S.next], rfl⟩, S.new rfl⟩
theorem sD (b : Pos) (z : List DV) (n : Nat) (ps : List (Nat × Nat × DV)) : SimP g (bL b z n ps) (bL b z n ps) := fun h h' S v k e => by
 unfold bL at e ⊢
 split at e <;> (try (cases e; done))
 rename_i cs hf
 try simp only [hf]
 simp only [bC, bP] at e ⊢
 obtain ⟨rfl, rfl⟩ := e
 exact ⟨_, ⟨rfl, rfl⟩, by rw [S.next]; first | exact S.setR _ _ _ _ | exact S.setM _ _ _ | exact S.setI _ _ _ _⟩
theorem aLk : SimP g dY dY := fun h h' S v k e => by
 simp only [dY, bC, bP] at e ⊢
 obtain ⟨rfl, rfl⟩ := e
 exact ⟨_, ⟨by rw [S.next], rfl⟩, S.new rfl⟩
theorem Sim.entries (S : Sim g h h') {x : DV} {es : List (DV × DV)} (he : gY x h = some es) : gY x h' = some es := by
 unfold gY at he ⊢
 split at he <;> (try (cases he; done))
 ·exact he
 ·split at he <;> (try (cases he; done))
  rename_i hb
  rw [S.mp hb]; exact he
theorem aRg (d : TypeDesc) (z : DV) (ok : Bool) (x key : DV) : SimP g (eK d z ok x key) (eK d z ok x key) := fun h h' S v k e => by
 unfold eK at e ⊢
 split at e <;> (try (cases e; done))
 rename_i es he
 simp only [S.entries he]
 split at e <;> (try (cases e; done))
 all_goals
  rename_i hf
  try simp only [hf]
  simp only [bC, bP] at e
  obtain ⟨rfl, rfl⟩ := e
  exact ⟨_, rfl, S⟩
theorem aPk (d : TypeDesc) (x key y : DV) : SimP g (gL d x key y) (gL d x key y) := fun h h' S v k e => by
 unfold gL at e ⊢
 split at e <;> (try (cases e; done))
 split at e <;> (try (cases e; done))
 rename_i b _ es hb
 rw [S.mp hb]
 dsimp only
 split at e <;> (try (cases e; done))
 rename_i hf
 try simp only [hf]
 simp only [bC, bP] at e
 obtain ⟨rfl, rfl⟩ := e
 exact ⟨_, rfl, by rw [S.next]; first | exact S.setR _ _ _ _ | exact S.setM _ _ _ | exact S.setI _ _ _ _⟩
theorem aCc (d : TypeDesc) (z x key : DV) : SimP g (fT d z x key) (fT d z x key) := fun h h' S v k e => by
 unfold fT at e ⊢
 split at e <;> (try (cases e; done))
 split at e <;> (try (cases e; done))
 rename_i b _ es hb
 rw [S.mp hb]
 dsimp only
 split at e <;> (try (cases e; done))
 all_goals
  rename_i hf
  try simp only [hf]
  simp only [bC, bP] at e
  obtain ⟨rfl, rfl⟩ := e
  exact ⟨_, rfl, by rw [S.next]; first | exact S.setR _ _ _ _ | exact S.setM _ _ _ | exact S.setI _ _ _ _⟩
theorem yV (x s y : DV) : SimP g (eB x s y) (eB x s y) := fun h h' S v k e => by
 unfold eB at e ⊢
 split at e <;> (try (cases e; done))
 split at e <;> (try (cases e; done))
 rename_i es hb
 rw [S.mp hb]
 dsimp only
 split at e <;> (try (cases e; done))
 rename_i hf
 try simp only [hf]
 simp only [bC, bP] at e
 obtain ⟨rfl, rfl⟩ := e
 exact ⟨_, rfl, by rw [S.next]; first | exact S.setR _ _ _ _ | exact S.setM _ _ _ | exact S.setI _ _ _ _⟩
theorem aAa (size bytes : Nat) (z : List DV) (n c : DV) : SimP g (cP size bytes z n c) (cP size bytes z n c) := fun h h' S v k e => by
 unfold cP at e ⊢
 split at e <;> (try (cases e; done))
 split at e <;> (try (cases e; done))
 rename_i hc
 rw [if_pos hc]
 simp only [bC, bP] at e ⊢
 obtain ⟨rfl, rfl⟩ := e
 exact ⟨_, ⟨by rw [S.next], rfl⟩, S.new rfl⟩
theorem bBk (z : List DV) (x : DV) : SimP g (kH z x) (kH z x) := fun h h' S v k e => by
 unfold kH at e ⊢
 split at e <;> (try (cases e; done))
 ·simp only [bC, bP] at e
  obtain ⟨rfl, rfl⟩ := e
  exact ⟨_, rfl, S⟩
 ·simp only [bC, bP] at e
  obtain ⟨rfl, rfl⟩ := e
  exact ⟨_, rfl, S⟩
 ·split at e
  ·rename_i hn
   simp only [bC, bP] at e
   obtain ⟨rfl, rfl⟩ := e
   simp only [hn, if_true]
   exact ⟨_, rfl, S⟩
  ·rename_i hn
   rw [if_neg hn]
   split at e <;> (try (cases e; done))
   rename_i k0 hs
   simp only [bC, bP] at e
   obtain ⟨rfl, rfl⟩ := e
   obtain ⟨k', h1, h2⟩ := S.storeAt hs
   try simp only [h1]
   exact ⟨_, rfl, h2⟩
theorem Sim.src (S : Sim g h h') {size : Nat} {x : DV} {r : Nat × List DV} (hs : qK size x h = some r) : qK size x h' = some r := by
 unfold qK at hs ⊢
 split at hs <;> (try (cases hs; done))
 ·exact hs
 ·exact hs
 ·split at hs <;> (try (cases hs; done))
  rename_i hc
  simp only [S.cellsAt hc]; exact hs
 ·split at hs <;> (try (cases hs; done))
  rename_i hc
  simp only [S.cellsAt hc]; exact hs
 ·exact hs
theorem aPz (size bytes : Nat) (s x : DV) : SimP g (aY size bytes s x) (aY size bytes s x) := fun h h' S v k e => by
 unfold aY at e ⊢
 split at e <;> (try (cases e; done))
 rename_i n new hs
 simp only [S.src hs]
 split at e <;> (try (cases e; done))
 ·split at e
  ·rename_i hn
   rw [if_pos hn]
   simp only [bC, bP] at e
   obtain ⟨rfl, rfl⟩ := e
   exact ⟨_, rfl, S⟩
  ·rename_i hn
   rw [if_neg hn]
   split at e <;> (try (cases e; done))
   rename_i hr
   rw [if_pos hr]
   simp only [bC, bP] at e ⊢
   obtain ⟨rfl, rfl⟩ := e
   exact ⟨_, ⟨by rw [S.next], rfl⟩, S.new rfl⟩
 ·split at e <;> (try (cases e; done))
  rename_i hn
  rw [if_pos hn]
  simp only [bC, bP] at e
  obtain ⟨rfl, rfl⟩ := e
  exact ⟨_, rfl, S⟩
 ·rename_i b o len cap
  split at e
  ·rename_i hle
   rw [if_pos hle]
   split at e <;> (try (cases e; done))
   rename_i k0 hst
   simp only [bC, bP] at e
   obtain ⟨rfl, rfl⟩ := e
   obtain ⟨k', h1, h2⟩ := S.storeAt hst
   try simp only [h1]
   exact ⟨_, rfl, h2⟩
  ·rename_i hle
   rw [if_neg hle]
   split at e <;> (try (cases e; done))
   rename_i k0 l old hb hold
   rw [S.row hb, S.cellsAt hold]
   dsimp only
   split at e <;> (try (cases e; done))
   rename_i hroom
   rw [if_pos hroom]
   split at e <;> (try (cases e; done))
   ·simp only [bC, bP] at e ⊢
    obtain ⟨rfl, rfl⟩ := e
    exact ⟨_, ⟨by rw [S.next], rfl⟩, S.new rfl⟩
   ·simp only [bC, bP] at e ⊢
    obtain ⟨rfl, rfl⟩ := e
    exact ⟨_, ⟨by rw [S.next], rfl⟩, S.new rfl⟩
   ·split at e <;> (try (cases e; done))
    rename_i hes
    rw [if_pos hes]
    simp only [bC, bP] at e ⊢
    obtain ⟨rfl, rfl⟩ := e
    refine ⟨_, ⟨by rw [S.next], rfl⟩, ?_⟩
    have S1 : Sim g ⟨h.next, Tr.set (.row .sp (bR o l)) b h.bl⟩ ⟨h'.next, Tr.set (.row .sp (bR o l)) b h'.bl⟩ := by
     rw [S.next]; exact S.set (show vG g (.row .sp (bR o l)) (.row .sp (bR o l)) from rfl) _ _
    exact S1.new rfl
 ·rename_i b o len cap
  split at e
  ·rename_i hn
   rw [if_pos hn]
   split at e <;> (try (cases e; done))
   rename_i hc
   rw [if_pos hc]
   simp only [bC, bP] at e
   obtain ⟨rfl, rfl⟩ := e
   exact ⟨_, rfl, S⟩
  ·rename_i hn
   rw [if_neg hn]
   split at e <;> (try (cases e; done))
   rename_i hc
   rw [if_neg hc]
   split at e <;> (try (cases e; done))
   rename_i old hold
   simp only [S.cellsAt hold]
   split at e <;> (try (cases e; done))
   rename_i hr
   rw [if_pos hr]
   simp only [bC, bP] at e ⊢
   obtain ⟨rfl, rfl⟩ := e
   exact ⟨_, ⟨by rw [S.next], rfl⟩, S.new rfl⟩
theorem bDa (x : DV) : SimP g (oQ x) (oQ x) := fun h h' S v k e => by
 unfold oQ at e ⊢
 split at e <;> (try (cases e; done))
 simp only [bC, bP] at e ⊢
 obtain ⟨rfl, rfl⟩ := e
 exact ⟨_, ⟨by rw [S.next], rfl⟩, S.new rfl⟩
theorem bGo (x : DV) : SimP g (xE x) (xE x) := fun h h' S v k e => by
 unfold xE at e ⊢
 split at e <;> (try (cases e; done))
 split at e <;> (try (cases e; done))
 rename_i b _ l pos hb
 rw [S.it hb]
 dsimp only
 split at e
 ·rename_i c hc
  try simp only [hc]
  split at e <;> (try (cases e; done))
  rename_i hlt
  rw [if_pos hlt]
  simp only [bC, bP] at e ⊢
  obtain ⟨rfl, rfl⟩ := e
  exact ⟨_, ⟨rfl, rfl⟩, by rw [S.next]; first | exact S.setR _ _ _ _ | exact S.setM _ _ _ | exact S.setI _ _ _ _⟩
 ·rename_i hc
  try simp only [hc]
  simp only [bC, bP] at e ⊢
  obtain ⟨rfl, rfl⟩ := e
  exact ⟨_, ⟨rfl, rfl⟩, S⟩
end
end Go.Dd

namespace Go.Dd
theorem SimP.none {gg : Bool} (p : Hp → aH) : SimP gg (fun _ => Option.none) p := fun h h' S => SimR.none _
theorem SimP.val {gg : Bool} (v : DV) : SimP gg (fun h => some (v, h)) (fun h => some (v, h)) := fun h h' S => SimR.some S v
section
variable {gg : Bool} {P : Program} {I2 I1 : FuncId → Option (List DV → Hp → aH)} {rec2 rec1 : FuncId → List DV → Hp → aH}
theorem aKi (b : Builtin) (ts : List TypeId) (args : List DV) : SimP gg (kJ ⟨P, I2⟩ b ts args) (kJ ⟨P, I1⟩ b ts args) := by
 unfold kJ
 cases b <;> try exact SimP.none _
 case len =>
  match ts, args with
  | [t], [x] =>
   dsimp only
   cases P.underlying t with
   | none => exact SimP.none _
   | some d => cases d <;> first | exact SimP.none _ | exact dNg (aAk x) | exact dNg (nM x)
  | [], _ => exact SimP.none _
  | [_], [] => exact SimP.none _
  | [_], _ :: _ :: _ => exact SimP.none _
  | _ :: _ :: _, _ => exact SimP.none _
 case min =>
  show SimP gg (sA args) (sA args)
  unfold sA
  match args with
  | [x, y] => exact dNg (aKk x y)
  | [] => exact SimP.none _
  | [_] => exact SimP.none _
  | _ :: _ :: _ :: _ => exact SimP.none _
 case max =>
  show SimP gg (rM args) (rM args)
  unfold rM
  match args with
  | [x, y] => exact dNg (aKe x y)
  | [] => exact SimP.none _
  | [_] => exact SimP.none _
  | _ :: _ :: _ :: _ => exact SimP.none _
 case clear =>
  match ts, args with
  | [t], [x] =>
   dsimp only
   cases P.underlying t with
   | none => exact SimP.none _
   | some d =>
    cases d <;> try exact SimP.none _
    rename_i e
    dsimp only
    cases P.info? e with
    | none => exact SimP.none _
    | some i =>
     dsimp only
     cases i.zero with
     | none => exact SimP.none _
     | some z =>
      dsimp only
      by_cases h0 : 0 < z.cells.size
      ·simp only [h0, if_true]; exact bBk _ _
      ·simp only [h0, if_false]; exact SimP.none _
  | [], _ => exact SimP.none _
  | [_], [] => exact SimP.none _
  | [_], _ :: _ :: _ => exact SimP.none _
  | _ :: _ :: _, _ => exact SimP.none _
 case append =>
  match ts, args with
  | [t, u], [s, x] =>
   dsimp only
   have hmain : ∀ e, SimP gg (fun h => match P.info? e with
     | some i => match i.zero with
      | some z => if 0 < i.size ∧ 0 < i.bytes ∧ z.cells.size = i.size then aY i.size i.bytes s x h else none
      | none => none
     | none => none) (fun h => match P.info? e with
     | some i => match i.zero with
      | some z => if 0 < i.size ∧ 0 < i.bytes ∧ z.cells.size = i.size then aY i.size i.bytes s x h else none
      | none => none
     | none => none) := by
    intro e
    cases P.info? e with
    | none => exact SimP.none _
    | some i =>
     dsimp only
     cases i.zero with
     | none => exact SimP.none _
     | some z =>
      dsimp only
      split
      ·exact aPz _ _ _ _
      ·exact SimP.none _
   cases P.underlying t with
   | none => exact SimP.none _
   | some d =>
    cases d <;> try exact SimP.none _
    rename_i e
    cases P.underlying u with
    | none => exact SimP.none _
    | some d2 => cases d2 <;> first | exact SimP.none _ | exact hmain e
  | [], _ => exact SimP.none _
  | [_], _ => exact SimP.none _
  | [_, _], [] => exact SimP.none _
  | [_, _], [_] => exact SimP.none _
  | [_, _], _ :: _ :: _ :: _ => exact SimP.none _
  | _ :: _ :: _ :: _, _ => exact SimP.none _
theorem aAn (HC : ∀ g args, SimP gg (bH ⟨P, I2⟩ rec2 g args) (bH ⟨P, I1⟩ rec1 g args)) (o : Oper) (env : bA) : SimP gg (jL ⟨P, I2⟩ rec2 o env) (jL ⟨P, I1⟩ rec1 o env) := by
 obtain ⟨dst, op, ty, pos, after, guard⟩ := o
 unfold jL
 cases op <;> (try dsimp only) <;> try exact SimP.none _
 case move x => exact SimP.val _
 case assign x => exact SimP.val _
 case pick c x y => exact dNg (aAr _ _ _)
 case alloc t =>
  cases P.info? t with
  | none => exact SimP.none _
  | some i =>
   try dsimp only
   cases i.zero with
   | none => exact SimP.none _
   | some z => exact aFh _
 case box t x => exact cEn _
 case build t ps =>
  cases P.underlying t with
  | none => exact SimP.none _
  | some d =>
   cases d <;> (try dsimp only) <;> try exact SimP.none _
   case array n e =>
    cases P.info? t with
    | none => exact SimP.none _
    | some i =>
     try dsimp only
     split
     ·exact dNg (mD _ _)
     ·exact SimP.none _
   rename_i fs
   cases P.info? t with
   | none => exact SimP.none _
   | some i =>
    try dsimp only
    cases i.zero with
    | none => exact SimP.none _
    | some z =>
     try dsimp only
     generalize fs.toList.mapM (fun f => (P.info? f.type).map fun fi => (f.offset, fi.size)) = pl
     cases pl with
     | none => exact SimP.none _
     | some pl =>
      try dsimp only
      generalize ps.toList.mapM (fun (q : Nat × Operand) => (pl[q.1]?).map fun s => (s.1, s.2, opr env q.2)) = l
      cases l with
      | none => exact SimP.none _
      | some l => exact dNg (mD _ _)
 case buildSlice t n ps =>
  cases P.underlying t with
  | none => exact SimP.none _
  | some d =>
   cases d <;> (try dsimp only) <;> try exact SimP.none _
   rename_i e
   cases P.info? e with
   | none => exact SimP.none _
   | some i =>
    try dsimp only
    cases i.zero with
    | none => exact SimP.none _
    | some z =>
     try dsimp only
     split
     ·exact xI _ _ _
     ·exact SimP.none _
 case load t x =>
  cases P.underlying t with
  | none => exact SimP.none _
  | some d =>
   cases P.info? t with
   | none => exact SimP.none _
   | some i =>
    try dsimp only
    cases jN d with
    | true => exact lF _ _
    | false => exact lO _
 case store t x y =>
  cases P.info? t with
  | none => exact SimP.none _
  | some i => exact lJ _ _ _
 case nilCheck x => exact dNg (aMg _)
 case binOp op t x y yt =>
  cases P.underlying t with
  | none => exact SimP.none _
  | some d => cases d <;> first | exact dNg (aKm _ _ _ _) | exact dNg (aMl _ _ _ _)
 case unOp op t x => exact dNg (aTy _ _)
 case convert src dst x =>
  cases P.underlying src with
  | none => exact SimP.none _
  | some d =>
   cases P.underlying dst with
   | none => cases d <;> exact SimP.none _
   | some d2 =>
    cases d2 <;> cases d <;> (try dsimp only) <;> first | exact SimP.none _ | exact dNg (pK _ _) | exact dNg (pB _) | skip
    all_goals
     rename_i e
     cases P.underlying e with
     | none => exact SimP.none _
     | some d3 =>
      cases d3 <;> (try dsimp only) <;> try exact SimP.none _
      rename_i k
      cases k <;> first | exact SimP.none _ | exact bDh _
 case makeFunc fn first cap =>
  cases fn <;> first | exact SimP.none _ | exact SimP.val _
 case slice t x lo hi mx =>
  cases P.underlying t with
  | none => exact SimP.none _
  | some d =>
   cases mx with
   | none =>
    cases d <;> (try dsimp only) <;> first | exact SimP.none _ | exact dNg (mX _ _ _) | skip
    rename_i e
    cases P.info? e with
    | none => exact SimP.none _
    | some i => exact bBn _ _ _ _
   | some m =>
    cases d <;> (try dsimp only) <;> try exact SimP.none _
    rename_i e
    cases P.info? e with
    | none => exact SimP.none _
    | some i =>
     cases hi with
     | none => exact SimP.none _
     | some hv => exact aNf _ _ _ _
 case fieldAddr t x f =>
  cases P.underlying t with
  | none => exact SimP.none _
  | some d =>
   cases d <;> (try dsimp only) <;> try exact SimP.none _
   rename_i fs
   cases fs[f]? with
   | none => exact SimP.none _
   | some fl =>
    try dsimp only
    cases P.info? fl.type with
    | none => exact SimP.none _
    | some i =>
     try dsimp only
     split
     ·exact SimP.none _
     ·exact dNg (zA _ _)
 case field t x f =>
  cases P.underlying t with
  | none => exact SimP.none _
  | some d =>
   cases d <;> (try dsimp only) <;> try exact SimP.none _
   rename_i fs
   cases fs[f]? with
   | none => exact SimP.none _
   | some fl =>
    try dsimp only
    cases P.underlying fl.type with
    | none => exact SimP.none _
    | some d2 =>
     cases P.info? fl.type with
     | none => exact SimP.none _
     | some i =>
      try dsimp only
      cases jN d2 with
      | true => exact dNg (yY _ _ _)
      | false => exact dNg (yC _ _)
 case indexAddr t x ix =>
  cases P.underlying t with
  | none => exact SimP.none _
  | some d =>
   cases d <;> (try dsimp only) <;> try exact SimP.none _
   ·rename_i e
    cases P.info? e with
    | none => exact SimP.none _
    | some i => exact dNg (nD _ _ _)
   ·rename_i n e
    cases P.info? e with
    | none => exact SimP.none _
    | some i => exact dNg (oB _ _ _ _)
 case index t x ix =>
  cases P.underlying t with
  | none => exact SimP.none _
  | some d => cases d <;> first | exact SimP.none _ | exact dNg (tP _ _)
 case extract x i => exact dNg (qQ _ _)
 case range t x =>
  cases P.underlying t with
  | none => exact SimP.none _
  | some d => cases d <;> first | exact SimP.none _ | exact bDa _
 case next x str =>
  cases str with
  | true => simp only [if_true]; exact bGo _
  | false => simp only [Bool.false_eq_true, if_false]; exact SimP.none _
 case makeMap t r => cases r <;> first | exact SimP.none _ | exact aLk
 case lookup t x k ok =>
  cases P.underlying t with
  | none => exact SimP.none _
  | some d =>
   cases d <;> (try dsimp only) <;> try exact SimP.none _
   rename_i kt et
   cases P.underlying kt with
   | none => exact SimP.none _
   | some d2 =>
    cases P.info? et with
    | none => exact SimP.none _
    | some i =>
     try dsimp only
     cases i.zero with
     | none => exact SimP.none _
     | some z =>
      try dsimp only
      cases kE d2 with
      | true => exact aRg _ _ _ _ _
      | false => exact SimP.none _
 case mapUpdate t m k x =>
  cases P.underlying t with
  | none => exact SimP.none _
  | some d =>
   cases d <;> (try dsimp only) <;> try exact SimP.none _
   rename_i kt et
   cases P.underlying kt with
   | none => exact SimP.none _
   | some d2 =>
    try dsimp only
    cases kE d2 with
    | true => exact aPk _ _ _ _
    | false => exact SimP.none _
 case mapEntry t m k =>
  cases P.underlying t with
  | none => exact SimP.none _
  | some d =>
   cases d <;> (try dsimp only) <;> try exact SimP.none _
   rename_i kt et
   cases P.underlying kt with
   | none => exact SimP.none _
   | some d2 =>
    cases P.info? et with
    | none => exact SimP.none _
    | some i =>
     try dsimp only
     cases i.zero with
     | none => exact SimP.none _
     | some z =>
      try dsimp only
      cases kE d2 with
      | true => exact aCc _ _ _ _
      | false => exact SimP.none _
 case entryStore t m s x => exact yV _ _ _
 case makeSlice t n c =>
  cases P.underlying t with
  | none => exact SimP.none _
  | some d =>
   cases d <;> (try dsimp only) <;> try exact SimP.none _
   rename_i e
   cases P.info? e with
   | none => exact SimP.none _
   | some i =>
    try dsimp only
    cases i.zero with
    | none => exact SimP.none _
    | some z =>
     try dsimp only
     split
     ·exact aAa _ _ _ _ _
     ·exact SimP.none _
 case call c =>
  obtain ⟨callee, args, ats⟩ := c
  cases callee with
  | value f =>
   try dsimp only
   unfold gJ
   cases opr env f <;> first | exact SimP.none _ | exact HC _ _
  | invoke r m => exact SimP.none _
  | builtin b => exact aKi _ _ _
theorem lH (HC : ∀ g args, SimP gg (bH ⟨P, I2⟩ rec2 g args) (bH ⟨P, I1⟩ rec1 g args)) (all : Array Oper) (o : Oper) (env : bA) :
  SimP gg (bI ⟨P, I2⟩ rec2 all o env) (bI ⟨P, I1⟩ rec1 all o env) := by
 unfold bI
 cases o.guard with
 | none => exact aAn HC o env
 | some g =>
  obtain ⟨j, want⟩ := g
  dsimp only
  unfold gD
  cases aTv all j env <;> try exact SimP.none _
  ·rename_i x
   dsimp only
   split
   ·exact aAn HC o env
   ·exact SimP.val _
  ·rename_i vs
   cases vs with
   | nil => exact SimP.val _
   | cons a b => exact SimP.none _
def SimK (gg : Bool) (k k' : K) : Prop := ∀ env, SimP gg (k env) (k' env)
theorem dNk {r r' : aH} {k k' : DV → Hp → aH} (h : SimR gg r r') (hk : ∀ v, SimP gg (k v) (k' v)) : SimR gg (bnd r k) (bnd r' k') := by
 intro v h1 e
 obtain ⟨u, h0, e1, e2⟩ := dI e
 obtain ⟨h0', f1, S⟩ := h u h0 e1
 obtain ⟨h1', g1, S1⟩ := hk u h0 h0' S v h1 e2
 exact ⟨h1', by rw [f1]; exact g1, S1⟩
theorem dOf {b b' : Bool} {r r' : aH} (hb : b = true → b' = true) (h : SimR gg r r') : SimR gg (cnd b r) (cnd b' r') := by
 cases b with
 | false => exact fun v k e => by cases e
 | true => rw [hb rfl]; exact h
theorem qZ (HC : ∀ g args, SimP gg (bH ⟨P, I2⟩ rec2 g args) (bH ⟨P, I1⟩ rec1 g args)) (nt : Nat) (all : Array Oper) {k k' : K} (hk : SimK gg k k') :
  ∀ l : List Oper, SimK gg (gW ⟨P, I2⟩ rec2 nt all l k) (gW ⟨P, I1⟩ rec1 nt all l k')
 | [] => hk
 | o :: l => fun env h h' S => by
  change SimR gg (cnd (cZ nt o.dst) (bnd (bI ⟨P, I2⟩ rec2 all o env h) fun v h1 => gW ⟨P, I2⟩ rec2 nt all l k (bO env o.dst v) h1))
   (cnd (cZ nt o.dst) (bnd (bI ⟨P, I1⟩ rec1 all o env h') fun v h1 => gW ⟨P, I1⟩ rec1 nt all l k' (bO env o.dst v) h1))
  exact dOf id (dNk (lH HC all o env h h' S) fun v => qZ HC nt all hk l _)
theorem aAb {gg : Bool} (b : Pos) : SimP gg (kL b) (kL b) := by
 intro h h' S v k e
 simp only [kL, bC, bP] at e ⊢
 obtain ⟨rfl, rfl⟩ := e
 exact ⟨_, ⟨rfl, rfl⟩, by rw [S.next]; first | exact S.setR _ _ _ _ | exact S.setM _ _ _ | exact S.setI _ _ _ _⟩
theorem cSj (o : Oper) (b : Pos) (env : bA) : SimP gg (dS ⟨P, I2⟩ o b env) (dS ⟨P, I1⟩ o b env) := by
 obtain ⟨dst, op, ty, pos, after, guard⟩ := o
 unfold dS
 cases op <;> (try dsimp only) <;> try exact SimP.none _
 case alloc t =>
  cases P.info? t with
  | none => exact SimP.none _
  | some i =>
   dsimp only
   cases i.zero with
   | none => exact SimP.none _
   | some z => exact aAx _ _
 case makeMap t r => cases r with
  | none => exact aAb _
  | some _ => exact SimP.none _
 case box t x => exact bDu _ _
 case buildSlice t n ps =>
  cases P.underlying t with
  | none => exact SimP.none _
  | some d =>
   cases d <;> (try dsimp only) <;> try exact SimP.none _
   rename_i e
   cases P.info? e with
   | none => exact SimP.none _
   | some i =>
    dsimp only
    cases i.zero with
    | none => exact SimP.none _
    | some z =>
     dsimp only
     split
     ·exact sD _ _ _ _
     ·exact SimP.none _
theorem SimR.same {r r' : aH} (h : SimR gg r r') {v : DV} (hs : bM r v = true) : bM r' v = true := by
 unfold bM at hs ⊢
 split at hs
 ·rename_i x k
  obtain ⟨k', e, _⟩ := h x k rfl
  rw [e]; exact hs
 ·cases hs
inductive SimHs (gg : Bool) : List (Option Nat × Hp) → List (Option Nat × Hp) → Prop
 | nil : SimHs gg [] []
 | cons {j : Option Nat} {h h' : Hp} {l l' : List (Option Nat × Hp)} (S : Sim gg h h') (T : SimHs gg l l') : SimHs gg ((j, h) :: l) ((j, h') :: l')
theorem sV (m : Array Nat) (i : Nat) (v : DV) {look look' : Hp → aH} (hl : SimP gg look look') : ∀ (dirty : Bool) {hs hs' : List (Option Nat × Hp)}, SimHs gg hs hs' →
  eH m i v look dirty hs = true → eH m i v look' dirty hs' = true
 | dirty, _, _, .nil, h => h
 | dirty, _, _, .cons (j := j) S T, h => by
  unfold eH at h ⊢
  rw [Bool.and_eq_true] at h ⊢
  refine ⟨?_, ?_⟩
  ·have h1 := h.1
   cases dirty with
   | true => exact SimR.same (hl _ _ S) h1
   | false => exact h1
  ·have h2 := h.2
   cases j with
   | none => exact h2
   | some j =>
    dsimp only at h2 ⊢
    cases ho : gN m j i with
    | true => rfl
    | false =>
     rw [ho] at h2
     exact sV m i v hl true T h2
inductive SimSeen (gg : Bool) : List Seen → List Seen → Prop
 | nil : SimSeen gg [] []
 | cons {i : Nat} {look look' : Hp → aH} {v : DV} {l l' : List Seen} (S : SimP gg look look') (T : SimSeen gg l l') : SimSeen gg (⟨i, look, v⟩ :: l) (⟨i, look', v⟩ :: l')
theorem SimSeen.all {m : Array Nat} {i : Nat} {h h' : Hp} (S : Sim gg h h') : ∀ {l l' : List Seen}, SimSeen gg l l' →
  l.all (fun q => gN m q.at_ i || bM (q.look h) q.v) = true → l'.all (fun q => gN m q.at_ i || bM (q.look h') q.v) = true
 | _, _, .nil, e => e
 | _, _, .cons (i := i0) (v := v) S1 T, e => by
  rw [List.all_cons, Bool.and_eq_true] at e ⊢
  refine ⟨?_, SimSeen.all S T e.2⟩
  have h1 := e.1
  rw [Bool.or_eq_true] at h1 ⊢
  exact h1.imp id fun hs => SimR.same (S1 _ _ S) hs
theorem nC (HC : ∀ g args, SimP gg (bH ⟨P, I2⟩ rec2 g args) (bH ⟨P, I1⟩ rec1 g args)) (nt : Nat) (all : Array Oper) (m : Array Nat) (p0 : Pos) {k k' : K} (hk : SimK gg k k') :
  ∀ (l : List Oper) (i c : Nat) (dirty : Bool) {rd rd' : List Seen} {hs hs' : List (Option Nat × Hp)}, SimSeen gg rd rd' → SimHs gg hs hs' →
   SimK gg (eG ⟨P, I2⟩ rec2 nt all m p0 l k i c dirty rd hs) (eG ⟨P, I1⟩ rec1 nt all m p0 l k' i c dirty rd' hs')
 | [], i, c, dirty, rd, rd', hs, hs', R, T => hk
 | o :: l, i, c, dirty, rd, rd', hs, hs', R, T => fun env h h' S => by
  change SimR gg (cnd (cZ nt o.dst) (
   match bW P o.op with
   | .pure => bnd (bI ⟨P, I2⟩ rec2 all o env h) fun v h' => eG ⟨P, I2⟩ rec2 nt all m p0 l k (i + 1) c dirty rd hs (bO env o.dst v) h'
   | .reads => bnd (bI ⟨P, I2⟩ rec2 all o env h) fun v h' =>
     cnd (eH m i v (bI ⟨P, I2⟩ rec2 all o env) dirty hs) (eG ⟨P, I2⟩ rec2 nt all m p0 l k (i + 1) c dirty (⟨i, bI ⟨P, I2⟩ rec2 all o env, v⟩ :: rd) hs (bO env o.dst v) h')
   | .makes => bnd (dS ⟨P, I2⟩ o (cF c p0) env h) fun v h' => eG ⟨P, I2⟩ rec2 nt all m p0 l k (i + 1) (c + 1) true rd hs (bO env o.dst v) h'
   | .acts => bnd (bI ⟨P, I2⟩ rec2 all o env h) fun v h' =>
     cnd (rd.all (fun q => gN m q.at_ i || bM (q.look h') q.v)) (eG ⟨P, I2⟩ rec2 nt all m p0 l k (i + 1) c false rd ((some i, h') :: hs) (bO env o.dst v) h')))
   (cnd (cZ nt o.dst) (
   match bW P o.op with
   | .pure => bnd (bI ⟨P, I1⟩ rec1 all o env h') fun v h' => eG ⟨P, I1⟩ rec1 nt all m p0 l k' (i + 1) c dirty rd' hs' (bO env o.dst v) h'
   | .reads => bnd (bI ⟨P, I1⟩ rec1 all o env h') fun v h' =>
     cnd (eH m i v (bI ⟨P, I1⟩ rec1 all o env) dirty hs') (eG ⟨P, I1⟩ rec1 nt all m p0 l k' (i + 1) c dirty (⟨i, bI ⟨P, I1⟩ rec1 all o env, v⟩ :: rd') hs' (bO env o.dst v) h')
   | .makes => bnd (dS ⟨P, I1⟩ o (cF c p0) env h') fun v h' => eG ⟨P, I1⟩ rec1 nt all m p0 l k' (i + 1) (c + 1) true rd' hs' (bO env o.dst v) h'
   | .acts => bnd (bI ⟨P, I1⟩ rec1 all o env h') fun v h' =>
     cnd (rd'.all (fun q => gN m q.at_ i || bM (q.look h') q.v)) (eG ⟨P, I1⟩ rec1 nt all m p0 l k' (i + 1) c false rd' ((some i, h') :: hs') (bO env o.dst v) h')))
  refine dOf id ?_
  cases bW P o.op with
  | pure => exact dNk (lH HC all o env h h' S) fun v => nC HC nt all m p0 hk l _ _ _ R T _
  | reads =>
   exact dNk (lH HC all o env h h' S) fun v h1 h1' S1 => dOf (sV m i v (lH HC all o env) dirty T)
    (nC HC nt all m p0 hk l _ _ _ (.cons (lH HC all o env) R) T _ _ _ S1)
  | makes => exact dNk (cSj o _ env h h' S) fun v => nC HC nt all m p0 hk l _ _ _ R T _
  | acts =>
   exact dNk (lH HC all o env h h' S) fun v h1 h1' S1 => dOf (SimSeen.all S1 R)
    (nC HC nt all m p0 hk l _ _ _ R (.cons S1 T) _ _ _ S1)
theorem Sim.resv {gg : Bool} {h h' : Hp} (S : Sim gg h h') (k : Nat) : Sim gg (resv k h) (resv k h') := by
 cases k with
 | zero => exact S
 | succ k => exact ⟨by show cF (k + 1) h'.next = cF (k + 1) h.next; rw [S.next], S.get⟩
theorem bGy (HC : ∀ g args, SimP gg (bH ⟨P, I2⟩ rec2 g args) (bH ⟨P, I1⟩ rec1 g args)) (nt : Nat) (ops : Array Oper) {k k' : K} (hk : SimK gg k k') :
  SimK gg (iO ⟨P, I2⟩ rec2 nt ops k) (iO ⟨P, I1⟩ rec1 nt ops k') := fun env h h' S => by
 unfold iO
 rw [S.next]
 exact nC HC nt ops _ _ hk _ _ _ _ .nil (.cons (S.resv _) .nil) env _ _ (S.resv _)
theorem aJj {c : DV} {a b a' b' : aH} (ha : SimR gg a a') (hb : SimR gg b b') : SimR gg (aX c a b) (aX c a' b') := by
 unfold aX
 cases c <;> try exact SimR.none _
 rename_i x
 cases x
 ·exact hb
 ·exact ha
theorem qV {b b' : K → K} (hb : ∀ k k', SimK gg k k' → SimK gg (b k) (b' k')) : ∀ (n d : Nat), SimK gg (aM b n) (aM b' (n + d))
 | 0, d => fun env h h' S v k e => by cases e
 | n + 1, d => by
  rw [show n + 1 + d = (n + d) + 1 from by omega]
  exact hb _ _ (qV hb n d)
theorem gH (HC : ∀ g args, SimP gg (bH ⟨P, I2⟩ rec2 g args) (bH ⟨P, I1⟩ rec1 g args)) (nt n d : Nat) : ∀ (c : Code) (X X' : Nat → K) (kr kr' k k' : K), (∀ j, SimK gg (X j) (X' j)) → SimK gg kr kr' → SimK gg k k' →
  SimK gg (aP ⟨P, I2⟩ rec2 nt n c X kr k) (aP ⟨P, I1⟩ rec1 nt (n + d) c X' kr' k') := by
 intro c
 have hfail : ∀ k', SimK gg cQ k' := fun k' env h h' S v k e => by cases e
 induction c with
 | skip => intro X X' kr kr' k k' hX hr hk; exact hk
 | region id ops dr =>
  intro X X' kr kr' k k' hX hr hk
  change SimK gg (Bool.rec (motive := fun _ => K) (gW ⟨P, I2⟩ rec2 nt ops ops.toList k) (Bool.rec (motive := fun _ => K) cQ (iO ⟨P, I2⟩ rec2 nt ops k) (eL P ops)) dr)
   (Bool.rec (motive := fun _ => K) (gW ⟨P, I1⟩ rec1 nt ops ops.toList k') (Bool.rec (motive := fun _ => K) cQ (iO ⟨P, I1⟩ rec1 nt ops k') (eL P ops)) dr)
  cases dr with
  | false => exact qZ HC nt ops hk _
  | true =>
   cases eL P ops with
   | false => exact hfail _
   | true => exact bGy HC nt ops hk
 | seq x y ihx ihy => intro X X' kr kr' k k' hX hr hk; exact ihx _ _ _ _ _ _ hX hr (ihy _ _ _ _ _ _ hX hr hk)
 | cond c x y ihx ihy =>
  intro X X' kr kr' k k' hX hr hk env h h' S
  exact aJj (ihx _ _ _ _ _ _ hX hr hk env h h' S) (ihy _ _ _ _ _ _ hX hr hk env h h' S)
 | block id x ih =>
  intro X X' kr kr' k k' hX hr hk
  refine ih _ _ _ _ _ _ (fun j => ?_) hr hk
  cases hj : Nat.beq j id with
  | true => exact hk
  | false => exact hX j
 | loop x ih =>
  intro X X' kr kr' k k' hX hr hk
  exact qV (fun k k' hk => ih _ _ _ _ _ _ hX hr hk) n d
 | rangeFunc f ps x y ihx ihy => intro X X' kr kr' k k' hX hr hk; exact hfail _
 | exit id => intro X X' kr kr' k k' hX hr hk; exact hX id
 | scope x ih => intro X X' kr kr' k k' hX hr hk; exact ih _ _ _ _ _ _ hX hr hk
 | label l => intro X X' kr kr' k k' hX hr hk; exact hk
 | goto l => intro X X' kr kr' k k' hX hr hk; exact hfail _
 | ret => intro X X' kr kr' k k' hX hr hk; exact hr
 | refuse why => intro X X' kr kr' k k' hX hr hk; exact hfail _
theorem bDk {h h' : Hp} (S : Sim gg h h') (t : TypeId) (x : DV) {k k' : DV → aH} (hk : ∀ v, SimR gg (k v) (k' v)) : SimR gg (aAv ⟨P, I2⟩ t x h k) (aAv ⟨P, I1⟩ t x h' k') := by
 unfold aAv
 dsimp only
 cases P.underlying t with
 | none => exact SimR.none _
 | some d =>
  cases P.info? t with
  | none => exact SimR.none _
  | some i =>
   dsimp only
   refine dNk ?_ fun v _ _ _ => hk v
   cases jN d with
   | true => exact lF _ _ h h' S
   | false => exact lO _ h h' S
theorem rW {h h' : Hp} (S : Sim gg h h') (env : bA) : ∀ (l : List ResultVar) (k k' : List DV → aH), (∀ vs, SimR gg (k vs) (k' vs)) → SimR gg (aXk ⟨P, I2⟩ env h l k) (aXk ⟨P, I1⟩ env h' l k')
 | [], k, k', hk => hk []
 | .tmp t :: l, k, k', hk => rW S env l _ _ fun vs => hk _
 | .cell a t :: l, k, k', hk => bDk S t (env a) fun v => rW S env l _ _ fun vs => hk _
theorem pX (fn : Func) : SimK gg (aV ⟨P, I2⟩ fn) (aV ⟨P, I1⟩ fn) := fun env h h' S => by
 unfold aV
 refine rW S env _ _ _ fun vs => ?_
 unfold bNw
 match vs with
 | [v] => exact SimR.some S _
 | [] => exact SimR.some S _
 | _ :: _ :: _ => exact SimR.some S _
theorem mZ (HC : ∀ g args, SimP gg (bH ⟨P, I2⟩ rec2 g args) (bH ⟨P, I1⟩ rec1 g args)) (n d : Nat) (f : FuncId) (args : List DV) :
  SimP gg (aF ⟨P, I2⟩ rec2 n f args) (aF ⟨P, I1⟩ rec1 (n + d) f args) := by
 intro h h' S
 unfold aF
 dsimp only
 cases P.funcs[f]? with
 | none => exact SimR.none _
 | some fn =>
  dsimp only
  cases fn.body with
  | none => exact SimR.none _
  | some c => exact gH HC fn.ntmps n d c _ _ _ _ _ _ (fun _ _ _ _ _ _ _ e => by cases e) (pX fn) (pX fn) _ h h' S
end
theorem bXo {gg : Bool} {P : Program} {I2 I1 : FuncId → Option (List DV → Hp → aH)} (d : Nat) (h0 : ∀ g, I2 g = none → I1 g = none)
  (hI : ∀ g F, I2 g = some F → ∀ n args, SimP gg (F args) (bH ⟨P, I1⟩ (fnD ⟨P, I1⟩ (n + d)) g args)) : ∀ (n : Nat) (f : FuncId) (args : List DV), SimP gg (fnD ⟨P, I2⟩ n f args) (fnD ⟨P, I1⟩ (n + d) f args)
 | 0, f, args => fun h h' S v k e => by cases e
 | n + 1, f, args => by
  rw [show n + 1 + d = (n + d) + 1 from by omega]
  refine mZ (fun g az => ?_) n d f args
  unfold bH
  dsimp only
  cases hg : I2 g with
  | none =>
   rw [h0 g hg]
   exact bXo d h0 hI n g az
  | some F =>
   have := hI g F hg n az
   unfold bH at this
   exact this
end Go.Dd

namespace Go.Dd
section
variable {gg : Bool} {P : Program} {I2 I1 : FuncId → Option (List DV → Hp → aH)} {rec2 rec1 : FuncId → List DV → Hp → aH}
theorem nT {c : Bool} {q q' : aH} (h : SimR gg q q') : SimR gg (cnd c q) (cnd c q') := by
 cases c with
 | false => exact SimR.none _
 | true => exact h
theorem dNi (k' : K) : SimK gg cQ k' := fun env h h' S v k e => by cases e
theorem yN (HC : ∀ g args, SimP gg (bH ⟨P, I2⟩ rec2 g args) (bH ⟨P, I1⟩ rec1 g args)) (n d : Nat) (I : ItC) (b : Bool) {kr kr' k k' : K} (hr : SimK gg kr kr') (hk : SimK gg k k') (e1 : bA) :
  SimP gg (qU ⟨P, I2⟩ rec2 n I b kr k e1) (qU ⟨P, I1⟩ rec1 (n + d) I b kr' k' e1) := fun h h' S =>
 nT (qZ HC I.nt I.ops (gH HC I.nt n d I.after _ _ _ _ _ _ (fun _ => dNi _) hr hk) _ _ h h' S)
theorem bEg (HC : ∀ g args, SimP gg (bH ⟨P, I2⟩ rec2 g args) (bH ⟨P, I1⟩ rec1 g args)) (n d : Nat) (I : ItC) (nt : Nat) (p : Tmp) (x y : Code) (env : bA) {X X' : Nat → K} {kr kr' kk kk' : K} (hX : ∀ j, SimK gg (X j) (X' j)) (hr : SimK gg kr kr') (hk : SimK gg kk kk') :
  SimK gg (aCu ⟨P, I2⟩ rec2 n I nt p x y env X kr kk) (aCu ⟨P, I1⟩ rec1 (n + d) I nt p x y env X' kr' kk') := fun e1 h h' S =>
 nT (gH HC nt n d x _ _ _ _ _ _ (fun _ => dNi _) (dNi _)
  (gH HC nt n d y _ _ _ _ _ _ (fun i _ => yN HC n d I false (fun _ => hX i env) (dNi _) e1) (fun _ => yN HC n d I false (fun _ => hr env) (dNi _) e1)
   (fun _ => yN HC n d I true (dNi _) (gH HC I.nt n d I.post _ _ _ _ _ _ (fun _ => dNi _) (dNi _) (gH HC I.nt n d I.step _ _ _ _ _ _ (fun _ => dNi _) (dNi _) hk)) e1)) _ h h' S)
theorem aQa (HC : ∀ g args, SimP gg (bH ⟨P, I2⟩ rec2 g args) (bH ⟨P, I1⟩ rec1 g args)) (n d : Nat) (I : ItC) (nt : Nat) (g : Operand) (p : Tmp) (x y : Code) {X X' : Nat → K} {kr kr' k k' : K} (hX : ∀ j, SimK gg (X j) (X' j)) (hr : SimK gg kr kr') (hk : SimK gg k k') :
  SimK gg (nK ⟨P, I2⟩ rec2 n I nt g p x y X kr k) (nK ⟨P, I1⟩ rec1 (n + d) I nt g p x y X' kr' k') := by
 intro env h h' S
 unfold nK
 cases opr env g with
 | f gf first cap =>
  cases first with
  | cons _ _ => exact SimR.none _
  | nil =>
   refine nT ?_
   rw [S.next]
   refine gH HC I.nt n d I.pre _ _ _ _ _ _ (fun _ => dNi _) (dNi _) (qV (fun kk kk' hkk => ?_) n d) _ _ _ (S.resv 2)
   refine gH HC I.nt n d I.test _ _ _ _ _ _ (fun j => ?_) (dNi _) (qZ HC I.nt I.ops ?_ I.front)
   ·cases Nat.beq j I.b0 with
    | true => exact fun _ => hk env
    | false => exact dNi _
   ·intro e1 h1 h1' S1
    exact nT (c := ylB (e1 I.yt) h.next) (bEg HC n d I nt p x y env hX hr hkk e1 h1 h1' S1)
 | _ => exact SimR.none _
theorem bCd (HC : ∀ g args, SimP gg (bH ⟨P, I2⟩ rec2 g args) (bH ⟨P, I1⟩ rec1 g args)) (nt n d : Nat) (I : ItC) : ∀ (c : Code) (X X' : Nat → K) (kr kr' k k' : K), (∀ j, SimK gg (X j) (X' j)) → SimK gg kr kr' → SimK gg k k' →
  SimK gg (oC ⟨P, I2⟩ rec2 nt n I c X kr k) (oC ⟨P, I1⟩ rec1 nt (n + d) I c X' kr' k') := by
 intro c
 induction c with
 | skip => intro X X' kr kr' k k' hX hr hk; exact hk
 | region id ops dr => intro X X' kr kr' k k' hX hr hk; exact gH HC nt n d (.region id ops dr) _ _ _ _ _ _ hX hr hk
 | seq x y ihx ihy => intro X X' kr kr' k k' hX hr hk; exact ihx _ _ _ _ _ _ hX hr (ihy _ _ _ _ _ _ hX hr hk)
 | cond c x y ihx ihy =>
  intro X X' kr kr' k k' hX hr hk env h h' S
  exact aJj (ihx _ _ _ _ _ _ hX hr hk env h h' S) (ihy _ _ _ _ _ _ hX hr hk env h h' S)
 | block id x ih =>
  intro X X' kr kr' k k' hX hr hk
  refine ih _ _ _ _ _ _ (fun j => ?_) hr hk
  cases hj : Nat.beq j id with
  | true => exact hk
  | false => exact hX j
 | loop x ih =>
  intro X X' kr kr' k k' hX hr hk
  exact qV (fun k k' hk => ih _ _ _ _ _ _ hX hr hk) n d
 | rangeFunc g ps x y ihx ihy =>
  intro X X' kr kr' k k' hX hr hk
  obtain ⟨l⟩ := ps
  match l with
  | [p] => exact aQa HC n d I nt g p x y hX hr hk
  | [] => exact dNi _
  | _ :: _ :: _ => exact dNi _
 | exit id => intro X X' kr kr' k k' hX hr hk; exact hX id
 | ret => intro X X' kr kr' k k' hX hr hk; exact hr
 | _ => intros; exact dNi _
theorem bCr (HC : ∀ g args, SimP gg (bH ⟨P, I2⟩ rec2 g args) (bH ⟨P, I1⟩ rec1 g args)) (n d : Nat) (I : ItC) (f : FuncId) (args : List DV) :
  SimP gg (jM ⟨P, I2⟩ rec2 n I f args) (jM ⟨P, I1⟩ rec1 (n + d) I f args) := by
 intro h h' S
 unfold jM
 dsimp only
 cases P.funcs[f]? with
 | none => exact SimR.none _
 | some fn =>
  dsimp only
  cases fn.body with
  | none => exact SimR.none _
  | some c => exact bCd HC fn.ntmps n d I c _ _ _ _ _ _ (fun _ => dNi _) (pX fn) (pX fn) _ h h' S
end
end Go.Dd

namespace Go.Dd
noncomputable def fnR (C : Cfg) (I : ItC) (q : FuncId → Bool) (n : Nat) : FuncId → List DV → Hp → aH :=
 Nat.rec (motive := fun _ => FuncId → List DV → Hp → aH) (fun _ _ _ => none) (fun m ih f => bif q f then jM C ih m I f else aF C ih m f) n
theorem bNi {C : Cfg} {I : ItC} {q : FuncId → Bool} (hP : POk C.P) (hI : ∀ G g F, C.I g = some F → hZ C.P G g F) (iOk : ItOk C.P I) (hq : ∀ f, q f = true → ∀ fn c, C.P.funcs[f]? = some fn → fn.body = some c → gO c = true) :
  ∀ (n : Nat) (G : Gd) (f : FuncId), hZ C.P G f (fnR C I q n f)
 | 0, G, f => fun args h v h1 hr => by cases hr
 | n + 1, G, f => by
  show hZ C.P G f (bif q f then jM C (fnR C I q n) n I f else aF C (fnR C I q n) n f)
  have K : OkC C (fnR C I q n) := ⟨hI, fun G g => bNi hP hI iOk hq n G g⟩
  cases hf : q f with
  | true => exact bVm K hP iOk n f (hq f hf)
  | false => exact pU K hP n f
theorem aDo {gg : Bool} {P : Program} {I2 I1 : FuncId → Option (List DV → Hp → aH)} {I : ItC} {q : FuncId → Bool} (d : Nat) (h0 : ∀ g, I2 g = none → I1 g = none)
  (hI : ∀ g F, I2 g = some F → ∀ n args, SimP gg (F args) (bH ⟨P, I1⟩ (fnR ⟨P, I1⟩ I q (n + d)) g args)) : ∀ (n : Nat) (f : FuncId) (args : List DV), SimP gg (fnR ⟨P, I2⟩ I q n f args) (fnR ⟨P, I1⟩ I q (n + d) f args)
 | 0, f, args => fun h h' S v k e => by cases e
 | n + 1, f, args => by
  rw [show n + 1 + d = (n + d) + 1 from by omega]
  have HC : ∀ g az, SimP gg (bH ⟨P, I2⟩ (fnR ⟨P, I2⟩ I q n) g az) (bH ⟨P, I1⟩ (fnR ⟨P, I1⟩ I q (n + d)) g az) := fun g az => by
   unfold bH
   dsimp only
   cases hg : I2 g with
   | none =>
    rw [h0 g hg]
    exact aDo d h0 hI n g az
   | some F =>
    have := hI g F hg n az
    unfold bH at this
    exact this
  show SimP gg ((bif q f then jM ⟨P, I2⟩ (fnR ⟨P, I2⟩ I q n) n I f else aF ⟨P, I2⟩ (fnR ⟨P, I2⟩ I q n) n f) args) ((bif q f then jM ⟨P, I1⟩ (fnR ⟨P, I1⟩ I q (n + d)) (n + d) I f else aF ⟨P, I1⟩ (fnR ⟨P, I1⟩ I q (n + d)) (n + d) f) args)
  cases q f with
  | true => exact bCr HC n d I f args
  | false => exact mZ HC n d f args
end Go.Dd

namespace Go.Dd
noncomputable section
def jI (w : Int) : Nat :=
 match w with
 | .ofNat w => bif Nat.beq (Nat.mod w 2) 0 && (Nat.ble 6 w && Nat.ble w 262144) then Nat.div w 2 else 0
 | .negSucc _ => 0
def cV (w : Int) : Bool :=
 match w with
 | .ofNat w => Nat.beq (Nat.mod w 2) 1 && Nat.blt w 2147483648
 | .negSucc w => Nat.beq (Nat.mod w 2) 0 && Nat.blt w 2147483648
def qD (w : Int) : Int :=
 match w with
 | .ofNat w => .ofNat (Nat.div w 2)
 | .negSucc w => .negSucc (Nat.div w 2)
structure MemV where
 wb : Pos
 n : Nat
 fin : Nat
 made : Nat
 pb : Pos
 t : WT
 pl : WT
def mK (m : Pos) (h : Hp) : Option MemV :=
 match h.bl.get m with
 | some (.row .ex [.l wb 0 n c, .i .i64 (.ofNat fin), .i .i64 (.ofNat made), .m pb]) =>
  match h.bl.get wb, h.bl.get pb with
  | some (.big n' t), some (.mi pl) => bif Nat.beq n n' && Nat.beq n c then (bif Nat.blt n 1000000 && (Nat.ble fin n && Nat.blt made 1000000) then some ⟨wb, n, fin, made, pb, t, pl⟩ else none) else none
  | _, _ => none
 | _ => none
def bV (o : Int) (pl : WT) : Nat :=
 bif Nat.beq (jI o) 0 then 0 else match pl.get (jI o) with
  | .ofNat 0 => 0
  | _ => jI o
def eD (w : Int) (pl : WT) : Bool :=
 match w with
 | .ofNat 0 => true
 | .ofNat 2 => true
 | .ofNat 4 => true
 | w => cV w || !(Nat.beq (bV w pl) 0)
def rX (w : Int) (pl : WT) : Bool :=
 match w with
 | .ofNat 0 => true
 | w => !(Nat.beq (bV w pl) 0)
def iU (args : List DV) (h : Hp) (k : MemV → List DV → aH) : aH :=
 match args with
 | .p m 0 :: rest => match mK m h with
  | some M => k M rest
  | none => none
 | _ => none
def err (e : Nat) (h : Hp) : aH := some (.t [.i .i64 (.ofNat 0), .i .i64 (.ofNat e)], h)
def isF (args : List DV) (h : Hp) : aH := iU args h fun M r => match r with
 | [.i .i64 w] => some (.b (!(Nat.beq (bV w M.pl) 0)), h)
 | _ => none
def aRi (args : List DV) (h : Hp) : aH := iU args h fun M r => match r with
 | [.i .i64 w] => some (.b (eD w M.pl), h)
 | _ => none
def aAs (args : List DV) (h : Hp) : aH := iU args h fun M r => match r with
 | [] => some (.i .i64 (.ofNat M.n), h)
 | _ => none
def aYb (args : List DV) (h : Hp) : aH := iU args h fun M r => match r with
 | [] => some (.i .i64 (.ofNat (Nat.sub M.n M.fin)), h)
 | _ => none
def iQ (M : MemV) (o : Int) (k : Nat → aH) : aH :=
 bif Nat.blt (Nat.add (bV o M.pl) 1) M.n then (match M.t.get (bV o M.pl) with
  | .ofNat hd => bif Nat.blt hd 1000000000000 then k hd else none
  | .negSucc _ => none) else none
def jJ (args : List DV) (h : Hp) : aH := iU args h fun M r => match r with
 | [.i .i64 o] => iQ M o fun _ => some (.i .i64 (M.t.get (Nat.add (bV o M.pl) 1)), h)
 | _ => none
def iW (args : List DV) (h : Hp) : aH := iU args h fun M r => match r with
 | [.i .i64 o] => iQ M o fun hd => some (.i .i64 (.ofNat (Nat.mod hd 4)), h)
 | _ => none
def eJ (args : List DV) (h : Hp) : aH := iU args h fun M r => match r with
 | [.i .i64 o] => iQ M o fun hd => some (.i .i64 (.ofNat (Nat.div hd 4)), h)
 | _ => none
def gP (M : MemV) (o i : Int) (bad : Nat → aH) (k : Nat → Nat → aH) : aH :=
 bif Nat.beq (bV o M.pl) 0 then bad 1 else match i with
  | .negSucc _ => bad 5
  | .ofNat i => iQ M o fun hd => bif Nat.ble (Nat.div hd 4) i then bad 5 else
    (bif Nat.blt (Nat.add (Nat.add (bV o M.pl) 3) i) M.n then k hd (Nat.add (Nat.add (bV o M.pl) 3) i) else none)
def qT (args : List DV) (h : Hp) : aH := iU args h fun M r => match r with
 | [.i .i64 o, .i .i64 i] => gP M o i (fun e => err e h) fun _ a => some (.t [.i .i64 (M.t.get a), .i .i64 (.ofNat 0)], h)
 | _ => none
def nF (M : MemV) (a : Nat) (w : Int) (h : Hp) : aH := some (.i .i64 (.ofNat 0), ⟨h.next, Tr.set (.big M.n (M.t.set a w)) M.wb h.bl⟩)
def aAh (args : List DV) (h : Hp) : aH := iU args h fun M r => match r with
 | [.i .i64 o, .i .i64 i, .i .i64 w] => gP M o i (fun e => some (.i .i64 (.ofNat e), h)) fun hd a =>
   match Nat.mod hd 4 with
   | 0 => bif eD w M.pl then nF M a w h else some (.i .i64 (.ofNat 6), h)
   | 2 => (match w with
    | .ofNat c => bif Nat.ble c 255 then nF M a w h else some (.i .i64 (.ofNat 6), h)
    | .negSucc _ => some (.i .i64 (.ofNat 6), h))
   | _ => nF M a w h
 | _ => none
def lE (args : List DV) (h : Hp) : aH := iU args h fun M r => match r with
 | [.i .i64 o, .i .i64 c] => bif Nat.beq (bV o M.pl) 0 || !(rX c M.pl) then some (.i .i64 (.ofNat 1), h) else
   (bif Nat.blt (Nat.add (bV o M.pl) 1) M.n then nF M (Nat.add (bV o M.pl) 1) c h else none)
 | _ => none
def mS (t : WT) (c : Nat) : Nat → WT :=
 Nat.rec (motive := fun _ => Nat → WT) (fun _ => t) (fun _ ih a => (ih (Nat.add a 1)).set a (.ofNat 0)) c
def oD (args : List DV) (h : Hp) : aH :=
 match args with
 | [.p m 0, .i .i64 cls, .i .i64 fmt, .i .i64 cnt] => match mK m h with
  | none => none
  | some M => bif !(rX cls M.pl) then err 1 h else match fmt, cnt with
   | .ofNat f, .ofNat c => bif Nat.ble f 2 && Nat.ble c 256 then
     (bif Nat.blt (Nat.sub M.n M.fin) (Nat.add c 3) then err 4 h else
      (bif Nat.ble 3 M.fin && Nat.ble M.fin 131072 then
       some (.t [.i .i64 (.ofNat (Nat.mul M.fin 2)), .i .i64 (.ofNat 0)],
        ⟨h.next, Tr.set (.row .ex [.l M.wb 0 M.n M.n, .i .i64 (.ofNat (Nat.add M.fin (Nat.add c 3))), .i .i64 (.ofNat (Nat.succ M.made)), .m M.pb]) m
         (Tr.set (.mi (M.pl.set M.fin (.ofNat 1))) M.pb
          (Tr.set (.big M.n (mS (((M.t.set M.fin (.ofNat (Nat.add (Nat.mul c 4) f))).set (Nat.add M.fin 1) cls).set (Nat.add M.fin 2) (.ofNat (Nat.succ M.made))) c (Nat.add M.fin 3))) M.wb h.bl))⟩)
       else none))
     else err 1 h
   | _, _ => err 1 h
 | _ => none
def aQj (args : List DV) (h : Hp) : aH :=
 match args with
 | [.i .i64 (.ofNat n)] => bif Nat.blt n 16 || Nat.blt 131072 n then some (.p0, h) else
   some (.p (cF 2 h.next) 0, ⟨cF 3 h.next, Tr.set (.row .ex [.l h.next 0 n n, .i .i64 (.ofNat 3), .i .i64 (.ofNat 0), .m (cF 1 h.next)]) (cF 2 h.next)
    (Tr.set (.mi .e) (cF 1 h.next) (Tr.set (.big n .e) h.next h.bl))⟩)
 | [.i .i64 (.negSucc _)] => some (.p0, h)
 | _ => none
def eO (args : List DV) (h : Hp) : aH :=
 match args with
 | [.i .i64 w] => some (.b (cV w), h)
 | _ => none
def kI (args : List DV) (h : Hp) : aH :=
 match args with
 | [.i .i64 w] => bif cV w then some (.i .i64 (qD w), h) else some (.i .i64 (.ofNat 0), h)
 | _ => none
def iI (args : List DV) (h : Hp) : aH :=
 match args with
 | [.i .i64 (.ofNat n)] => bif Nat.blt n 1073741824 then some (.t [.i .i64 (.ofNat (Nat.succ (Nat.mul n 2))), .b true], h) else some (.t [.i .i64 (.ofNat 0), .b false], h)
 | [.i .i64 (.negSucc n)] => bif Nat.blt n 1073741824 then some (.t [.i .i64 (.negSucc (Nat.mul n 2)), .b true], h) else some (.t [.i .i64 (.ofNat 0), .b false], h)
 | _ => none
def aAi (g : Nat) : Option (List DV → Hp → aH) :=
 bif Nat.beq g 18 then some aRi else bif Nat.beq g 46 then some isF else bif Nat.beq g 94 then some aAs else bif Nat.beq g 75 then some aYb else
 bif Nat.beq g 31 then some oD else bif Nat.beq g 30 then some aQj else bif Nat.beq g 35 then some lE else bif Nat.beq g 38 then some aAh else
 bif Nat.beq g 104 then some jJ else bif Nat.beq g 90 then some iW else bif Nat.beq g 73 then some eJ else bif Nat.beq g 45 then some eO else
 bif Nat.beq g 88 then some iI else bif Nat.beq g 122 then some kI else bif Nat.beq g 52 then some qT else none
end
end Go.Dd

namespace Go.Dd
open Go.Proofs
def cf (f : Func) : Code := match f.body with
 | some c => c
 | none => .skip
def cL : Code → Code
 | .seq a _ => a
 | .cond _ a _ => a
 | .block _ a => a
 | .loop a => a
 | .scope a => a
 | c => c
def cR : Code → Code
 | .seq _ b => b
 | .cond _ _ b => b
 | c => c
def cC : Code → Operand
 | .cond c _ _ => c
 | _ => .const .nilFunc
def x0 : Nat → K := fun _ => cQ
def xs (X : Nat → K) (i : Nat) (k : K) : Nat → K := fun j => bif Nat.beq j i then k else X j
def aJt (c : Nat) : List Nat → Nat → Int
 | [], _ => .negSucc 0
 | x :: l, i => bif Nat.beq x c then .ofNat i else aJt c l (i + 1)
def mU (args : List DV) (h : Hp) : aH :=
 match args with
 | [.s l, .i .u8 (.ofNat c)] => bif Nat.blt c 256 then some (.i .i64 (aJt c l 0), h) else none
 | _ => none
noncomputable def CF0 : Cfg := ⟨Tryz.prog, fun _ => none⟩
noncomputable def mV (p : Pos) : Pos → Bool := Pos.rec (motive := fun _ => Pos → Bool) (fun q => Pos.rec (motive := fun _ => Bool) true (fun _ _ => false) (fun _ _ => false) q)
 (fun _ ih q => Pos.rec (motive := fun _ => Bool) false (fun q _ => ih q) (fun _ _ => false) q) (fun _ ih q => Pos.rec (motive := fun _ => Bool) false (fun _ _ => false) (fun q _ => ih q) q) p
noncomputable def kB (q : Pos) (l1 : DV) (cs : List DV) (h : Hp) : aH :=
 match l1 with
 | .l0 => some (.l h.next 0 1 1, ⟨h.next.succ, Tr.set (.row (.gr 4) cs) h.next h.bl⟩)
 | .l b o len cap => cnd (Nat.ble cap len && !(mV b q)) (match h.bl.get b, cellsAt b o (len * 4) h with
  | some (.row (.gr es) l), some old => if es = 4 ∧ o + cap * 4 = l.length ∧ (len + 1) * 56 ≤ kM then
    some (.l h.next 0 (len + 1) (len + 1), ⟨h.next.succ, Tr.set (.row (.gr 4) (old ++ cs)) h.next (Tr.set (.row .sp (bR o l)) b h.bl)⟩) else none
  | _, _ => none)
 | _ => none
noncomputable def sL (c q : Pos) (h : Hp) : aH :=
 bnd (aA (.p c 4) h) fun l1 _ =>
 bnd (cB l1 h) fun n _ =>
 bnd (aK 4 (.p q 0) h) fun x _ =>
 match x with
 | .a cs => cnd (!(mV c q)) (
  bnd (kB q l1 cs ⟨h.next.succ.succ, h.bl⟩) fun l2 h3 =>
  bnd (aI 1 (.p c 4) l2 h3) fun _ h4 => some (n, h4))
 | _ => none
noncomputable def mQ (args : List DV) (h : Hp) : aH :=
 match args with
 | [.p c 0, .a lit] =>
  bnd (bY lit h) fun _ h1 =>
  bnd (aA (.p c 4) h1) fun ls h2 =>
  bnd (fnD CF0 60 163 [ls, .f 240 [] [.p h.next 0]] h2) fun i h3 =>
  bnd (aD .lss i (.i .i64 (Int.ofNat 0)) h3) fun t h4 =>
  aX t (sL c h.next h4) (some (i, h4))
 | _ => none
noncomputable def CF1 : Cfg := ⟨Tryz.prog, fun g => bif Nat.beq g 229 then some mU else bif Nat.beq g 214 then some mQ else none⟩
noncomputable def CF : Cfg := ⟨Tryz.prog, fun g => bif Nat.beq g 229 then some mU else bif Nat.beq g 214 then some mQ else aAi g⟩
def fM : Code → Array Oper
 | .region _ ops _ => ops
 | _ => #[]
noncomputable def itL : Code := cL (cL (cR (cf Tryz.f162)))
noncomputable def itB : Code := cL (cL (cR itL))
def dGf : List Oper → Nat → Oper
 | [], _ => ⟨none, .move (.const .nilFunc), 0, "", #[], none⟩
 | o :: _, 0 => o
 | _ :: l, n + 1 => dGf l n
noncomputable def itm : ItC := { gf := 162, nt := 31, pre := cL (cf Tryz.f162), b0 := 0, test := cL itL, b1 := 1, rid := 3, front := (fM (cL (cL itB))).toList.take 4, y := dGf (fM (cL (cL itB))).toList 4, back := (fM (cL (cL itB))).toList.drop 5, after := cR (cL itB), post := cR itB, step := cR (cR itL), yd := 26, yt := 22, yx := 25 }
def zJ (g : FuncId) : Bool := Nat.beq g 95 || Nat.beq g 287
noncomputable abbrev fG (C : Cfg) (n : Nat) : FuncId → List DV → Hp → aH := fnR C itm zJ n
theorem cJ (f : FuncId) (hf : zJ f = false) (C : Cfg) (n : Nat) (args : List DV) (h : Hp) : fG C (n + 1) f args h = aF C (fG C n) n f args h := by
 show (bif zJ f then jM C (fG C n) n itm f else aF C (fG C n) n f) args h = _
 rw [hf]
 rfl
theorem dAh (f : FuncId) (hf : zJ f = true) (C : Cfg) (n : Nat) (args : List DV) (h : Hp) : fG C (n + 1) f args h = jM C (fG C n) n itm f args h := by
 show (bif zJ f then jM C (fG C n) n itm f else aF C (fG C n) n f) args h = _
 rw [hf]
 rfl
abbrev RT := FuncId → List DV → Hp → aH
abbrev TT0 := Hp → aH
abbrev TT1 := DV → Hp → aH
abbrev tS := DV → DV → Hp → aH
abbrev jF := DV → DV → DV → Hp → aH
abbrev bZ := DV → DV → DV → DV → Hp → aH
abbrev bT := DV → DV → DV → DV → DV → Hp → aH
abbrev iL := DV → DV → DV → DV → DV → DV → Hp → aH
abbrev TT7 := DV → DV → DV → DV → DV → DV → DV → Hp → aH
abbrev TT8 := DV → DV → DV → DV → DV → DV → DV → DV → Hp → aH
abbrev TT9 := DV → DV → DV → DV → DV → DV → DV → DV → DV → Hp → aH
abbrev aSg := DV → DV → DV → DV → DV → DV → DV → DV → DV → DV → Hp → aH
abbrev dAm := DV → DV → DV → DV → DV → DV → DV → DV → DV → DV → DV → Hp → aH
abbrev dLr := DV → DV → DV → DV → DV → DV → DV → DV → DV → DV → DV → DV → Hp → aH
abbrev dKo := DV → DV → DV → DV → DV → DV → DV → DV → DV → DV → DV → DV → DV → Hp → aH
abbrev dLx := DV → DV → DV → DV → DV → DV → DV → DV → DV → DV → DV → DV → DV → DV → Hp → aH
abbrev dKn := DV → DV → DV → DV → DV → DV → DV → DV → DV → DV → DV → DV → DV → DV → DV → Hp → aH
abbrev dLh := DV → DV → DV → DV → DV → DV → DV → DV → DV → DV → DV → DV → DV → DV → DV → DV → Hp → aH
abbrev dMj := DV → DV → DV → DV → DV → DV → DV → DV → DV → DV → DV → DV → DV → DV → DV → DV → DV → Hp → aH
abbrev dMy := DV → DV → DV → DV → DV → DV → DV → DV → DV → DV → DV → DV → DV → DV → DV → DV → DV → DV → Hp → aH
abbrev dKr := DV → DV → DV → DV → DV → DV → DV → DV → DV → DV → DV → DV → DV → DV → DV → DV → DV → DV → DV → Hp → aH
abbrev dIb := DV → DV → DV → DV → DV → DV → DV → DV → DV → DV → DV → DV → DV → DV → DV → DV → DV → DV → DV → DV → Hp → aH
abbrev K0 (f : TT0) : K := fun env h => f h
abbrev K1 (f : TT1) (a0 : Nat) : K := fun env h => f (env a0) h
abbrev K2 (f : tS) (a0 a1 : Nat) : K := fun env h => f (env a0) (env a1) h
abbrev K3 (f : jF) (a0 a1 a2 : Nat) : K := fun env h => f (env a0) (env a1) (env a2) h
abbrev K4 (f : bZ) (a0 a1 a2 a3 : Nat) : K := fun env h => f (env a0) (env a1) (env a2) (env a3) h
abbrev K5 (f : bT) (a0 a1 a2 a3 a4 : Nat) : K := fun env h => f (env a0) (env a1) (env a2) (env a3) (env a4) h
abbrev K6 (f : iL) (a0 a1 a2 a3 a4 a5 : Nat) : K := fun env h => f (env a0) (env a1) (env a2) (env a3) (env a4) (env a5) h
abbrev K7 (f : TT7) (a0 a1 a2 a3 a4 a5 a6 : Nat) : K := fun env h => f (env a0) (env a1) (env a2) (env a3) (env a4) (env a5) (env a6) h
abbrev K8 (f : TT8) (a0 a1 a2 a3 a4 a5 a6 a7 : Nat) : K := fun env h => f (env a0) (env a1) (env a2) (env a3) (env a4) (env a5) (env a6) (env a7) h
abbrev K9 (f : TT9) (a0 a1 a2 a3 a4 a5 a6 a7 a8 : Nat) : K := fun env h => f (env a0) (env a1) (env a2) (env a3) (env a4) (env a5) (env a6) (env a7) (env a8) h
abbrev K10 (f : aSg) (a0 a1 a2 a3 a4 a5 a6 a7 a8 a9 : Nat) : K := fun env h => f (env a0) (env a1) (env a2) (env a3) (env a4) (env a5) (env a6) (env a7) (env a8) (env a9) h
abbrev K11 (f : dAm) (a0 a1 a2 a3 a4 a5 a6 a7 a8 a9 a10 : Nat) : K := fun env h => f (env a0) (env a1) (env a2) (env a3) (env a4) (env a5) (env a6) (env a7) (env a8) (env a9) (env a10) h
abbrev K12 (f : dLr) (a0 a1 a2 a3 a4 a5 a6 a7 a8 a9 a10 a11 : Nat) : K := fun env h => f (env a0) (env a1) (env a2) (env a3) (env a4) (env a5) (env a6) (env a7) (env a8) (env a9) (env a10) (env a11) h
abbrev K13 (f : dKo) (a0 a1 a2 a3 a4 a5 a6 a7 a8 a9 a10 a11 a12 : Nat) : K := fun env h => f (env a0) (env a1) (env a2) (env a3) (env a4) (env a5) (env a6) (env a7) (env a8) (env a9) (env a10) (env a11) (env a12) h
abbrev K14 (f : dLx) (a0 a1 a2 a3 a4 a5 a6 a7 a8 a9 a10 a11 a12 a13 : Nat) : K := fun env h => f (env a0) (env a1) (env a2) (env a3) (env a4) (env a5) (env a6) (env a7) (env a8) (env a9) (env a10) (env a11) (env a12) (env a13) h
abbrev K15 (f : dKn) (a0 a1 a2 a3 a4 a5 a6 a7 a8 a9 a10 a11 a12 a13 a14 : Nat) : K := fun env h => f (env a0) (env a1) (env a2) (env a3) (env a4) (env a5) (env a6) (env a7) (env a8) (env a9) (env a10) (env a11) (env a12) (env a13) (env a14) h
abbrev K16 (f : dLh) (a0 a1 a2 a3 a4 a5 a6 a7 a8 a9 a10 a11 a12 a13 a14 a15 : Nat) : K := fun env h => f (env a0) (env a1) (env a2) (env a3) (env a4) (env a5) (env a6) (env a7) (env a8) (env a9) (env a10) (env a11) (env a12) (env a13) (env a14) (env a15) h
abbrev K17 (f : dMj) (a0 a1 a2 a3 a4 a5 a6 a7 a8 a9 a10 a11 a12 a13 a14 a15 a16 : Nat) : K := fun env h => f (env a0) (env a1) (env a2) (env a3) (env a4) (env a5) (env a6) (env a7) (env a8) (env a9) (env a10) (env a11) (env a12) (env a13) (env a14) (env a15) (env a16) h
abbrev K18 (f : dMy) (a0 a1 a2 a3 a4 a5 a6 a7 a8 a9 a10 a11 a12 a13 a14 a15 a16 a17 : Nat) : K := fun env h => f (env a0) (env a1) (env a2) (env a3) (env a4) (env a5) (env a6) (env a7) (env a8) (env a9) (env a10) (env a11) (env a12) (env a13) (env a14) (env a15) (env a16) (env a17) h
abbrev K19 (f : dKr) (a0 a1 a2 a3 a4 a5 a6 a7 a8 a9 a10 a11 a12 a13 a14 a15 a16 a17 a18 : Nat) : K := fun env h => f (env a0) (env a1) (env a2) (env a3) (env a4) (env a5) (env a6) (env a7) (env a8) (env a9) (env a10) (env a11) (env a12) (env a13) (env a14) (env a15) (env a16) (env a17) (env a18) h
abbrev K20 (f : dIb) (a0 a1 a2 a3 a4 a5 a6 a7 a8 a9 a10 a11 a12 a13 a14 a15 a16 a17 a18 a19 : Nat) : K := fun env h => f (env a0) (env a1) (env a2) (env a3) (env a4) (env a5) (env a6) (env a7) (env a8) (env a9) (env a10) (env a11) (env a12) (env a13) (env a14) (env a15) (env a16) (env a17) (env a18) (env a19) h
theorem okG {d s : K} (m : d = s) (args : List DV) (h : Hp) {a b : aH} (e1 : a = d (aJ args) h) (e2 : s (aJ args) h = b) : a = b :=
 e1.trans ((congrFun (congrFun m (aJ args)) h).trans e2)
abbrev aG (n : Nat) : DV := .i .i64 (Int.ofNat n)
abbrev tR : List DV := [(.i .i64 (Int.ofNat 0)), (.s []), (.i .i64 (Int.ofNat 0)), .l0, .l0, .l0]
abbrev aW (args : List DV) (i : Nat) : DV := args.getD i aU
end Go.Dd

namespace Go.Dd
open Go.Proofs
variable (r : RT) (n : Nat) (args : List DV) (h : Hp)
noncomputable def jH (r : RT) (n : Nat) (x5 : DV) (h0 : Hp) : aH :=
 some (.t [x5, (aG 0)], h0)
noncomputable def mR (r : RT) (n : Nat) (kk9 : bZ) (x5 x155 x156 x157 : DV) (h0 : Hp) : aH :=
 bnd (aD .lss x157 x156 h0) fun v1 h1 =>
 aX v1 (
 bnd (aE 1 x155 x157 h1) fun v2 h2 =>
 bnd (aA v2 h2) fun v3 h3 =>
 bnd (aE 1 v3 (aG 0) h3) fun v4 h4 =>
 bnd (aA v4 h4) fun v5 h5 =>
 bnd (aE 1 v3 (aG 1) h5) fun v6 h6 =>
 bnd (aA v6 h6) fun v7 h7 =>
 bnd (r 41 [x5, v5, v7] h7) fun v8 h8 =>
 bnd (aC 0 v8 h8) fun v9 h9 =>
 bnd (aC 1 v8 h9) fun v10 h10 =>
 bnd (aC 2 v8 h10) fun v11 h11 =>
 bnd (aC 3 v8 h11) fun v12 h12 =>
 bnd (aD .neq v12 (aG 0) h12) fun v13 h13 =>
 aX v13 (
 some (.t [.p0, v12], h13)) (
 bnd (aD .add x157 (aG 1) h13) fun v14 h14 =>
    kk9 x5 x155 x156 v14 h14)) (
      jH r n x5 h1)
noncomputable def mT (r : RT) (n : Nat) (m : Nat) : bZ :=
 Nat.rec (motive := fun _ => bZ) (fun _ _ _ _ _ => none) (fun _ ih => mR r n ih) m
noncomputable def bQe (r : RT) (n : Nat) : bZ := mT r n n
noncomputable def cZm (r : RT) (n : Nat) (x5 x155 x156 x157 : DV) (h0 : Hp) : aH :=
 bQe r n x5 x155 x156 x157 h0
noncomputable def cD (r : RT) (n : Nat) (x5 : DV) (h0 : Hp) : aH :=
 bnd (r 40 [] h0) fun v1 h1 =>
 bnd (cB v1 h1) fun v2 h2 =>
  cZm r n x5 v1 v2 (aG 0) h2
noncomputable def bJ (r : RT) (n : Nat) (kk11 : bT) (x4 x5 x59 x60 x61 : DV) (h0 : Hp) : aH :=
 bnd (aD .add x61 (aG 1) h0) fun v1 h1 =>
  kk11 x4 x5 x59 x60 v1 h1
noncomputable def iF (r : RT) (n : Nat) (kk11 : bT) (x4 x5 x8 x9 x59 x60 x61 : DV) (h0 : Hp) : aH :=
 bnd (aZ x5 h0) fun v1 h1 =>
 bnd (aB 1 v1 h1) fun v2 h2 =>
 bnd (aA v2 h2) fun v3 h3 =>
 bnd (aZ x5 h3) fun v4 h4 =>
 bnd (aB 1 v4 h4) fun v5 h5 =>
 bnd (aA v5 h5) fun v6 h6 =>
 bnd (aE 1 v6 (aG 1) h6) fun v7 h7 =>
 bnd (aA v7 h7) fun v8 h8 =>
 bnd (r 39 [x5, x9, v8] h8) fun v9 h9 =>
 cnd (bM (aA v2 h9) v3 && true) (
 bnd (aC 0 v9 h9) fun v10 h10 =>
 bnd (aC 1 v9 h10) fun v11 h11 =>
 bnd (aE 1 v3 (aG 1) h11) fun v12 h12 =>
 bnd (aI 1 v12 v10 h12) fun v13 h13 =>
 bnd (aZ x5 h13) fun v14 h14 =>
 bnd (aB 3 v14 h14) fun v15 h15 =>
 bnd (aA v15 h15) fun v16 h16 =>
 bnd (aB 0 x8 h16) fun v17 h17 =>
 bnd (aA v17 h17) fun v18 h18 =>
 bnd (gL .string v16 v18 x9 h18) fun v19 h19 =>
  bJ r n kk11 x4 x5 x59 x60 x61 h19)
noncomputable def bHm (r : RT) (n : Nat) (kk11 : bT) (kk25 : aSg) (x4 x5 x8 x9 x59 x60 x61 x117 x118 x119 : DV) (h0 : Hp) : aH :=
 bnd (aD .lss x119 x118 h0) fun v1 h1 =>
 aX v1 (
 bnd (aE 1 x117 x119 h1) fun v2 h2 =>
 bnd (aA v2 h2) fun v3 h3 =>
 bnd (aAh [x4, x9, x119, v3] h3) fun v4 h4 =>
 bnd (aD .add x119 (aG 1) h4) fun v5 h5 =>
      kk25 x4 x5 x8 x9 x59 x60 x61 x117 x118 v5 h5) (
      iF r n kk11 x4 x5 x8 x9 x59 x60 x61 h1)
noncomputable def aHh (r : RT) (n : Nat) (kk11 : bT) (m : Nat) : aSg :=
 Nat.rec (motive := fun _ => aSg) (fun _ _ _ _ _ _ _ _ _ _ _ => none) (fun _ ih => bHm r n kk11 ih) m
noncomputable def cOr (r : RT) (n : Nat) (kk11 : bT) : aSg := aHh r n kk11 n
noncomputable def aLc (r : RT) (n : Nat) (kk11 : bT) (x4 x5 x8 x9 x59 x60 x61 x117 x118 x119 : DV) (h0 : Hp) : aH :=
 cOr r n kk11 x4 x5 x8 x9 x59 x60 x61 x117 x118 x119 h0
noncomputable def aXc (r : RT) (n : Nat) (kk11 : bT) (x4 x5 x8 x9 x10 x12 x13 x19 x59 x60 x61 : DV) (h0 : Hp) : aH :=
 bnd (r 37 [x13] (resv 1 h0)) fun v1 h1 =>
 bnd (aB 2 x8 h1) fun v2 h2 =>
 bnd (aA v2 h2) fun v3 h3 =>
 cnd (bM (aA v2 (resv 1 h0)) v3 && true) (
 bnd (r 37 [v3] h3) fun v4 h4 =>
 bnd (bL (cF 0 h0.next) [(aG 0), (aG 0), (aG 0), (aG 0), (aG 0), (aG 0)] 6 [(0, 1, x10), (1, 1, x12), (2, 1, v1), (3, 1, x19), (4, 1, (aG 0)), (5, 1, v4)] h4) fun v5 h5 =>
 bnd (cB v5 h5) fun v6 h6 =>
  aLc r n kk11 x4 x5 x8 x9 x59 x60 x61 v5 v6 (aG 0) h6)
noncomputable def yA (r : RT) (n : Nat) (kk11 : bT) (x4 x5 x8 x9 x10 x12 x13 x14 x59 x60 x61 : DV) (h0 : Hp) : aH :=
 bnd (r 36 [x5, x14] h0) fun v1 h1 =>
 bnd (aC 0 v1 h1) fun v2 h2 =>
 bnd (aC 1 v1 h2) fun v3 h3 =>
  aXc r n kk11 x4 x5 x8 x9 x10 x12 x13 v2 x59 x60 x61 h3
noncomputable def aLr (r : RT) (n : Nat) (kk11 : bT) (x4 x5 x7 x8 x9 x10 x12 x13 x14 x59 x60 x61 : DV) (h0 : Hp) : aH :=
 bnd (aD .eql x7 (aG 15) h0) fun v1 h1 =>
 aX v1 (
 bnd (r 10 [x5, (.s [115, 101, 108, 101, 99, 116, 111, 114])] h1) fun v2 h2 =>
 bnd (aC 0 v2 h2) fun v3 h3 =>
 bnd (aC 1 v2 h3) fun v4 h4 =>
 bnd (r 10 [x5, (.s [97, 114, 103, 117, 109, 101, 110, 116, 115])] h4) fun v5 h5 =>
 bnd (aC 0 v5 h5) fun v6 h6 =>
 bnd (aC 1 v5 h6) fun v7 h7 =>
 bnd (aN [(aG 0), (aG 0)] 2 [(0, 1, v3), (1, 1, v6)] h7) fun v8 h8 =>
  yA r n kk11 x4 x5 x8 x9 x10 x12 (aG 2) v8 x59 x60 x61 h8) (
  yA r n kk11 x4 x5 x8 x9 x10 x12 x13 x14 x59 x60 x61 h1)
noncomputable def bWz (r : RT) (n : Nat) (kk11 : bT) (x4 x5 x7 x8 x9 x10 x12 x13 x14 x59 x60 x61 : DV) (h0 : Hp) : aH :=
 bnd (aB 1 x8 h0) fun v1 h1 =>
 bnd (aA v1 h1) fun v2 h2 =>
 bnd (aD .geq v2 (aG 0) h2) fun v3 h3 =>
 aX v3 (
 bnd (aB 1 x8 h3) fun v4 h4 =>
 bnd (aA v4 h4) fun v5 h5 =>
 bnd (r 34 [x5, v5] h5) fun v6 h6 =>
  aLr r n kk11 x4 x5 x7 x8 x9 x10 v6 x13 x14 x59 x60 x61 h6) (
  aLr r n kk11 x4 x5 x7 x8 x9 x10 x12 x13 x14 x59 x60 x61 h3)
noncomputable def bUh (r : RT) (n : Nat) (kk11 : bT) (x4 x5 x7 x8 x9 x10 x59 x60 x61 : DV) (h0 : Hp) : aH :=
 bWz r n kk11 x4 x5 x7 x8 x9 x10 (aG 0) (aG 0) .l0 x59 x60 x61 h0
noncomputable def bWg (r : RT) (n : Nat) (kk11 : bT) (x4 x5 x7 x8 x9 x59 x60 x61 : DV) (h0 : Hp) : aH :=
 bnd (aB 0 x8 h0) fun v1 h1 =>
 bnd (aA v1 h1) fun v2 h2 =>
 bnd (r 10 [x5, v2] h2) fun v3 h3 =>
 bnd (aC 0 v3 h3) fun v4 h4 =>
 bnd (aC 1 v3 h4) fun v5 h5 =>
  bUh r n kk11 x4 x5 x7 x8 x9 v4 x59 x60 x61 h5
noncomputable def bRo (r : RT) (n : Nat) (kk11 : bT) (x4 x5 x7 x8 x9 x59 x60 x61 : DV) (h0 : Hp) : aH :=
 bnd (r 34 [x5, (aG 1)] h0) fun v1 h1 =>
 bnd (lE [x4, x9, v1] h1) fun v2 h2 =>
  bWg r n kk11 x4 x5 x7 x8 x9 x59 x60 x61 h2
noncomputable def aLq (r : RT) (n : Nat) (kk11 : bT) (x4 x5 x7 x8 x59 x60 x61 : DV) (h0 : Hp) : aH :=
 bnd (r 34 [x5, x7] h0) fun v1 h1 =>
  bRo r n kk11 x4 x5 x7 x8 v1 x59 x60 x61 h1
noncomputable def aVa (r : RT) (n : Nat) (kk11 : bT) (x4 x5 x59 x60 x61 : DV) (h0 : Hp) : aH :=
 bnd (aE 3 x59 x61 h0) fun v1 h1 =>
 bnd (aK 3 v1 h1) fun v2 h2 =>
 bnd (bY [(.s []), (aG 0), (aG 0)] h2) fun v3 h3 =>
 bnd (aI 3 v3 v2 h3) fun _ h4 =>
  aLq r n kk11 x4 x5 x61 v3 x59 x60 x61 h4
noncomputable def bTa (r : RT) (n : Nat) (kk11 : bT) (x4 x5 x59 x60 x61 x62 : DV) (h0 : Hp) : aH :=
 aX x62 (
  aVa r n kk11 x4 x5 x59 x60 x61 h0) (
  cD r n x5 h0)
noncomputable def bJe (r : RT) (n : Nat) (kk11 : bT) (x4 x5 x59 x60 x61 : DV) (h0 : Hp) : aH :=
 bnd (aD .lss x61 x60 h0) fun v1 h1 =>
  bTa r n kk11 x4 x5 x59 x60 x61 v1 h1
noncomputable def aIi (r : RT) (n : Nat) (m : Nat) : bT :=
 Nat.rec (motive := fun _ => bT) (fun _ _ _ _ _ _ => none) (fun _ ih => bJe r n ih) m
noncomputable def cOw (r : RT) (n : Nat) : bT := aIi r n n
noncomputable def bGk (r : RT) (n : Nat) (x4 x5 x59 x60 x61 : DV) (h0 : Hp) : aH :=
 cOw r n x4 x5 x59 x60 x61 h0
noncomputable def mC (r : RT) (n : Nat) (x4 x5 : DV) (h0 : Hp) : aH :=
 bnd (r 33 [] h0) fun v1 h1 =>
 bnd (cB v1 h1) fun v2 h2 =>
  bGk r n x4 x5 v1 v2 (aG 0) h2
noncomputable def bVe (r : RT) (n : Nat) (kk27 : jF) (x4 x5 x43 : DV) (h0 : Hp) : aH :=
 bnd (aD .lss x43 (aG 16) h0) fun v1 h1 =>
 aX v1 (
 bnd (aZ x5 h1) fun v2 h2 =>
 bnd (aB 1 v2 h2) fun v3 h3 =>
 bnd (aA v3 h3) fun v4 h4 =>
 bnd (aD .add (aG 2) x43 h4) fun v5 h5 =>
 bnd (oD [x4, (aG 0), (aG 0), (aG 6)] h5) fun v6 h6 =>
 cnd (bM (aA v3 h6) v4 && true) (
 bnd (aC 0 v6 h6) fun v7 h7 =>
 bnd (aC 1 v6 h7) fun v8 h8 =>
 bnd (aE 1 v4 v5 h8) fun v9 h9 =>
 bnd (aI 1 v9 v7 h9) fun v10 h10 =>
 bnd (aD .add x43 (aG 1) h10) fun v11 h11 =>
      kk27 x4 x5 v11 h11)) (
      mC r n x4 x5 h1)
noncomputable def aDr (r : RT) (n : Nat) (m : Nat) : jF :=
 Nat.rec (motive := fun _ => jF) (fun _ _ _ _ => none) (fun _ ih => bVe r n ih) m
noncomputable def cNj (r : RT) (n : Nat) : jF := aDr r n n
noncomputable def bGu (r : RT) (n : Nat) (x4 x5 x43 : DV) (h0 : Hp) : aH :=
 cNj r n x4 x5 x43 h0
noncomputable def bIy (r : RT) (n : Nat) (x4 x5 : DV) (h0 : Hp) : aH :=
 bGu r n x4 x5 (aG 0) h0
noncomputable def bZp (r : RT) (n : Nat) (x4 : DV) (h0 : Hp) : aH :=
 bnd (cP 1 8 [(aG 0)] (aG 18) (aG 18) h0) fun v1 h1 =>
 bnd (dY h1) fun v2 h2 =>
 bnd (dY h2) fun v3 h3 =>
 bnd (bE [.p0, .l0, .m0, .m0] [(0, 1, x4), (1, 1, v1), (2, 1, v2), (3, 1, v3)] h3) fun v4 h4 =>
 bnd (bU v4 h4) fun v5 h5 =>
  bIy r n x4 v5 h5
noncomputable def cXl (r : RT) (n : Nat) (x0 x4 : DV) (h0 : Hp) : aH :=
 bnd (pEq (.pointer 135) true x4 .p0 h0) fun v1 h1 =>
 aX v1 (
 some (.t [.p0, (aG 1)], h1)) (
 bnd (aD .lss x0 (aG 16384) h1) fun v2 h2 =>
 aX v2 (
 some (.t [.p0, (aG 4)], h2)) (
   bZp r n x4 h2))
noncomputable def cPf (r : RT) (n : Nat) (x0 : DV) (h0 : Hp) : aH :=
 bnd (aQj [x0] h0) fun v1 h1 =>
  cXl r n x0 v1 h1
noncomputable def s7 (r : RT) (n : Nat) (x0 : DV) (h0 : Hp) : aH :=
 cPf r n x0 h0
noncomputable abbrev c7 : Code := cf Tryz.f7
noncomputable abbrev cEb : Code := cR c7
noncomputable abbrev cKb : Code := cR cEb
noncomputable abbrev cJp : Code := cR cKb
noncomputable abbrev bYn : Code := cR cJp
noncomputable abbrev cIb : Code := cR bYn
noncomputable abbrev cIh : Code := cR cIb
noncomputable abbrev dKz : Code := cR cIh
noncomputable abbrev bVx : Code := cL cIh
noncomputable abbrev cQs : Code := cR bVx
noncomputable abbrev bAm : Code := cL cQs
noncomputable abbrev zB : Code := cL bAm
noncomputable abbrev cNd : Code := cL bVx
noncomputable abbrev aMp : Code := cL cIb
noncomputable abbrev bPp : Code := cR aMp
noncomputable abbrev aZb : Code := cL bPp
noncomputable abbrev oE : Code := cL aZb
noncomputable abbrev bAc : Code := cR oE
noncomputable abbrev aXb : Code := cR bAc
noncomputable abbrev dCy : Code := cR aXb
noncomputable abbrev aTo : Code := cL aXb
noncomputable abbrev aZn : Code := cL aTo
noncomputable abbrev aYx : Code := cR aZn
noncomputable abbrev aXf : Code := cR aYx
noncomputable abbrev bAk : Code := cR aXf
noncomputable abbrev aZu : Code := cR bAk
noncomputable abbrev aVq : Code := cR aZu
noncomputable abbrev bAu : Code := cR aVq
noncomputable abbrev bAs : Code := cR bAu
noncomputable abbrev aWj : Code := cR bAs
noncomputable abbrev dCo : Code := cR aWj
noncomputable abbrev aKy : Code := cL aWj
noncomputable abbrev bHo : Code := cR aKy
noncomputable abbrev aZd : Code := cL bHo
noncomputable abbrev zL : Code := cL aZd
noncomputable abbrev bMs : Code := cL aKy
noncomputable abbrev cOe : Code := cL bAs
noncomputable abbrev bWa : Code := cL bAu
noncomputable abbrev cNb : Code := cL aVq
noncomputable abbrev cMv : Code := cL aZu
noncomputable abbrev cMq : Code := cL bAk
noncomputable abbrev cNa : Code := cL aXf
noncomputable abbrev cNl : Code := cL aYx
noncomputable abbrev bLe : Code := cL aZn
noncomputable abbrev cNn : Code := cL bAc
noncomputable abbrev cMs : Code := cL oE
noncomputable abbrev cNg : Code := cL aMp
noncomputable abbrev aMx : Code := cL bYn
noncomputable abbrev bNd : Code := cR aMx
noncomputable abbrev aTn : Code := cL bNd
noncomputable abbrev xB : Code := cL aTn
noncomputable abbrev cNe : Code := cL aMx
noncomputable abbrev bMx : Code := cL cJp
noncomputable abbrev cOv : Code := cL cKb
noncomputable abbrev cNu : Code := cL cEb
noncomputable abbrev cNs : Code := cL c7
noncomputable abbrev r7 : K := aV CF Tryz.f7
noncomputable def D7 (r : RT) (n : Nat) (c : Code) (X : Nat → K) (k : K) : K := aP CF r 179 n c X r7 k
theorem cMz : D7 r n dKz x0 r7 = (K1 (jH r n) 5) :=
 (by kernel_rfl)
theorem bRr (kk9 : bZ) : D7 r n zB (xs x0 7 (K1 (jH r n) 5)) (K4 kk9 5 155 156 157) = (K4 (mR r n kk9) 5 155 156 157) :=
 (by kernel_rfl)
theorem cYz (m : Nat) : aM (fun kk => D7 r n zB (xs x0 7 (K1 (jH r n) 5)) kk) m = (K4 (mT r n m) 5 155 156 157) := by
 induction m with
 | zero => exact (by kernel_rfl : aM (fun kk => D7 r n zB (xs x0 7 (K1 (jH r n) 5)) kk) 0 = (K4 (mT r n 0) 5 155 156 157))
 | succ m ih =>
  refine (by kernel_rfl : aM (fun kk => D7 r n zB (xs x0 7 (K1 (jH r n) 5)) kk) (m + 1) = D7 r n zB (xs x0 7 (K1 (jH r n) 5)) (aM (fun kk => D7 r n zB (xs x0 7 (K1 (jH r n) 5)) kk) m)).trans ?_
  rw [ih]
  exact (bRr r n (mT r n m)).trans (by kernel_rfl)
theorem cOb : D7 r n bAm (xs x0 7 (K1 (jH r n) 5)) (K1 (jH r n) 5) = (K4 (bQe r n) 5 155 156 157) :=
 (by kernel_rfl : D7 r n bAm (xs x0 7 (K1 (jH r n) 5)) (K1 (jH r n) 5) = aM (fun kk => D7 r n zB (xs x0 7 (K1 (jH r n) 5)) kk) n).trans ((cYz r n n).trans (by kernel_rfl))
theorem dFk : D7 r n cQs x0 (K1 (jH r n) 5) = (K4 (cZm r n) 5 155 156 157) :=
 (by kernel_rfl : D7 r n cQs x0 (K1 (jH r n) 5) = D7 r n bAm (xs x0 7 (K1 (jH r n) 5)) (K1 (jH r n) 5)).trans
 ((cOb r n).trans (by kernel_rfl))
theorem cPz : D7 r n cIh x0 r7 = D7 r n bVx x0 (K1 (jH r n) 5) :=
 congrArg (fun k => D7 r n bVx x0 k) (cMz r n)
theorem cRw : D7 r n bVx x0 (K1 (jH r n) 5) = D7 r n cNd x0 (K4 (cZm r n) 5 155 156 157) :=
 congrArg (fun k => D7 r n cNd x0 k) (dFk r n)
theorem dFi : D7 r n cIh x0 r7 = (K1 (cD r n) 5) :=
 (cPz r n).trans
 ((cRw r n).trans
 ((by kernel_rfl)))
theorem cWp (kk11 : bT) : D7 r n dCy (xs x0 3 (K1 (cD r n) 5)) (K5 kk11 4 5 59 60 61) = (K5 (bJ r n kk11) 4 5 59 60 61) :=
 (by kernel_rfl)
theorem cZc (kk11 : bT) : D7 r n dCo (xs (xs x0 3 (K1 (cD r n) 5)) 4 (K5 (bJ r n kk11) 4 5 59 60 61)) (K5 (bJ r n kk11) 4 5 59 60 61) = (K7 (iF r n kk11) 4 5 8 9 59 60 61) :=
 (by kernel_rfl)
theorem cIj (kk11 : bT) (kk25 : aSg) : D7 r n zL (xs (xs (xs x0 3 (K1 (cD r n) 5)) 4 (K5 (bJ r n kk11) 4 5 59 60 61)) 5 (K7 (iF r n kk11) 4 5 8 9 59 60 61)) (K10 kk25 4 5 8 9 59 60 61 117 118 119) = (K10 (bHm r n kk11 kk25) 4 5 8 9 59 60 61 117 118 119) :=
 (by kernel_rfl)
theorem cMb (kk11 : bT) (m : Nat) : aM (fun kk => D7 r n zL (xs (xs (xs x0 3 (K1 (cD r n) 5)) 4 (K5 (bJ r n kk11) 4 5 59 60 61)) 5 (K7 (iF r n kk11) 4 5 8 9 59 60 61)) kk) m = (K10 (aHh r n kk11 m) 4 5 8 9 59 60 61 117 118 119) := by
 induction m with
 | zero => exact (by kernel_rfl : aM (fun kk => D7 r n zL (xs (xs (xs x0 3 (K1 (cD r n) 5)) 4 (K5 (bJ r n kk11) 4 5 59 60 61)) 5 (K7 (iF r n kk11) 4 5 8 9 59 60 61)) kk) 0 = (K10 (aHh r n kk11 0) 4 5 8 9 59 60 61 117 118 119))
 | succ m ih =>
  refine (by kernel_rfl : aM (fun kk => D7 r n zL (xs (xs (xs x0 3 (K1 (cD r n) 5)) 4 (K5 (bJ r n kk11) 4 5 59 60 61)) 5 (K7 (iF r n kk11) 4 5 8 9 59 60 61)) kk) (m + 1) = D7 r n zL (xs (xs (xs x0 3 (K1 (cD r n) 5)) 4 (K5 (bJ r n kk11) 4 5 59 60 61)) 5 (K7 (iF r n kk11) 4 5 8 9 59 60 61)) (aM (fun kk => D7 r n zL (xs (xs (xs x0 3 (K1 (cD r n) 5)) 4 (K5 (bJ r n kk11) 4 5 59 60 61)) 5 (K7 (iF r n kk11) 4 5 8 9 59 60 61)) kk) m)).trans ?_
  rw [ih]
  exact (cIj r n kk11 (aHh r n kk11 m)).trans (by kernel_rfl)
theorem cRu (kk11 : bT) : D7 r n aZd (xs (xs (xs x0 3 (K1 (cD r n) 5)) 4 (K5 (bJ r n kk11) 4 5 59 60 61)) 5 (K7 (iF r n kk11) 4 5 8 9 59 60 61)) (K7 (iF r n kk11) 4 5 8 9 59 60 61) = (K10 (cOr r n kk11) 4 5 8 9 59 60 61 117 118 119) :=
 (by kernel_rfl : D7 r n aZd (xs (xs (xs x0 3 (K1 (cD r n) 5)) 4 (K5 (bJ r n kk11) 4 5 59 60 61)) 5 (K7 (iF r n kk11) 4 5 8 9 59 60 61)) (K7 (iF r n kk11) 4 5 8 9 59 60 61) = aM (fun kk => D7 r n zL (xs (xs (xs x0 3 (K1 (cD r n) 5)) 4 (K5 (bJ r n kk11) 4 5 59 60 61)) 5 (K7 (iF r n kk11) 4 5 8 9 59 60 61)) kk) n).trans ((cMb r n kk11 n).trans (by kernel_rfl))
theorem cXo (kk11 : bT) : D7 r n bHo (xs (xs x0 3 (K1 (cD r n) 5)) 4 (K5 (bJ r n kk11) 4 5 59 60 61)) (K7 (iF r n kk11) 4 5 8 9 59 60 61) = (K10 (aLc r n kk11) 4 5 8 9 59 60 61 117 118 119) :=
 (by kernel_rfl : D7 r n bHo (xs (xs x0 3 (K1 (cD r n) 5)) 4 (K5 (bJ r n kk11) 4 5 59 60 61)) (K7 (iF r n kk11) 4 5 8 9 59 60 61) = D7 r n aZd (xs (xs (xs x0 3 (K1 (cD r n) 5)) 4 (K5 (bJ r n kk11) 4 5 59 60 61)) 5 (K7 (iF r n kk11) 4 5 8 9 59 60 61)) (K7 (iF r n kk11) 4 5 8 9 59 60 61)).trans
 ((cRu r n kk11).trans (by kernel_rfl))
theorem cCq (kk11 : bT) : D7 r n aWj (xs (xs x0 3 (K1 (cD r n) 5)) 4 (K5 (bJ r n kk11) 4 5 59 60 61)) (K5 (bJ r n kk11) 4 5 59 60 61) = D7 r n aKy (xs (xs x0 3 (K1 (cD r n) 5)) 4 (K5 (bJ r n kk11) 4 5 59 60 61)) (K7 (iF r n kk11) 4 5 8 9 59 60 61) :=
 congrArg (fun k => D7 r n aKy (xs (xs x0 3 (K1 (cD r n) 5)) 4 (K5 (bJ r n kk11) 4 5 59 60 61)) k) (cZc r n kk11)
theorem cKh (kk11 : bT) : D7 r n aKy (xs (xs x0 3 (K1 (cD r n) 5)) 4 (K5 (bJ r n kk11) 4 5 59 60 61)) (K7 (iF r n kk11) 4 5 8 9 59 60 61) = D7 r n bMs (xs (xs x0 3 (K1 (cD r n) 5)) 4 (K5 (bJ r n kk11) 4 5 59 60 61)) (K10 (aLc r n kk11) 4 5 8 9 59 60 61 117 118 119) :=
 congrArg (fun k => D7 r n bMs (xs (xs x0 3 (K1 (cD r n) 5)) 4 (K5 (bJ r n kk11) 4 5 59 60 61)) k) (cXo r n kk11)
theorem bZo (kk11 : bT) (q0 : aSg) (q1 : TT1) (q2 : bT) : D7 r n bMs (xs (xs x0 3 (K1 q1 5)) 4 (K5 q2 4 5 59 60 61)) (K10 q0 4 5 8 9 59 60 61 117 118 119) = fun (env : bA) (h : Hp) =>
 bnd (r 37 [(env 13)] (resv 1 h)) fun v1 h1 =>
 bnd (aB 2 (env 8) h1) fun v2 h2 =>
 bnd (aA v2 h2) fun v3 h3 =>
 cnd (bM (aA v2 (resv 1 h)) v3 && true) (
 bnd (r 37 [v3] h3) fun v4 h4 =>
 bnd (bL (cF 0 h.next) [(aG 0), (aG 0), (aG 0), (aG 0), (aG 0), (aG 0)] 6 [(0, 1, (env 10)), (1, 1, (env 12)), (2, 1, v1), (3, 1, (env 19)), (4, 1, (aG 0)), (5, 1, v4)] h4) fun v5 h5 =>
 bnd (cB v5 h5) fun v6 h6 =>
  q0 (env 4) (env 5) (env 8) (env 9) (env 59) (env 60) (env 61) v5 v6 (aG 0) h6) := by kernel_rfl
theorem bNl (kk11 : bT) : (fun (env : bA) (h : Hp) =>
 bnd (r 37 [(env 13)] (resv 1 h)) fun v1 h1 =>
 bnd (aB 2 (env 8) h1) fun v2 h2 =>
 bnd (aA v2 h2) fun v3 h3 =>
 cnd (bM (aA v2 (resv 1 h)) v3 && true) (
 bnd (r 37 [v3] h3) fun v4 h4 =>
 bnd (bL (cF 0 h.next) [(aG 0), (aG 0), (aG 0), (aG 0), (aG 0), (aG 0)] 6 [(0, 1, (env 10)), (1, 1, (env 12)), (2, 1, v1), (3, 1, (env 19)), (4, 1, (aG 0)), (5, 1, v4)] h4) fun v5 h5 =>
 bnd (cB v5 h5) fun v6 h6 =>
  aLc r n kk11 (env 4) (env 5) (env 8) (env 9) (env 59) (env 60) (env 61) v5 v6 (aG 0) h6)) = (K11 (aXc r n kk11) 4 5 8 9 10 12 13 19 59 60 61) := by kernel_rfl
theorem cYu (kk11 : bT) : D7 r n aWj (xs (xs x0 3 (K1 (cD r n) 5)) 4 (K5 (bJ r n kk11) 4 5 59 60 61)) (K5 (bJ r n kk11) 4 5 59 60 61) = (K11 (aXc r n kk11) 4 5 8 9 10 12 13 19 59 60 61) :=
 (cCq r n kk11).trans
 ((cKh r n kk11).trans
 ((bZo r n kk11 (aLc r n kk11) (cD r n) (bJ r n kk11)).trans (bNl r n kk11)))
theorem cAi (kk11 : bT) : D7 r n bAs (xs (xs x0 3 (K1 (cD r n) 5)) 4 (K5 (bJ r n kk11) 4 5 59 60 61)) (K5 (bJ r n kk11) 4 5 59 60 61) = D7 r n cOe (xs (xs x0 3 (K1 (cD r n) 5)) 4 (K5 (bJ r n kk11) 4 5 59 60 61)) (K11 (aXc r n kk11) 4 5 8 9 10 12 13 19 59 60 61) :=
 congrArg (fun k => D7 r n cOe (xs (xs x0 3 (K1 (cD r n) 5)) 4 (K5 (bJ r n kk11) 4 5 59 60 61)) k) (cYu r n kk11)
theorem cUi (kk11 : bT) : D7 r n bAs (xs (xs x0 3 (K1 (cD r n) 5)) 4 (K5 (bJ r n kk11) 4 5 59 60 61)) (K5 (bJ r n kk11) 4 5 59 60 61) = (K11 (yA r n kk11) 4 5 8 9 10 12 13 14 59 60 61) :=
 (cAi r n kk11).trans
 ((by kernel_rfl))
theorem cJd (kk11 : bT) : D7 r n bAu (xs (xs x0 3 (K1 (cD r n) 5)) 4 (K5 (bJ r n kk11) 4 5 59 60 61)) (K5 (bJ r n kk11) 4 5 59 60 61) = D7 r n bWa (xs (xs x0 3 (K1 (cD r n) 5)) 4 (K5 (bJ r n kk11) 4 5 59 60 61)) (K11 (yA r n kk11) 4 5 8 9 10 12 13 14 59 60 61) :=
 congrArg (fun k => D7 r n bWa (xs (xs x0 3 (K1 (cD r n) 5)) 4 (K5 (bJ r n kk11) 4 5 59 60 61)) k) (cUi r n kk11)
theorem cFk (kk11 : bT) (q0 : dAm) (q1 : TT1) (q2 : bT) : D7 r n bWa (xs (xs x0 3 (K1 q1 5)) 4 (K5 q2 4 5 59 60 61)) (K11 q0 4 5 8 9 10 12 13 14 59 60 61) = fun (env : bA) (h : Hp) =>
 bnd (aD .eql (env 7) (aG 15) h) fun v1 h1 =>
 aX v1 (
 bnd (r 10 [(env 5), (.s [115, 101, 108, 101, 99, 116, 111, 114])] h1) fun v2 h2 =>
 bnd (aC 0 v2 h2) fun v3 h3 =>
 bnd (aC 1 v2 h3) fun v4 h4 =>
 bnd (r 10 [(env 5), (.s [97, 114, 103, 117, 109, 101, 110, 116, 115])] h4) fun v5 h5 =>
 bnd (aC 0 v5 h5) fun v6 h6 =>
 bnd (aC 1 v5 h6) fun v7 h7 =>
 bnd (aN [(aG 0), (aG 0)] 2 [(0, 1, v3), (1, 1, v6)] h7) fun v8 h8 =>
      q0 (env 4) (env 5) (env 8) (env 9) (env 10) (env 12) (aG 2) v8 (env 59) (env 60) (env 61) h8) (
      q0 (env 4) (env 5) (env 8) (env 9) (env 10) (env 12) (env 13) (env 14) (env 59) (env 60) (env 61) h1) := by kernel_rfl
theorem bQh (kk11 : bT) : (fun (env : bA) (h : Hp) =>
 bnd (aD .eql (env 7) (aG 15) h) fun v1 h1 =>
 aX v1 (
 bnd (r 10 [(env 5), (.s [115, 101, 108, 101, 99, 116, 111, 114])] h1) fun v2 h2 =>
 bnd (aC 0 v2 h2) fun v3 h3 =>
 bnd (aC 1 v2 h3) fun v4 h4 =>
 bnd (r 10 [(env 5), (.s [97, 114, 103, 117, 109, 101, 110, 116, 115])] h4) fun v5 h5 =>
 bnd (aC 0 v5 h5) fun v6 h6 =>
 bnd (aC 1 v5 h6) fun v7 h7 =>
 bnd (aN [(aG 0), (aG 0)] 2 [(0, 1, v3), (1, 1, v6)] h7) fun v8 h8 =>
      yA r n kk11 (env 4) (env 5) (env 8) (env 9) (env 10) (env 12) (aG 2) v8 (env 59) (env 60) (env 61) h8) (
      yA r n kk11 (env 4) (env 5) (env 8) (env 9) (env 10) (env 12) (env 13) (env 14) (env 59) (env 60) (env 61) h1)) = (K12 (aLr r n kk11) 4 5 7 8 9 10 12 13 14 59 60 61) := by kernel_rfl
theorem cXj (kk11 : bT) : D7 r n bAu (xs (xs x0 3 (K1 (cD r n) 5)) 4 (K5 (bJ r n kk11) 4 5 59 60 61)) (K5 (bJ r n kk11) 4 5 59 60 61) = (K12 (aLr r n kk11) 4 5 7 8 9 10 12 13 14 59 60 61) :=
 (cJd r n kk11).trans
 ((cFk r n kk11 (yA r n kk11) (cD r n) (bJ r n kk11)).trans (bQh r n kk11))
theorem cKg (kk11 : bT) : D7 r n aVq (xs (xs x0 3 (K1 (cD r n) 5)) 4 (K5 (bJ r n kk11) 4 5 59 60 61)) (K5 (bJ r n kk11) 4 5 59 60 61) = D7 r n cNb (xs (xs x0 3 (K1 (cD r n) 5)) 4 (K5 (bJ r n kk11) 4 5 59 60 61)) (K12 (aLr r n kk11) 4 5 7 8 9 10 12 13 14 59 60 61) :=
 congrArg (fun k => D7 r n cNb (xs (xs x0 3 (K1 (cD r n) 5)) 4 (K5 (bJ r n kk11) 4 5 59 60 61)) k) (cXj r n kk11)
theorem cRr (kk11 : bT) : D7 r n aVq (xs (xs x0 3 (K1 (cD r n) 5)) 4 (K5 (bJ r n kk11) 4 5 59 60 61)) (K5 (bJ r n kk11) 4 5 59 60 61) = (K12 (bWz r n kk11) 4 5 7 8 9 10 12 13 14 59 60 61) :=
 (cKg r n kk11).trans
 ((by kernel_rfl))
theorem bSz (kk11 : bT) : D7 r n aZu (xs (xs x0 3 (K1 (cD r n) 5)) 4 (K5 (bJ r n kk11) 4 5 59 60 61)) (K5 (bJ r n kk11) 4 5 59 60 61) = D7 r n cMv (xs (xs x0 3 (K1 (cD r n) 5)) 4 (K5 (bJ r n kk11) 4 5 59 60 61)) (K12 (bWz r n kk11) 4 5 7 8 9 10 12 13 14 59 60 61) :=
 congrArg (fun k => D7 r n cMv (xs (xs x0 3 (K1 (cD r n) 5)) 4 (K5 (bJ r n kk11) 4 5 59 60 61)) k) (cRr r n kk11)
theorem cWr (kk11 : bT) : D7 r n aZu (xs (xs x0 3 (K1 (cD r n) 5)) 4 (K5 (bJ r n kk11) 4 5 59 60 61)) (K5 (bJ r n kk11) 4 5 59 60 61) = (K9 (bUh r n kk11) 4 5 7 8 9 10 59 60 61) :=
 (bSz r n kk11).trans
 ((by kernel_rfl))
theorem bOu (kk11 : bT) : D7 r n bAk (xs (xs x0 3 (K1 (cD r n) 5)) 4 (K5 (bJ r n kk11) 4 5 59 60 61)) (K5 (bJ r n kk11) 4 5 59 60 61) = D7 r n cMq (xs (xs x0 3 (K1 (cD r n) 5)) 4 (K5 (bJ r n kk11) 4 5 59 60 61)) (K9 (bUh r n kk11) 4 5 7 8 9 10 59 60 61) :=
 congrArg (fun k => D7 r n cMq (xs (xs x0 3 (K1 (cD r n) 5)) 4 (K5 (bJ r n kk11) 4 5 59 60 61)) k) (cWr r n kk11)
theorem cPl (kk11 : bT) : D7 r n bAk (xs (xs x0 3 (K1 (cD r n) 5)) 4 (K5 (bJ r n kk11) 4 5 59 60 61)) (K5 (bJ r n kk11) 4 5 59 60 61) = (K8 (bWg r n kk11) 4 5 7 8 9 59 60 61) :=
 (bOu r n kk11).trans
 ((by kernel_rfl))
theorem bGi (kk11 : bT) : D7 r n aXf (xs (xs x0 3 (K1 (cD r n) 5)) 4 (K5 (bJ r n kk11) 4 5 59 60 61)) (K5 (bJ r n kk11) 4 5 59 60 61) = D7 r n cNa (xs (xs x0 3 (K1 (cD r n) 5)) 4 (K5 (bJ r n kk11) 4 5 59 60 61)) (K8 (bWg r n kk11) 4 5 7 8 9 59 60 61) :=
 congrArg (fun k => D7 r n cNa (xs (xs x0 3 (K1 (cD r n) 5)) 4 (K5 (bJ r n kk11) 4 5 59 60 61)) k) (cPl r n kk11)
theorem cUl (kk11 : bT) : D7 r n aXf (xs (xs x0 3 (K1 (cD r n) 5)) 4 (K5 (bJ r n kk11) 4 5 59 60 61)) (K5 (bJ r n kk11) 4 5 59 60 61) = (K8 (bRo r n kk11) 4 5 7 8 9 59 60 61) :=
 (bGi r n kk11).trans
 ((by kernel_rfl))
theorem bMh (kk11 : bT) : D7 r n aYx (xs (xs x0 3 (K1 (cD r n) 5)) 4 (K5 (bJ r n kk11) 4 5 59 60 61)) (K5 (bJ r n kk11) 4 5 59 60 61) = D7 r n cNl (xs (xs x0 3 (K1 (cD r n) 5)) 4 (K5 (bJ r n kk11) 4 5 59 60 61)) (K8 (bRo r n kk11) 4 5 7 8 9 59 60 61) :=
 congrArg (fun k => D7 r n cNl (xs (xs x0 3 (K1 (cD r n) 5)) 4 (K5 (bJ r n kk11) 4 5 59 60 61)) k) (cUl r n kk11)
theorem cVs (kk11 : bT) : D7 r n aYx (xs (xs x0 3 (K1 (cD r n) 5)) 4 (K5 (bJ r n kk11) 4 5 59 60 61)) (K5 (bJ r n kk11) 4 5 59 60 61) = (K7 (aLq r n kk11) 4 5 7 8 59 60 61) :=
 (bMh r n kk11).trans
 ((by kernel_rfl))
theorem bQo (kk11 : bT) : D7 r n aXb (xs x0 3 (K1 (cD r n) 5)) (K5 kk11 4 5 59 60 61) = D7 r n aTo (xs x0 3 (K1 (cD r n) 5)) (K5 (bJ r n kk11) 4 5 59 60 61) :=
 congrArg (fun k => D7 r n aTo (xs x0 3 (K1 (cD r n) 5)) k) (cWp r n kk11)
theorem bWb (kk11 : bT) : D7 r n aZn (xs (xs x0 3 (K1 (cD r n) 5)) 4 (K5 (bJ r n kk11) 4 5 59 60 61)) (K5 (bJ r n kk11) 4 5 59 60 61) = D7 r n bLe (xs (xs x0 3 (K1 (cD r n) 5)) 4 (K5 (bJ r n kk11) 4 5 59 60 61)) (K7 (aLq r n kk11) 4 5 7 8 59 60 61) :=
 congrArg (fun k => D7 r n bLe (xs (xs x0 3 (K1 (cD r n) 5)) 4 (K5 (bJ r n kk11) 4 5 59 60 61)) k) (cVs r n kk11)
theorem bYd (kk11 : bT) (q0 : TT7) (q1 : TT1) (q2 : bT) : D7 r n bLe (xs (xs x0 3 (K1 q1 5)) 4 (K5 q2 4 5 59 60 61)) (K7 q0 4 5 7 8 59 60 61) = fun (env : bA) (h : Hp) =>
 bnd (aE 3 (env 59) (env 61) h) fun v1 h1 =>
 bnd (aK 3 v1 h1) fun v2 h2 =>
 bnd (bY [(.s []), (aG 0), (aG 0)] h2) fun v3 h3 =>
 bnd (aI 3 v3 v2 h3) fun _ h4 =>
  q0 (env 4) (env 5) (env 61) v3 (env 59) (env 60) (env 61) h4 := by kernel_rfl
theorem bCx (kk11 : bT) : (fun (env : bA) (h : Hp) =>
 bnd (aE 3 (env 59) (env 61) h) fun v1 h1 =>
 bnd (aK 3 v1 h1) fun v2 h2 =>
 bnd (bY [(.s []), (aG 0), (aG 0)] h2) fun v3 h3 =>
 bnd (aI 3 v3 v2 h3) fun _ h4 =>
  aLq r n kk11 (env 4) (env 5) (env 61) v3 (env 59) (env 60) (env 61) h4) = (K5 (aVa r n kk11) 4 5 59 60 61) := by kernel_rfl
theorem cUu (kk11 : bT) : D7 r n aXb (xs x0 3 (K1 (cD r n) 5)) (K5 kk11 4 5 59 60 61) = (K5 (aVa r n kk11) 4 5 59 60 61) :=
 (bQo r n kk11).trans
 ((by kernel_rfl : D7 r n aTo (xs x0 3 (K1 (cD r n) 5)) (K5 (bJ r n kk11) 4 5 59 60 61) = D7 r n aZn (xs (xs x0 3 (K1 (cD r n) 5)) 4 (K5 (bJ r n kk11) 4 5 59 60 61)) (K5 (bJ r n kk11) 4 5 59 60 61)).trans
 ((bWb r n kk11).trans
 ((bYd r n kk11 (aLq r n kk11) (cD r n) (bJ r n kk11)).trans (bCx r n kk11))))
theorem bHr (kk11 : bT) : D7 r n bAc (xs x0 3 (K1 (cD r n) 5)) (K5 kk11 4 5 59 60 61) = D7 r n cNn (xs x0 3 (K1 (cD r n) 5)) (K5 (aVa r n kk11) 4 5 59 60 61) :=
 congrArg (fun k => D7 r n cNn (xs x0 3 (K1 (cD r n) 5)) k) (cUu r n kk11)
theorem cTa (kk11 : bT) : D7 r n bAc (xs x0 3 (K1 (cD r n) 5)) (K5 kk11 4 5 59 60 61) = (K6 (bTa r n kk11) 4 5 59 60 61 62) :=
 (bHr r n kk11).trans
 ((by kernel_rfl))
theorem bHk (kk11 : bT) : D7 r n oE (xs x0 3 (K1 (cD r n) 5)) (K5 kk11 4 5 59 60 61) = D7 r n cMs (xs x0 3 (K1 (cD r n) 5)) (K6 (bTa r n kk11) 4 5 59 60 61 62) :=
 congrArg (fun k => D7 r n cMs (xs x0 3 (K1 (cD r n) 5)) k) (cTa r n kk11)
theorem cJh (kk11 : bT) : D7 r n oE (xs x0 3 (K1 (cD r n) 5)) (K5 kk11 4 5 59 60 61) = (K5 (bJe r n kk11) 4 5 59 60 61) :=
 (bHk r n kk11).trans
 ((by kernel_rfl))
theorem cHx (m : Nat) : aM (fun kk => D7 r n oE (xs x0 3 (K1 (cD r n) 5)) kk) m = (K5 (aIi r n m) 4 5 59 60 61) := by
 induction m with
 | zero => exact (by kernel_rfl : aM (fun kk => D7 r n oE (xs x0 3 (K1 (cD r n) 5)) kk) 0 = (K5 (aIi r n 0) 4 5 59 60 61))
 | succ m ih =>
  refine (by kernel_rfl : aM (fun kk => D7 r n oE (xs x0 3 (K1 (cD r n) 5)) kk) (m + 1) = D7 r n oE (xs x0 3 (K1 (cD r n) 5)) (aM (fun kk => D7 r n oE (xs x0 3 (K1 (cD r n) 5)) kk) m)).trans ?_
  rw [ih]
  exact (cJh r n (aIi r n m)).trans (by kernel_rfl)
theorem cQa : D7 r n aZb (xs x0 3 (K1 (cD r n) 5)) (K1 (cD r n) 5) = (K5 (cOw r n) 4 5 59 60 61) :=
 (by kernel_rfl : D7 r n aZb (xs x0 3 (K1 (cD r n) 5)) (K1 (cD r n) 5) = aM (fun kk => D7 r n oE (xs x0 3 (K1 (cD r n) 5)) kk) n).trans ((cHx r n n).trans (by kernel_rfl))
theorem cPc : D7 r n bPp x0 (K1 (cD r n) 5) = (K5 (bGk r n) 4 5 59 60 61) :=
 (by kernel_rfl : D7 r n bPp x0 (K1 (cD r n) 5) = D7 r n aZb (xs x0 3 (K1 (cD r n) 5)) (K1 (cD r n) 5)).trans
 ((cQa r n).trans (by kernel_rfl))
theorem cGt : D7 r n cIb x0 r7 = D7 r n aMp x0 (K1 (cD r n) 5) :=
 congrArg (fun k => D7 r n aMp x0 k) (dFi r n)
theorem cAl : D7 r n aMp x0 (K1 (cD r n) 5) = D7 r n cNg x0 (K5 (bGk r n) 4 5 59 60 61) :=
 congrArg (fun k => D7 r n cNg x0 k) (cPc r n)
theorem dAl : D7 r n cIb x0 r7 = (K2 (mC r n) 4 5) :=
 (cGt r n).trans
 ((cAl r n).trans
 ((by kernel_rfl)))
theorem cAf (kk27 : jF) : D7 r n xB (xs x0 1 (K2 (mC r n) 4 5)) (K3 kk27 4 5 43) = (K3 (bVe r n kk27) 4 5 43) :=
 (by kernel_rfl)
theorem cMe (m : Nat) : aM (fun kk => D7 r n xB (xs x0 1 (K2 (mC r n) 4 5)) kk) m = (K3 (aDr r n m) 4 5 43) := by
 induction m with
 | zero => exact (by kernel_rfl : aM (fun kk => D7 r n xB (xs x0 1 (K2 (mC r n) 4 5)) kk) 0 = (K3 (aDr r n 0) 4 5 43))
 | succ m ih =>
  refine (by kernel_rfl : aM (fun kk => D7 r n xB (xs x0 1 (K2 (mC r n) 4 5)) kk) (m + 1) = D7 r n xB (xs x0 1 (K2 (mC r n) 4 5)) (aM (fun kk => D7 r n xB (xs x0 1 (K2 (mC r n) 4 5)) kk) m)).trans ?_
  rw [ih]
  exact (cAf r n (aDr r n m)).trans (by kernel_rfl)
theorem cRc : D7 r n aTn (xs x0 1 (K2 (mC r n) 4 5)) (K2 (mC r n) 4 5) = (K3 (cNj r n) 4 5 43) :=
 (by kernel_rfl : D7 r n aTn (xs x0 1 (K2 (mC r n) 4 5)) (K2 (mC r n) 4 5) = aM (fun kk => D7 r n xB (xs x0 1 (K2 (mC r n) 4 5)) kk) n).trans ((cMe r n n).trans (by kernel_rfl))
theorem cWc : D7 r n bNd x0 (K2 (mC r n) 4 5) = (K3 (bGu r n) 4 5 43) :=
 (by kernel_rfl : D7 r n bNd x0 (K2 (mC r n) 4 5) = D7 r n aTn (xs x0 1 (K2 (mC r n) 4 5)) (K2 (mC r n) 4 5)).trans
 ((cRc r n).trans (by kernel_rfl))
theorem cCi : D7 r n bYn x0 r7 = D7 r n aMx x0 (K2 (mC r n) 4 5) :=
 congrArg (fun k => D7 r n aMx x0 k) (dAl r n)
theorem cIy : D7 r n aMx x0 (K2 (mC r n) 4 5) = D7 r n cNe x0 (K3 (bGu r n) 4 5 43) :=
 congrArg (fun k => D7 r n cNe x0 k) (cWc r n)
theorem dDm : D7 r n bYn x0 r7 = (K2 (bIy r n) 4 5) :=
 (cCi r n).trans
 ((cIy r n).trans
 ((by kernel_rfl)))
theorem cHc : D7 r n cJp x0 r7 = D7 r n bMx x0 (K2 (bIy r n) 4 5) :=
 congrArg (fun k => D7 r n bMx x0 k) (dDm r n)
theorem cHq (q0 : tS) : D7 r n bMx x0 (K2 q0 4 5) = fun (env : bA) (h : Hp) =>
 bnd (cP 1 8 [(aG 0)] (aG 18) (aG 18) h) fun v1 h1 =>
 bnd (dY h1) fun v2 h2 =>
 bnd (dY h2) fun v3 h3 =>
 bnd (bE [.p0, .l0, .m0, .m0] [(0, 1, (env 4)), (1, 1, v1), (2, 1, v2), (3, 1, v3)] h3) fun v4 h4 =>
 bnd (bU v4 h4) fun v5 h5 =>
  q0 (env 4) v5 h5 := by kernel_rfl
theorem bOt : (fun (env : bA) (h : Hp) =>
 bnd (cP 1 8 [(aG 0)] (aG 18) (aG 18) h) fun v1 h1 =>
 bnd (dY h1) fun v2 h2 =>
 bnd (dY h2) fun v3 h3 =>
 bnd (bE [.p0, .l0, .m0, .m0] [(0, 1, (env 4)), (1, 1, v1), (2, 1, v2), (3, 1, v3)] h3) fun v4 h4 =>
 bnd (bU v4 h4) fun v5 h5 =>
  bIy r n (env 4) v5 h5) = (K1 (bZp r n) 4) := by kernel_rfl
theorem dAz : D7 r n cJp x0 r7 = (K1 (bZp r n) 4) :=
 (cHc r n).trans
 ((cHq r n (bIy r n)).trans (bOt r n))
theorem cDs : D7 r n cKb x0 r7 = D7 r n cOv x0 (K1 (bZp r n) 4) :=
 congrArg (fun k => D7 r n cOv x0 k) (dAz r n)
theorem dEa : D7 r n cKb x0 r7 = (K2 (cXl r n) 0 4) :=
 (cDs r n).trans
 ((by kernel_rfl))
theorem bZt : D7 r n cEb x0 r7 = D7 r n cNu x0 (K2 (cXl r n) 0 4) :=
 congrArg (fun k => D7 r n cNu x0 k) (dEa r n)
theorem dDq : D7 r n cEb x0 r7 = (K1 (cPf r n) 0) :=
 (bZt r n).trans
 ((by kernel_rfl))
theorem dEf : D7 r n c7 x0 r7 = D7 r n cNs x0 (K1 (cPf r n) 0) :=
 congrArg (fun k => D7 r n cNs x0 k) (dDq r n)
theorem s7m : D7 r n c7 x0 r7 = (K1 (s7 r n) 0) :=
 (dEf r n).trans
 ((by kernel_rfl))
theorem dNa : aF CF r n 7 args h = s7 r n (aW args 0) h :=
 (by kernel_rfl : aF CF r n 7 args h = D7 r n c7 x0 r7 (aJ args) h).trans ((congrFun (congrFun (s7m r n) (aJ args)) h).trans (by kernel_rfl))
noncomputable def s9 (r : RT) (n : Nat) (h0 : Hp) : aH :=
 bnd (r 7 [(aG 20000)] h0) fun v1 h1 =>
 bnd (aC 0 v1 h1) fun v2 h2 =>
 bnd (aC 1 v1 h2) fun v3 h3 =>
 bnd (r 8 [] h3) fun v4 h4 =>
 bnd (pEq (.pointer 77) true v2 .p0 h4) fun v5 h5 =>
 bnd (gD v5 false (some (v4, h5)) h5) fun v6 h6 =>
 bnd (gD v5 false (pEq (.pointer 98) true v6 .p0 h6) h6) fun v7 h7 =>
 bnd (aQ v5 (.b true) v7 h7) fun v8 h8 =>
 bnd (gD v8 false (some (v3, h8)) h8) fun v9 h9 =>
 bnd (gD v8 false (aD .neq v9 (aG 0) h9) h9) fun v10 h10 =>
 bnd (aQ v8 (.b true) v10 h10) fun v11 h11 =>
 aX v11 (
 some ((.b false), h11)) (
 bnd (r 10 [v2, (.s [61])] h11) fun v12 h12 =>
 bnd (aC 0 v12 h12) fun v13 h13 =>
 bnd (aC 1 v12 h13) fun v14 h14 =>
 bnd (r 10 [v2, (.s [105, 115, 78, 105, 108])] h14) fun v15 h15 =>
 bnd (aC 0 v15 h15) fun v16 h16 =>
 bnd (aC 1 v15 h16) fun v17 h17 =>
 bnd (r 11 [v2, (.s [83, 109, 97, 108, 108, 73, 110, 116, 101, 103, 101, 114])] h17) fun v18 h18 =>
 bnd (r 42 [v2, v18, v13] h18) fun v19 h19 =>
 bnd (bY [(aG 0), (aG 0)] h19) fun v20 h20 =>
 bnd (aI 2 v20 v19 h20) fun _ h21 =>
 bnd (r 12 [v4, v2, v18, v16] h21) fun v22 h22 =>
 bnd (bY [(aG 0), (aG 0)] h22) fun v23 h23 =>
 bnd (aI 2 v23 v22 h23) fun _ h24 =>
 bnd (r 12 [v4, v2, v18, v16] h24) fun v25 h25 =>
 bnd (bY [(aG 0), (aG 0)] h25) fun v26 h26 =>
 bnd (aI 2 v26 v25 h26) fun _ h27 =>
 bnd (aB 1 v20 h27) fun v28 h28 =>
 bnd (aA v28 h28) fun v29 h29 =>
 bnd (r 11 [v2, (.s [73, 110, 116, 101, 103, 101, 114])] h29) fun v30 h30 =>
 cnd (bM (aA v28 h30) v29 && true) (
 bnd (aD .eql v29 v30 h30) fun v31 h31 =>
 bnd (gD v31 true (aB 1 v23 h31) h31) fun v32 h32 =>
 bnd (gD v31 true (aA v32 h32) h32) fun v33 h33 =>
 bnd (gD v31 true (some (v2, h33)) h33) fun v34 h34 =>
 bnd (gD v31 true (r 11 [v34, (.s [79, 98, 106, 101, 99, 116])] h34) h34) fun v35 h35 =>
 cnd (bM (gD v31 true (aA v32 h35) h35) v33 && true) (
 bnd (gD v31 true (aD .eql v33 v35 h35) h35) fun v36 h36 =>
 bnd (aQ v31 v36 (.b false) h36) fun v37 h37 =>
 bnd (gD v37 true (aK 2 v23 h37) h37) fun v38 h38 =>
 bnd (gD v37 true (aK 2 v26 h38) h38) fun v39 h39 =>
 bnd (gD v37 true (bEt true .eql v38 v39 h39) h39) fun v40 h40 =>
 bnd (aQ v37 v40 (.b false) h40) fun v41 h41 =>
 bnd (gD v41 true (aB 0 v23 h41) h41) fun v42 h42 =>
 bnd (gD v41 true (aA v42 h42) h42) fun v43 h43 =>
 bnd (gD v41 true (aD .neq v43 (aG 0) h43) h43) fun v44 h44 =>
 bnd (aQ v41 v44 (.b false) h44) fun v45 h45 =>
 bnd (gD v45 true (some (v4, h45)) h45) fun v46 h46 =>
 bnd (gD v45 true (r 13 [v46] h46) h46) fun v47 h47 =>
 bnd (gD v45 true (aD .eql v47 (aG 1) h47) h47) fun v48 h48 =>
 bnd (aQ v45 v48 (.b false) h48) fun v49 h49 =>
 bnd (gD v49 true (some (v4, h49)) h49) fun v50 h50 =>
 bnd (gD v49 true (r 15 [v50] h50) h50) fun v51 h51 =>
 bnd (gD v49 true (aD .eql v51 (aG 2) h51) h51) fun v52 h52 =>
 bnd (aQ v49 v52 (.b false) h52) fun v53 h53 =>
 some (v53, h53))))
noncomputable abbrev c9 : Code := cf Tryz.f9
noncomputable abbrev r9 : K := aV CF Tryz.f9
noncomputable def D9 (r : RT) (n : Nat) (c : Code) (X : Nat → K) (k : K) : K := aP CF r 85 n c X r9 k
theorem s9m : D9 r n c9 x0 r9 = (K0 (s9 r n)) :=
 (by kernel_rfl)
theorem dIp : aF CF r n 9 args h = s9 r n h :=
 (by kernel_rfl : aF CF r n 9 args h = D9 r n c9 x0 r9 (aJ args) h).trans ((congrFun (congrFun (s9m r n) (aJ args)) h).trans (by kernel_rfl))
noncomputable def s10 (r : RT) (n : Nat) (x0 x1 : DV) (h0 : Hp) : aH :=
 bnd (dN x1 h0) fun v1 h1 =>
 bnd (aD .lss v1 (aG 1) h1) fun v2 h2 =>
 bnd (gD v2 false (some (x1, h2)) h2) fun v3 h3 =>
 bnd (gD v2 false (dN v3 h3) h3) fun v4 h4 =>
 bnd (gD v2 false (aD .gtr v4 (aG 60) h4) h4) fun v5 h5 =>
 bnd (aQ v2 (.b true) v5 h5) fun v6 h6 =>
 aX v6 (
 some (.t [(aG 0), (aG 1)], h6)) (
 bnd (aZ x0 h6) fun v7 h7 =>
 bnd (aB 2 v7 h7) fun v8 h8 =>
 bnd (aA v8 h8) fun v9 h9 =>
 bnd (eK .string (aG 0) false v9 x1 h9) fun v10 h10 =>
 bnd (aD .neq v10 (aG 0) h10) fun v11 h11 =>
 aX v11 (
 some (.t [v10, (aG 0)], h11)) (
 bnd (r 34 [x0, (aG 11)] h11) fun v12 h12 =>
 bnd (r 43 [x0, v12, x1] h12) fun v13 h13 =>
 bnd (aC 0 v13 h13) fun v14 h14 =>
 bnd (aC 1 v13 h14) fun v15 h15 =>
 bnd (aD .neq v15 (aG 0) h15) fun v16 h16 =>
 aX v16 (
 some (.t [(aG 0), v15], h16)) (
 bnd (aZ x0 h16) fun v17 h17 =>
 bnd (aB 1 v17 h17) fun v18 h18 =>
 bnd (aA v18 h18) fun v19 h19 =>
 bnd (aE 1 v19 (aG 0) h19) fun v20 h20 =>
 bnd (aA v20 h20) fun v21 h21 =>
 bnd (r 39 [x0, v14, v21] h21) fun v22 h22 =>
 bnd (aC 0 v22 h22) fun v23 h23 =>
 bnd (aC 1 v22 h23) fun v24 h24 =>
 bnd (aD .neq v24 (aG 0) h24) fun v25 h25 =>
 aX v25 (
 some (.t [(aG 0), v24], h25)) (
 bnd (aZ x0 h25) fun v26 h26 =>
 bnd (aB 1 v26 h26) fun v27 h27 =>
 bnd (aA v27 h27) fun v28 h28 =>
 bnd (aZ x0 h28) fun v29 h29 =>
 bnd (aB 2 v29 h29) fun v30 h30 =>
 bnd (aA v30 h30) fun v31 h31 =>
 bnd (aE 1 v28 (aG 0) h31) fun v32 h32 =>
 bnd (aI 1 v32 v23 h32) fun v33 h33 =>
 bnd (fT .string (aG 0) v31 x1 h33) fun v34 h34 =>
 bnd (aC 1 v34 h34) fun v35 h35 =>
 bnd (eB v31 v35 v14 h35) fun v36 h36 =>
 some (.t [v14, (aG 0)], h36)))))
noncomputable abbrev c10 : Code := cf Tryz.f10
noncomputable abbrev r10 : K := aV CF Tryz.f10
noncomputable def D10 (r : RT) (n : Nat) (c : Code) (X : Nat → K) (k : K) : K := aP CF r 68 n c X r10 k
theorem dIq : D10 r n c10 x0 r10 = (K2 (s10 r n) 0 1) :=
 (by kernel_rfl)
theorem cNz : aF CF r n 10 args h = s10 r n (aW args 0) (aW args 1) h :=
 (by kernel_rfl : aF CF r n 10 args h = D10 r n c10 x0 r10 (aJ args) h).trans ((congrFun (congrFun (dIq r n) (aJ args)) h).trans (by kernel_rfl))
noncomputable def s11 (r : RT) (n : Nat) (x0 x1 : DV) (h0 : Hp) : aH :=
 bnd (aZ x0 h0) fun v1 h1 =>
 bnd (aB 3 v1 h1) fun v2 h2 =>
 bnd (aA v2 h2) fun v3 h3 =>
 bnd (eK .string (aG 0) false v3 x1 h3) fun v4 h4 =>
 some (v4, h4)
noncomputable abbrev c11 : Code := cf Tryz.f11
noncomputable abbrev r11 : K := aV CF Tryz.f11
noncomputable def D11 (r : RT) (n : Nat) (c : Code) (X : Nat → K) (k : K) : K := aP CF r 11 n c X r11 k
theorem dHo : D11 r n c11 x0 r11 = (K2 (s11 r n) 0 1) :=
 (by kernel_rfl)
theorem dAp : aF CF r n 11 args h = s11 r n (aW args 0) (aW args 1) h :=
 (by kernel_rfl : aF CF r n 11 args h = D11 r n c11 x0 r11 (aJ args) h).trans ((congrFun (congrFun (dHo r n) (aJ args)) h).trans (by kernel_rfl))
noncomputable def s17 (r : RT) (n : Nat) (x0 : DV) (h0 : Hp) : aH :=
 bnd (aZ x0 h0) fun v1 h1 =>
 bnd (aB 0 v1 h1) fun v2 h2 =>
 bnd (aA v2 h2) fun v3 h3 =>
 some (v3, h3)
noncomputable abbrev c17 : Code := cf Tryz.f17
noncomputable abbrev r17 : K := aV CF Tryz.f17
noncomputable def D17 (r : RT) (n : Nat) (c : Code) (X : Nat → K) (k : K) : K := aP CF r 7 n c X r17 k
theorem dIt : D17 r n c17 x0 r17 = (K1 (s17 r n) 0) :=
 (by kernel_rfl)
theorem cOl : aF CF r n 17 args h = s17 r n (aW args 0) h :=
 (by kernel_rfl : aF CF r n 17 args h = D17 r n c17 x0 r17 (aJ args) h).trans ((congrFun (congrFun (dIt r n) (aJ args)) h).trans (by kernel_rfl))
noncomputable def gS (r : RT) (n : Nat) (x1 x5 : DV) (h0 : Hp) : aH :=
 bnd (aD .gtr x5 x1 h0) fun v1 h1 =>
 aX v1 (
 some ((.i .i64 (Int.negSucc 0)), h1)) (
 some (x5, h1))
noncomputable def kA (r : RT) (n : Nat) (kk5 : bZ) (x1 x2 x5 x6 : DV) (h0 : Hp) : aH :=
 bnd (aB 3 x2 h0) fun v1 h1 =>
 bnd (aA v1 h1) fun v2 h2 =>
 bnd (cB v2 h2) fun v3 h3 =>
 bnd (aD .lss x6 v3 h3) fun v4 h4 =>
 aX v4 (
 bnd (aD .geq x5 x1 h4) fun v5 h5 =>
 aX v5 (
 some ((.i .i64 (Int.negSucc 0)), h5)) (
 bnd (aB 3 x2 h5) fun v6 h6 =>
 bnd (aA v6 h6) fun v7 h7 =>
 bnd (aE 4 v7 x6 h7) fun v8 h8 =>
 bnd (aK 4 v8 h8) fun v9 h9 =>
 bnd (aD .sub x1 x5 h9) fun v10 h10 =>
 bnd (r 24 [v9, v10] h10) fun v11 h11 =>
 bnd (aD .lss v11 (aG 0) h11) fun v12 h12 =>
 aX v12 (
 some ((.i .i64 (Int.negSucc 0)), h12)) (
 bnd (aD .add x5 v11 h12) fun v13 h13 =>
 bnd (aD .add x6 (aG 1) h13) fun v14 h14 =>
     kk5 x1 x2 v13 v14 h14))) (
      gS r n x1 x5 h4)
noncomputable def fA (r : RT) (n : Nat) (m : Nat) : bZ :=
 Nat.rec (motive := fun _ => bZ) (fun _ _ _ _ _ => none) (fun _ ih => kA r n ih) m
noncomputable def cOy (r : RT) (n : Nat) : bZ := fA r n n
noncomputable def bQb (r : RT) (n : Nat) (x1 x2 x5 x6 : DV) (h0 : Hp) : aH :=
 cOy r n x1 x2 x5 x6 h0
noncomputable def bKe (r : RT) (n : Nat) (x1 x2 x5 : DV) (h0 : Hp) : aH :=
 bQb r n x1 x2 x5 (aG 0) h0
noncomputable def aLt (r : RT) (n : Nat) (x1 x2 : DV) (h0 : Hp) : aH :=
 bKe r n x1 x2 (aG 1) h0
noncomputable def s24 (r : RT) (n : Nat) (x0 x1 : DV) (h0 : Hp) : aH :=
 bnd (bU x0 h0) fun v1 h1 =>
  aLt r n x1 v1 h1
noncomputable abbrev c24 : Code := cf Tryz.f24
noncomputable abbrev aVi : Code := cR c24
noncomputable abbrev aYl : Code := cR aVi
noncomputable abbrev dBs : Code := cR aYl
noncomputable abbrev aLy : Code := cL aYl
noncomputable abbrev bQa : Code := cR aLy
noncomputable abbrev aYt : Code := cL bQa
noncomputable abbrev wP : Code := cL aYt
noncomputable abbrev cNo : Code := cL aLy
noncomputable abbrev cNh : Code := cL aVi
noncomputable abbrev aQb : Code := cL c24
noncomputable abbrev r24 : K := aV CF Tryz.f24
noncomputable def D24 (r : RT) (n : Nat) (c : Code) (X : Nat → K) (k : K) : K := aP CF r 36 n c X r24 k
theorem cPn : D24 r n dBs x0 r24 = (K2 (gS r n) 1 5) :=
 (by kernel_rfl)
theorem cJa (kk5 : bZ) : D24 r n wP (xs x0 0 (K2 (gS r n) 1 5)) (K4 kk5 1 2 5 6) = (K4 (kA r n kk5) 1 2 5 6) :=
 (by kernel_rfl)
theorem bZn (m : Nat) : aM (fun kk => D24 r n wP (xs x0 0 (K2 (gS r n) 1 5)) kk) m = (K4 (fA r n m) 1 2 5 6) := by
 induction m with
 | zero => exact (by kernel_rfl : aM (fun kk => D24 r n wP (xs x0 0 (K2 (gS r n) 1 5)) kk) 0 = (K4 (fA r n 0) 1 2 5 6))
 | succ m ih =>
  refine (by kernel_rfl : aM (fun kk => D24 r n wP (xs x0 0 (K2 (gS r n) 1 5)) kk) (m + 1) = D24 r n wP (xs x0 0 (K2 (gS r n) 1 5)) (aM (fun kk => D24 r n wP (xs x0 0 (K2 (gS r n) 1 5)) kk) m)).trans ?_
  rw [ih]
  exact (cJa r n (fA r n m)).trans (by kernel_rfl)
theorem cYg : D24 r n aYt (xs x0 0 (K2 (gS r n) 1 5)) (K2 (gS r n) 1 5) = (K4 (cOy r n) 1 2 5 6) :=
 (by kernel_rfl : D24 r n aYt (xs x0 0 (K2 (gS r n) 1 5)) (K2 (gS r n) 1 5) = aM (fun kk => D24 r n wP (xs x0 0 (K2 (gS r n) 1 5)) kk) n).trans ((bZn r n n).trans (by kernel_rfl))
theorem cVm : D24 r n bQa x0 (K2 (gS r n) 1 5) = (K4 (bQb r n) 1 2 5 6) :=
 (by kernel_rfl : D24 r n bQa x0 (K2 (gS r n) 1 5) = D24 r n aYt (xs x0 0 (K2 (gS r n) 1 5)) (K2 (gS r n) 1 5)).trans
 ((cYg r n).trans (by kernel_rfl))
theorem cGz : D24 r n aYl x0 r24 = D24 r n aLy x0 (K2 (gS r n) 1 5) :=
 congrArg (fun k => D24 r n aLy x0 k) (cPn r n)
theorem cHl : D24 r n aLy x0 (K2 (gS r n) 1 5) = D24 r n cNo x0 (K4 (bQb r n) 1 2 5 6) :=
 congrArg (fun k => D24 r n cNo x0 k) (cVm r n)
theorem cYx : D24 r n aYl x0 r24 = (K3 (bKe r n) 1 2 5) :=
 (cGz r n).trans
 ((cHl r n).trans
 ((by kernel_rfl)))
theorem cCm : D24 r n aVi x0 r24 = D24 r n cNh x0 (K3 (bKe r n) 1 2 5) :=
 congrArg (fun k => D24 r n cNh x0 k) (cYx r n)
theorem cVo : D24 r n aVi x0 r24 = (K2 (aLt r n) 1 2) :=
 (cCm r n).trans
 ((by kernel_rfl))
theorem dCu : D24 r n c24 x0 r24 = D24 r n aQb x0 (K2 (aLt r n) 1 2) :=
 congrArg (fun k => D24 r n aQb x0 k) (cVo r n)
theorem dCs (q0 : tS) : D24 r n aQb x0 (K2 q0 1 2) = fun (env : bA) (h : Hp) =>
 bnd (bU (env 0) h) fun v1 h1 =>
  q0 (env 1) v1 h1 := by kernel_rfl
theorem cYr : (fun (env : bA) (h : Hp) =>
 bnd (bU (env 0) h) fun v1 h1 =>
  aLt r n (env 1) v1 h1) = (K2 (s24 r n) 0 1) := by kernel_rfl
theorem dMr : D24 r n c24 x0 r24 = (K2 (s24 r n) 0 1) :=
 (dCu r n).trans
 ((dCs r n (aLt r n)).trans (cYr r n))
theorem cMo : aF CF r n 24 args h = s24 r n (aW args 0) (aW args 1) h :=
 (by kernel_rfl : aF CF r n 24 args h = D24 r n c24 x0 r24 (aJ args) h).trans ((congrFun (congrFun (dMr r n) (aJ args)) h).trans (by kernel_rfl))
noncomputable def s25 (r : RT) (n : Nat) (h0 : Hp) : aH :=
 bnd (r 7 [(.i .i64 (Int.ofNat 20000))] h0) fun v1 h1 =>
 bnd (aC 0 v1 h1) fun v2 h2 =>
 bnd (aC 1 v1 h2) fun v3 h3 =>
 bnd (pEq (.pointer 77) true v2 .p0 h3) fun v4 h4 =>
 bnd (gD v4 false (some (v3, h4)) h4) fun v5 h5 =>
 bnd (gD v4 false (aD .neq v5 (.i .i64 (Int.ofNat 0)) h5) h5) fun v6 h6 =>
 bnd (aQ v4 (.b true) v6 h6) fun v7 h7 =>
 aX v7 (
 some ((.b false), h7)) (
 bnd (aN [(.s []), (.s [])] 2 [(0, 1, (.s [120])), (1, 1, (.s [121]))] h7) fun v8 h8 =>
 bnd (r 57 [v2, (.s [80, 111, 105, 110, 116]), (.s [79, 98, 106, 101, 99, 116]), v8] h8) fun v9 h9 =>
 bnd (aC 0 v9 h9) fun v10 h10 =>
 bnd (aC 1 v9 h10) fun v11 h11 =>
 bnd (r 58 [v2, v10] h11) fun v12 h12 =>
 bnd (r 41 [v2, (.s [80, 111, 105, 110, 116]), (.s [120, 32, 94, 120])] h12) fun v13 h13 =>
 bnd (aC 0 v13 h13) fun v14 h14 =>
 bnd (aC 1 v13 h14) fun v15 h15 =>
 bnd (aC 2 v13 h15) fun v16 h16 =>
 bnd (aC 3 v13 h16) fun v17 h17 =>
 bnd (r 59 [v2, v14] h17) fun v18 h18 =>
 bnd (aC 0 v18 h18) fun v19 h19 =>
 bnd (aC 1 v18 h19) fun v20 h20 =>
 bnd (bY [(.s []), (.i .i64 (Int.ofNat 0)), (.i .i64 (Int.ofNat 0)), (.i .i64 (Int.ofNat 0)), .l0, .l0] h20) fun v21 h21 =>
 bnd (aI 6 v21 v19 h21) fun _ h22 =>
 bnd (r 60 [v2, (.i .i64 (Int.ofNat 1073741824))] h22) fun v23 h23 =>
 bnd (aC 0 v23 h23) fun v24 h24 =>
 bnd (aC 1 v23 h24) fun v25 h25 =>
 bnd (r 11 [v2, (.s [73, 110, 116, 101, 103, 101, 114])] h25) fun v26 h26 =>
 bnd (r 61 [v2, v26] h26) fun v27 h27 =>
 bnd (gC .eql v27 (.s [73, 110, 116, 101, 103, 101, 114]) h27) fun v28 h28 =>
 bnd (gD v28 true (some (v11, h28)) h28) fun v29 h29 =>
 bnd (gD v28 true (aD .eql v29 (.i .i64 (Int.ofNat 0)) h29) h29) fun v30 h30 =>
 bnd (aQ v28 v30 (.b false) h30) fun v31 h31 =>
 bnd (gD v31 true (some (v12, h31)) h31) fun v32 h32 =>
 bnd (gD v31 true (cB v32 h32) h32) fun v33 h33 =>
 bnd (gD v31 true (aD .eql v33 (.i .i64 (Int.ofNat 2)) h33) h33) fun v34 h34 =>
 bnd (aQ v31 v34 (.b false) h34) fun v35 h35 =>
 bnd (gD v35 true (some (v12, h35)) h35) fun v36 h36 =>
 bnd (gD v35 true (aE 1 v36 (.i .i64 (Int.ofNat 1)) h36) h36) fun v37 h37 =>
 bnd (gD v35 true (aA v37 h37) h37) fun v38 h38 =>
 bnd (gD v35 true (gC .eql v38 (.s [121]) h38) h38) fun v39 h39 =>
 bnd (aQ v35 v39 (.b false) h39) fun v40 h40 =>
 bnd (gD v40 true (some (v17, h40)) h40) fun v41 h41 =>
 bnd (gD v40 true (aD .eql v41 (.i .i64 (Int.ofNat 0)) h41) h41) fun v42 h42 =>
 bnd (aQ v40 v42 (.b false) h42) fun v43 h43 =>
 bnd (gD v43 true (some (v20, h43)) h43) fun v44 h44 =>
 bnd (aQ v43 v44 (.b false) h44) fun v45 h45 =>
 bnd (gD v45 true (aB 5 v21 h45) h45) fun v46 h46 =>
 bnd (gD v45 true (aA v46 h46) h46) fun v47 h47 =>
 bnd (gD v45 true (r 62 [v47] h47) h47) fun v48 h48 =>
 bnd (gD v45 true (gC .eql v48 (.s [105, 118, 97, 114, 32, 48, 10, 114, 101, 116, 117, 114, 110, 10]) h48) h48) fun v49 h49 =>
 bnd (aQ v45 v49 (.b false) h49) fun v50 h50 =>
 bnd (gD v50 true (some (v25, h50)) h50) fun v51 h51 =>
 bnd (gD v50 true (aD .eql v51 (.i .i64 (Int.ofNat 0)) h51) h51) fun v52 h52 =>
 bnd (aQ v50 v52 (.b false) h52) fun v53 h53 =>
 bnd (gD v53 true (some (v2, h53)) h53) fun v54 h54 =>
 bnd (gD v53 true (some (v24, h54)) h54) fun v55 h55 =>
 bnd (gD v53 true (r 56 [v54, v55] h55) h55) fun v56 h56 =>
 bnd (gD v53 true (some (v2, h56)) h56) fun v57 h57 =>
 bnd (gD v53 true (r 11 [v57, (.s [76, 97, 114, 103, 101, 73, 110, 116, 101, 103, 101, 114])] h57) h57) fun v58 h58 =>
 bnd (gD v53 true (aD .eql v56 v58 h58) h58) fun v59 h59 =>
 bnd (aQ v53 v59 (.b false) h59) fun v60 h60 =>
 some (v60, h60))
noncomputable abbrev c25 : Code := cf Tryz.f25
noncomputable abbrev r25 : K := aV CF Tryz.f25
noncomputable def D25 (r : RT) (n : Nat) (c : Code) (X : Nat → K) (k : K) : K := aP CF r 96 n c X r25 k
theorem dId : D25 r n c25 x0 r25 = (K0 (s25 r n)) :=
 (by kernel_rfl)
theorem cOu : aF CF r n 25 args h = s25 r n h :=
 (by kernel_rfl : aF CF r n 25 args h = D25 r n c25 x0 r25 (aJ args) h).trans ((congrFun (congrFun (dId r n) (aJ args)) h).trans (by kernel_rfl))
noncomputable def s26 (r : RT) (n : Nat) (x0 x1 : DV) (h0 : Hp) : aH :=
 bnd (bU x1 h0) fun v1 h1 =>
 bnd (aK 4 v1 h1) fun v2 h2 =>
 bnd (aN [(aG 0), (.s []), (aG 0), .l0] 1 [(0, 4, v2)] h2) fun v3 h3 =>
 bnd (bE [(aG 0), (aG 0), (aG 0)] [(0, 1, (aG 2))] h3) fun v4 h4 =>
 bnd (bE [(aG 0), (aG 0), (aG 0)] [(0, 1, (aG 20))] h4) fun v5 h5 =>
 bnd (aN [(aG 0), (aG 0), (aG 0), (aG 0), (aG 0), (aG 0)] 2 [(0, 3, v4), (3, 3, v5)] h5) fun v6 h6 =>
 bnd (bE [(.s []), (aG 0), (aG 0), (aG 0), .l0, .l0] [(0, 1, (.s [120])), (4, 1, v3), (5, 1, v6)] h6) fun v7 h7 =>
 bnd (bY [(.s []), (aG 0), (aG 0), (aG 0), .l0, .l0] h7) fun v8 h8 =>
 bnd (aI 6 v8 v7 h8) fun _ h9 =>
 bnd (aK 6 v8 h9) fun v10 h10 =>
 bnd (r 63 [v10, (aG 0)] h10) fun v11 h11 =>
 bnd (aD .neq v11 (aG 0) h11) fun v12 h12 =>
 aX v12 (
 some (.t [(aG 0), (aG 1)], h12)) (
 bnd (aK 4 v1 h12) fun v13 h13 =>
 bnd (r 64 [x0, v13] h13) fun v14 h14 =>
 bnd (aC 0 v14 h14) fun v15 h15 =>
 bnd (aC 1 v14 h15) fun v16 h16 =>
 some (.t [v15, v16], h16))
noncomputable abbrev c26 : Code := cf Tryz.f26
noncomputable abbrev r26 : K := aV CF Tryz.f26
noncomputable def D26 (r : RT) (n : Nat) (c : Code) (X : Nat → K) (k : K) : K := aP CF r 21 n c X r26 k
theorem dHq : D26 r n c26 x0 r26 = (K2 (s26 r n) 0 1) :=
 (by kernel_rfl)
theorem cMp : aF CF r n 26 args h = s26 r n (aW args 0) (aW args 1) h :=
 (by kernel_rfl : aF CF r n 26 args h = D26 r n c26 x0 r26 (aJ args) h).trans ((congrFun (congrFun (dHq r n) (aJ args)) h).trans (by kernel_rfl))
end Go.Dd

namespace Go.Dd
open Go.Proofs
variable (r : RT) (n : Nat) (args : List DV) (h : Hp)
noncomputable def aR (r : RT) (n : Nat) (x9 : DV) (h0 : Hp) : aH :=
 some (.t [x9, (aG 0)], h0)
noncomputable def aT (r : RT) (n : Nat) (kk12 : bZ) (kk16 : bT) (x7 x8 x9 x12 x13 : DV) (h0 : Hp) : aH :=
 bnd (aD .add x13 (aG 1) h0) fun v1 h1 =>
  kk16 x7 x8 x9 x12 v1 h1
noncomputable def aCb (r : RT) (n : Nat) (kk12 : bZ) (kk16 : bT) (kk29 : TT8) (x7 x8 x9 x12 x13 x15 x16 x18 : DV) (h0 : Hp) : aH :=
 bnd (aD .add x18 (aG 1) h0) fun v1 h1 =>
  kk29 x7 x8 x9 x12 x13 x15 x16 v1 h1
noncomputable def aSo (r : RT) (n : Nat) (kk12 : bZ) (kk16 : bT) (kk29 : TT8) (x7 x8 x9 x12 x13 x15 x16 x18 : DV) (h0 : Hp) : aH :=
 bnd (aE 1 x16 x18 h0) fun v1 h1 =>
 bnd (aA v1 h1) fun v2 h2 =>
 bnd (cB x7 h2) fun v3 h3 =>
 bnd (aD .geq v2 v3 h3) fun v4 h4 =>
 bnd (gD v4 false (some (x8, h4)) h4) fun v5 h5 =>
 bnd (gD v4 false (some (x16, h5)) h5) fun v6 h6 =>
 bnd (gD v4 false (some (x18, h6)) h6) fun v7 h7 =>
 bnd (gD v4 false (aE 1 v6 v7 h7) h7) fun v8 h8 =>
 bnd (gD v4 false (aA v8 h8) h8) fun v9 h9 =>
 bnd (gD v4 false (aE 1 v5 v9 h9) h9) fun v10 h10 =>
 bnd (gD v4 false (aA v10 h10) h10) fun v11 h11 =>
 bnd (gD v4 false (some (x8, h11)) h11) fun v12 h12 =>
 bnd (gD v4 false (some (x13, h12)) h12) fun v13 h13 =>
 bnd (gD v4 false (aE 1 v12 v13 h13) h13) fun v14 h14 =>
 bnd (gD v4 false (aA v14 h14) h14) fun v15 h15 =>
 bnd (gD v4 false (aD .neq v11 v15 h15) h15) fun v16 h16 =>
 bnd (aQ v4 (.b true) v16 h16) fun v17 h17 =>
 bnd (gD v17 false (some (x9, h17)) h17) fun v18 h18 =>
 bnd (gD v17 false (some (x16, h18)) h18) fun v19 h19 =>
 bnd (gD v17 false (some (x18, h19)) h19) fun v20 h20 =>
 bnd (gD v17 false (aE 1 v19 v20 h20) h20) fun v21 h21 =>
 bnd (gD v17 false (aA v21 h21) h21) fun v22 h22 =>
 bnd (gD v17 false (aE 1 v18 v22 h22) h22) fun v23 h23 =>
 bnd (gD v17 false (aA v23 h23) h23) fun v24 h24 =>
 bnd (gD v17 false (aD .geq v24 (aG 0) h24) h24) fun v25 h25 =>
 bnd (gD v17 false (some (v25, h25)) h25) fun v26 h26 =>
 bnd (gD v26 true (some (x9, h26)) h26) fun v27 h27 =>
 bnd (gD v26 true (some (x16, h27)) h27) fun v28 h28 =>
 bnd (gD v26 true (some (x18, h28)) h28) fun v29 h29 =>
 bnd (gD v26 true (aE 1 v28 v29 h29) h29) fun v30 h30 =>
 bnd (gD v26 true (aA v30 h30) h30) fun v31 h31 =>
 bnd (gD v26 true (aE 1 v27 v31 h31) h31) fun v32 h32 =>
 bnd (gD v26 true (aA v32 h32) h32) fun v33 h33 =>
 bnd (gD v26 true (some (x15, h33)) h33) fun v34 h34 =>
 bnd (gD v26 true (aD .neq v33 v34 h34) h34) fun v35 h35 =>
 bnd (gD v17 false (aQ v26 v35 (.b false) h35) h35) fun v36 h36 =>
 bnd (aQ v17 (.b true) v36 h36) fun v37 h37 =>
 aX v37 (
 some (.t [.l0, (aG 19)], h37)) (
 bnd (aE 1 x16 x18 h37) fun v38 h38 =>
 bnd (aA v38 h38) fun v39 h39 =>
 bnd (aE 1 x9 v39 h39) fun v40 h40 =>
 bnd (aA v40 h40) fun v41 h41 =>
 bnd (aD .lss v41 (aG 0) h41) fun v42 h42 =>
 aX v42 (
 bnd (aE 1 x16 x18 h42) fun v43 h43 =>
 bnd (aA v43 h43) fun v44 h44 =>
 bnd (aE 1 x9 v44 h44) fun v45 h45 =>
 bnd (aI 1 v45 x15 h45) fun _ h46 =>
      aCb r n kk12 kk16 kk29 x7 x8 x9 (.b true) x13 x15 x16 x18 h46) (
      aCb r n kk12 kk16 kk29 x7 x8 x9 x12 x13 x15 x16 x18 h42))
noncomputable def aYa (r : RT) (n : Nat) (kk12 : bZ) (kk16 : bT) (kk29 : TT8) (x7 x8 x9 x12 x13 x15 x16 x18 : DV) (h0 : Hp) : aH :=
 bnd (cB x16 h0) fun v1 h1 =>
 bnd (aD .lss x18 v1 h1) fun v2 h2 =>
 aX v2 (
   aSo r n kk12 kk16 kk29 x7 x8 x9 x12 x13 x15 x16 x18 h2) (
   aT r n kk12 kk16 x7 x8 x9 x12 x13 h2)
noncomputable def uV (r : RT) (n : Nat) (kk12 : bZ) (kk16 : bT) (m : Nat) : TT8 :=
 Nat.rec (motive := fun _ => TT8) (fun _ _ _ _ _ _ _ _ _ => none) (fun _ ih => aYa r n kk12 kk16 ih) m
noncomputable def bIl (r : RT) (n : Nat) (kk12 : bZ) (kk16 : bT) : TT8 := uV r n kk12 kk16 n
noncomputable def aOu (r : RT) (n : Nat) (kk12 : bZ) (kk16 : bT) (x7 x8 x9 x12 x13 x15 x16 x18 : DV) (h0 : Hp) : aH :=
 bIl r n kk12 kk16 x7 x8 x9 x12 x13 x15 x16 x18 h0
noncomputable def oR (r : RT) (n : Nat) (kk12 : bZ) (kk16 : bT) (x7 x8 x9 x12 x13 x15 x16 : DV) (h0 : Hp) : aH :=
 aOu r n kk12 kk16 x7 x8 x9 x12 x13 x15 x16 (aG 0) h0
noncomputable def aCa (r : RT) (n : Nat) (kk12 : bZ) (kk16 : bT) (x7 x8 x9 x12 x13 x15 x16 x17 : DV) (h0 : Hp) : aH :=
 bnd (aD .geq x17 (aG 0) h0) fun v1 h1 =>
 aX v1 (
 bnd (aN [(aG 0)] 1 [(0, 1, x17)] h1) fun v2 h2 =>
 bnd (aY 1 8 x16 v2 h2) fun v3 h3 =>
  oR r n kk12 kk16 x7 x8 x9 x12 x13 x15 v3 h3) (
  oR r n kk12 kk16 x7 x8 x9 x12 x13 x15 x16 h1)
noncomputable def oZ (r : RT) (n : Nat) (kk12 : bZ) (kk16 : bT) (x7 x8 x9 x12 x13 x14 x15 x16 : DV) (h0 : Hp) : aH :=
 bnd (aK 3 x14 h0) fun v1 h1 =>
 bnd (r 70 [v1] h1) fun v2 h2 =>
  aCa r n kk12 kk16 x7 x8 x9 x12 x13 x15 x16 v2 h2
noncomputable def aCn (r : RT) (n : Nat) (kk12 : bZ) (kk16 : bT) (x7 x8 x9 x12 x13 x14 x15 x16 : DV) (h0 : Hp) : aH :=
 bnd (aB 0 x14 h0) fun v1 h1 =>
 bnd (aA v1 h1) fun v2 h2 =>
 bnd (aD .neq v2 (aG 16) h2) fun v3 h3 =>
 bnd (gD v3 true (aB 0 x14 h3) h3) fun v4 h4 =>
 bnd (gD v3 true (aA v4 h4) h4) fun v5 h5 =>
 bnd (gD v3 true (aD .neq v5 (aG 19) h5) h5) fun v6 h6 =>
 bnd (aQ v3 v6 (.b false) h6) fun v7 h7 =>
 bnd (gD v7 true (aB 0 x14 h7) h7) fun v8 h8 =>
 bnd (gD v7 true (aA v8 h8) h8) fun v9 h9 =>
 bnd (gD v7 true (aD .neq v9 (aG 20) h9) h9) fun v10 h10 =>
 bnd (aQ v7 v10 (.b false) h10) fun v11 h11 =>
 aX v11 (
 bnd (aD .add x13 (aG 1) h11) fun v12 h12 =>
 bnd (aN [(aG 0)] 1 [(0, 1, v12)] h12) fun v13 h13 =>
 bnd (aY 1 8 x16 v13 h13) fun v14 h14 =>
  oZ r n kk12 kk16 x7 x8 x9 x12 x13 x14 x15 v14 h14) (
  oZ r n kk12 kk16 x7 x8 x9 x12 x13 x14 x15 x16 h11)
noncomputable def aPn (r : RT) (n : Nat) (kk12 : bZ) (kk16 : bT) (x7 x8 x9 x12 x13 x14 x15 : DV) (h0 : Hp) : aH :=
 aCn r n kk12 kk16 x7 x8 x9 x12 x13 x14 x15 .l0 h0
noncomputable def aOx (r : RT) (n : Nat) (kk12 : bZ) (kk16 : bT) (x7 x8 x9 x12 x13 x14 x15 : DV) (h0 : Hp) : aH :=
 bnd (aB 0 x14 h0) fun v1 h1 =>
 bnd (aA v1 h1) fun v2 h2 =>
 bnd (aD .eql v2 (aG 19) h2) fun v3 h3 =>
 bnd (gD v3 true (some (x9, h3)) h3) fun v4 h4 =>
 bnd (gD v3 true (some (x13, h4)) h4) fun v5 h5 =>
 bnd (gD v3 true (aE 1 v4 v5 h5) h5) fun v6 h6 =>
 bnd (gD v3 true (aA v6 h6) h6) fun v7 h7 =>
 bnd (gD v3 true (aD .neq v7 (aG 1) h7) h7) fun v8 h8 =>
 bnd (gD v3 true (some (v8, h8)) h8) fun v9 h9 =>
 bnd (gD v9 false (some (x8, h9)) h9) fun v10 h10 =>
 bnd (gD v9 false (some (x13, h10)) h10) fun v11 h11 =>
 bnd (gD v9 false (aE 1 v10 v11 h11) h11) fun v12 h12 =>
 bnd (gD v9 false (aA v12 h12) h12) fun v13 h13 =>
 bnd (gD v9 false (aD .lss v13 (aG 0) h13) h13) fun v14 h14 =>
 bnd (gD v3 true (aQ v9 (.b true) v14 h14) h14) fun v15 h15 =>
 bnd (aQ v3 v15 (.b false) h15) fun v16 h16 =>
 aX v16 (
 some (.t [.l0, (aG 19)], h16)) (
  aPn r n kk12 kk16 x7 x8 x9 x12 x13 x14 x15 h16)
noncomputable def aRl (r : RT) (n : Nat) (kk12 : bZ) (kk16 : bT) (x7 x8 x9 x12 x13 x14 x15 : DV) (h0 : Hp) : aH :=
 bnd (aE 1 x9 x13 h0) fun v1 h1 =>
 bnd (aA v1 h1) fun v2 h2 =>
 bnd (aK 3 x14 h2) fun v3 h3 =>
 bnd (r 69 [v3] h3) fun v4 h4 =>
 cnd (bM (aA v1 h4) v2 && true) (
 bnd (aD .lss v2 v4 h4) fun v5 h5 =>
 bnd (gD v5 false (some (x15, h5)) h5) fun v6 h6 =>
 bnd (gD v5 false (aD .gtr v6 (aG 24) h6) h6) fun v7 h7 =>
 bnd (aQ v5 (.b true) v7 h7) fun v8 h8 =>
 aX v8 (
 some (.t [.l0, (aG 19)], h8)) (
  aOx r n kk12 kk16 x7 x8 x9 x12 x13 x14 x15 h8))
noncomputable def yE (r : RT) (n : Nat) (kk12 : bZ) (kk16 : bT) (x7 x8 x9 x12 x13 x14 : DV) (h0 : Hp) : aH :=
 bnd (aE 1 x9 x13 h0) fun v1 h1 =>
 bnd (aA v1 h1) fun v2 h2 =>
 bnd (aK 3 x14 h2) fun v3 h3 =>
 bnd (r 68 [v3] h3) fun v4 h4 =>
 cnd (bM (aA v1 h4) v2 && true) (
 bnd (aD .add v2 v4 h4) fun v5 h5 =>
  aRl r n kk12 kk16 x7 x8 x9 x12 x13 x14 v5 h5)
noncomputable def aDy (r : RT) (n : Nat) (kk12 : bZ) (kk16 : bT) (x7 x8 x9 x12 x13 : DV) (h0 : Hp) : aH :=
 bnd (aE 3 x7 x13 h0) fun v1 h1 =>
 bnd (aK 3 v1 h1) fun v2 h2 =>
 bnd (bY [(aG 0), (aG 0), (aG 0)] h2) fun v3 h3 =>
 bnd (aI 3 v3 v2 h3) fun _ h4 =>
  yE r n kk12 kk16 x7 x8 x9 x12 x13 v3 h4
noncomputable def aSq (r : RT) (n : Nat) (kk12 : bZ) (kk16 : bT) (x7 x8 x9 x12 x13 : DV) (h0 : Hp) : aH :=
 bnd (aE 1 x9 x13 h0) fun v1 h1 =>
 bnd (aA v1 h1) fun v2 h2 =>
 bnd (aD .lss v2 (aG 0) h2) fun v3 h3 =>
 aX v3 (
  aT r n kk12 kk16 x7 x8 x9 x12 x13 h3) (
  aDy r n kk12 kk16 x7 x8 x9 x12 x13 h3)
noncomputable def aUv (r : RT) (n : Nat) (kk12 : bZ) (kk16 : bT) (x7 x8 x9 x12 x13 : DV) (h0 : Hp) : aH :=
 bnd (cB x7 h0) fun v1 h1 =>
 bnd (aD .lss x13 v1 h1) fun v2 h2 =>
 aX v2 (
   aSq r n kk12 kk16 x7 x8 x9 x12 x13 h2) (
   kk12 x7 x8 x9 x12 h2)
noncomputable def vI (r : RT) (n : Nat) (kk12 : bZ) (m : Nat) : bT :=
 Nat.rec (motive := fun _ => bT) (fun _ _ _ _ _ _ => none) (fun _ ih => aUv r n kk12 ih) m
noncomputable def bMg (r : RT) (n : Nat) (kk12 : bZ) : bT := vI r n kk12 n
noncomputable def aNc (r : RT) (n : Nat) (kk12 : bZ) (x7 x8 x9 x12 x13 : DV) (h0 : Hp) : aH :=
 bMg r n kk12 x7 x8 x9 x12 x13 h0
noncomputable def aSs (r : RT) (n : Nat) (kk12 : bZ) (x7 x8 x9 x12 : DV) (h0 : Hp) : aH :=
 aNc r n kk12 x7 x8 x9 x12 (aG 0) h0
noncomputable def aNr (r : RT) (n : Nat) (kk12 : bZ) (x7 x8 x9 : DV) (h0 : Hp) : aH :=
 aSs r n kk12 x7 x8 x9 (.b false) h0
noncomputable def aWk (r : RT) (n : Nat) (kk12 : bZ) (x7 x8 x9 x12 : DV) (h0 : Hp) : aH :=
 aX x12 (
   aNr r n kk12 x7 x8 x9 h0) (
   aR r n x9 h0)
noncomputable def vA (r : RT) (n : Nat) (m : Nat) : bZ :=
 Nat.rec (motive := fun _ => bZ) (fun _ _ _ _ _ => none) (fun _ ih => aWk r n ih) m
noncomputable def bTy (r : RT) (n : Nat) : bZ := vA r n n
noncomputable def aPa (r : RT) (n : Nat) (x7 x8 x9 x12 : DV) (h0 : Hp) : aH :=
 bTy r n x7 x8 x9 x12 h0
noncomputable def dA (r : RT) (n : Nat) (x7 x8 x9 : DV) (h0 : Hp) : aH :=
 aPa r n x7 x8 x9 (.b true) h0
noncomputable def eM (r : RT) (n : Nat) (kk33 : bZ) (x7 x8 x9 x10 : DV) (h0 : Hp) : aH :=
 bnd (aD .add x10 (aG 1) h0) fun v1 h1 =>
  kk33 x7 x8 x9 v1 h1
noncomputable def wC (r : RT) (n : Nat) (kk33 : bZ) (x7 x8 x9 x10 x11 : DV) (h0 : Hp) : aH :=
 bnd (aN [(aG 0)] 1 [(0, 1, x11)] h0) fun v1 h1 =>
 bnd (aY 1 8 x9 v1 h1) fun v2 h2 =>
  eM r n kk33 x7 x8 v2 x10 h2
noncomputable def aQt (r : RT) (n : Nat) (kk33 : bZ) (x7 x8 x9 x10 x11 : DV) (h0 : Hp) : aH :=
 bnd (aD .eql x10 (aG 0) h0) fun v1 h1 =>
 bnd (gD v1 false (some (x10, h1)) h1) fun v2 h2 =>
 bnd (gD v1 false (aD .geq v2 (aG 2) h2) h2) fun v3 h3 =>
 bnd (gD v1 false (some (v3, h3)) h3) fun v4 h4 =>
 bnd (gD v4 true (some (x7, h4)) h4) fun v5 h5 =>
 bnd (gD v4 true (some (x10, h5)) h5) fun v6 h6 =>
 bnd (gD v4 true (aD .sub v6 (aG 2) h6) h6) fun v7 h7 =>
 bnd (gD v4 true (aE 3 v5 v7 h7) h7) fun v8 h8 =>
 bnd (gD v4 true (aB 0 v8 h8) h8) fun v9 h9 =>
 bnd (gD v4 true (aA v9 h9) h9) fun v10 h10 =>
 bnd (gD v4 true (aD .eql v10 (aG 18) h10) h10) fun v11 h11 =>
 bnd (gD v1 false (aQ v4 v11 (.b false) h11) h11) fun v12 h12 =>
 bnd (aQ v1 (.b true) v12 h12) fun v13 h13 =>
 aX v13 (
  wC r n kk33 x7 x8 x9 x10 (aG 0) h13) (
  wC r n kk33 x7 x8 x9 x10 x11 h13)
noncomputable def aSm (r : RT) (n : Nat) (kk33 : bZ) (x7 x8 x9 x10 : DV) (h0 : Hp) : aH :=
 aQt r n kk33 x7 x8 x9 x10 (.i .i64 (Int.negSucc 0)) h0
noncomputable def bAr (r : RT) (n : Nat) (kk33 : bZ) (x7 x8 x9 x10 : DV) (h0 : Hp) : aH :=
 bnd (cB x7 h0) fun v1 h1 =>
 bnd (aD .lss x10 v1 h1) fun v2 h2 =>
 aX v2 (
   aSm r n kk33 x7 x8 x9 x10 h2) (
   dA r n x7 x8 x9 h2)
noncomputable def tX (r : RT) (n : Nat) (m : Nat) : bZ :=
 Nat.rec (motive := fun _ => bZ) (fun _ _ _ _ _ => none) (fun _ ih => bAr r n ih) m
noncomputable def bXu (r : RT) (n : Nat) : bZ := tX r n n
noncomputable def aOl (r : RT) (n : Nat) (x7 x8 x9 x10 : DV) (h0 : Hp) : aH :=
 bXu r n x7 x8 x9 x10 h0
noncomputable def bUd (r : RT) (n : Nat) (x7 x8 x9 : DV) (h0 : Hp) : aH :=
 aOl r n x7 x8 x9 (aG 0) h0
noncomputable def bKb (r : RT) (n : Nat) (x7 x8 : DV) (h0 : Hp) : aH :=
 bUd r n x7 x8 .l0 h0
noncomputable def bTt (r : RT) (n : Nat) (x6 x7 x8 : DV) (h0 : Hp) : aH :=
 bnd (jE .not x6 h0) fun v1 h1 =>
 aX v1 (
 some (.t [.l0, (aG 19)], h1)) (
  bKb r n x7 x8 h1)
noncomputable def bQz (r : RT) (n : Nat) (x7 x8 : DV) (h0 : Hp) : aH :=
 bnd (r 67 [x7, x8] h0) fun v1 h1 =>
  bTt r n v1 x7 x8 h1
noncomputable def bMa (r : RT) (n : Nat) (x7 : DV) (h0 : Hp) : aH :=
 bnd (r 66 [x7] h0) fun v1 h1 =>
  bQz r n x7 v1 h1
noncomputable def bGv (r : RT) (n : Nat) (x2 : DV) (h0 : Hp) : aH :=
 bnd (aB 5 x2 h0) fun v1 h1 =>
 bnd (aA v1 h1) fun v2 h2 =>
  bMa r n v2 h2
noncomputable def aAo (r : RT) (n : Nat) (x2 x6 : DV) (h0 : Hp) : aH :=
 bnd (jE .not x6 h0) fun v1 h1 =>
 aX v1 (
 some (.t [.l0, (aG 19)], h1)) (
  bGv r n x2 h1)
noncomputable def aLi (r : RT) (n : Nat) (x1 x2 : DV) (h0 : Hp) : aH :=
 bnd (aK 6 x2 h0) fun v1 h1 =>
 bnd (r 65 [v1, x1] h1) fun v2 h2 =>
  aAo r n x2 v2 h2
noncomputable def s27 (r : RT) (n : Nat) (x0 x1 : DV) (h0 : Hp) : aH :=
 bnd (bU x0 h0) fun v1 h1 =>
  aLi r n x1 v1 h1
noncomputable abbrev c27 : Code := cf Tryz.f27
noncomputable abbrev bBb : Code := cR c27
noncomputable abbrev aYc : Code := cR bBb
noncomputable abbrev bBd : Code := cR aYc
noncomputable abbrev bAf : Code := cR bBd
noncomputable abbrev aTl : Code := cR bAf
noncomputable abbrev aZt : Code := cR aTl
noncomputable abbrev aVy : Code := cR aZt
noncomputable abbrev aVp : Code := cR aVy
noncomputable abbrev aZz : Code := cR aVp
noncomputable abbrev cQg : Code := cR aZz
noncomputable abbrev wT : Code := cL aZz
noncomputable abbrev aQf : Code := cR wT
noncomputable abbrev aFc : Code := cL aQf
noncomputable abbrev lD : Code := cL aFc
noncomputable abbrev aQk : Code := cR lD
noncomputable abbrev aFb : Code := cL aQk
noncomputable abbrev aHt : Code := cR aFb
noncomputable abbrev aSy : Code := cR aHt
noncomputable abbrev aCw : Code := cL aSy
noncomputable abbrev kZ : Code := cL aCw
noncomputable abbrev aIv : Code := cR kZ
noncomputable abbrev cWq : Code := cR aIv
noncomputable abbrev aFx : Code := cL aIv
noncomputable abbrev aDx : Code := cL aFx
noncomputable abbrev aIu : Code := cR aDx
noncomputable abbrev aFm : Code := cR aIu
noncomputable abbrev aJp : Code := cR aFm
noncomputable abbrev aHk : Code := cR aJp
noncomputable abbrev aJn : Code := cR aHk
noncomputable abbrev aIm : Code := cR aJn
noncomputable abbrev aJa : Code := cR aIm
noncomputable abbrev aGy : Code := cR aJa
noncomputable abbrev aCm : Code := cR aGy
noncomputable abbrev aQz : Code := cR aCm
noncomputable abbrev aDm : Code := cL aQz
noncomputable abbrev kW : Code := cL aDm
noncomputable abbrev aFv : Code := cR kW
noncomputable abbrev cYt : Code := cR aFv
noncomputable abbrev bPx : Code := cL aFv
noncomputable abbrev bPb : Code := cL kW
noncomputable abbrev bGz : Code := cL aCm
noncomputable abbrev aSl : Code := cL aGy
noncomputable abbrev bNn : Code := cL aJa
noncomputable abbrev aRc : Code := cL aIm
noncomputable abbrev bGp : Code := cL aJn
noncomputable abbrev bLc : Code := cL aHk
noncomputable abbrev bVl : Code := cL aJp
noncomputable abbrev bFr : Code := cL aFm
noncomputable abbrev aSn : Code := cL aIu
noncomputable abbrev bMu : Code := cL aDx
noncomputable abbrev bIj : Code := cL kZ
noncomputable abbrev bRa : Code := cL aHt
noncomputable abbrev bJu : Code := cL aFb
noncomputable abbrev bGa : Code := cL lD
noncomputable abbrev bQp : Code := cL wT
noncomputable abbrev zW : Code := cL aVp
noncomputable abbrev aPd : Code := cR zW
noncomputable abbrev aIa : Code := cL aPd
noncomputable abbrev kV : Code := cL aIa
noncomputable abbrev aIf : Code := cR kV
noncomputable abbrev cXq : Code := cR aIf
noncomputable abbrev aEy : Code := cL aIf
noncomputable abbrev aBw : Code := cL aEy
noncomputable abbrev aEs : Code := cR aBw
noncomputable abbrev bWq : Code := cR aEs
noncomputable abbrev bPk : Code := cL aEs
noncomputable abbrev bKu : Code := cL aBw
noncomputable abbrev bJz : Code := cL kV
noncomputable abbrev bSb : Code := cL zW
noncomputable abbrev bUk : Code := cL aVy
noncomputable abbrev bMb : Code := cL aZt
noncomputable abbrev bSq : Code := cL aTl
noncomputable abbrev bKn : Code := cL bAf
noncomputable abbrev bFq : Code := cL bBd
noncomputable abbrev bNa : Code := cL aYc
noncomputable abbrev bPs : Code := cL bBb
noncomputable abbrev aRw : Code := cL c27
noncomputable abbrev r27 : K := aV CF Tryz.f27
noncomputable def D27 (r : RT) (n : Nat) (c : Code) (X : Nat → K) (k : K) : K := aP CF r 199 n c X r27 k
theorem cCn : D27 r n cQg x0 r27 = (K1 (aR r n) 9) :=
 (by kernel_rfl)
theorem cAc (kk12 : bZ) (kk16 : bT) : D27 r n cWq (xs (xs (xs x0 2 (K1 (aR r n) 9)) 3 (K4 kk12 7 8 9 12)) 4 (K4 kk12 7 8 9 12)) (K5 kk16 7 8 9 12 13) = (K5 (aT r n kk12 kk16) 7 8 9 12 13) :=
 (by kernel_rfl)
theorem cGf (kk12 : bZ) (kk16 : bT) (kk29 : TT8) : D27 r n cYt (xs (xs (xs (xs (xs x0 2 (K1 (aR r n) 9)) 3 (K4 kk12 7 8 9 12)) 4 (K4 kk12 7 8 9 12)) 5 (K5 (aT r n kk12 kk16) 7 8 9 12 13)) 6 (K5 (aT r n kk12 kk16) 7 8 9 12 13)) (K8 kk29 7 8 9 12 13 15 16 18) = (K8 (aCb r n kk12 kk16 kk29) 7 8 9 12 13 15 16 18) :=
 (by kernel_rfl)
theorem bOo (kk12 : bZ) (kk16 : bT) (kk29 : TT8) : D27 r n aFv (xs (xs (xs (xs (xs x0 2 (K1 (aR r n) 9)) 3 (K4 kk12 7 8 9 12)) 4 (K4 kk12 7 8 9 12)) 5 (K5 (aT r n kk12 kk16) 7 8 9 12 13)) 6 (K5 (aT r n kk12 kk16) 7 8 9 12 13)) (K8 kk29 7 8 9 12 13 15 16 18) = D27 r n bPx (xs (xs (xs (xs (xs x0 2 (K1 (aR r n) 9)) 3 (K4 kk12 7 8 9 12)) 4 (K4 kk12 7 8 9 12)) 5 (K5 (aT r n kk12 kk16) 7 8 9 12 13)) 6 (K5 (aT r n kk12 kk16) 7 8 9 12 13)) (K8 (aCb r n kk12 kk16 kk29) 7 8 9 12 13 15 16 18) :=
 congrArg (fun k => D27 r n bPx (xs (xs (xs (xs (xs x0 2 (K1 (aR r n) 9)) 3 (K4 kk12 7 8 9 12)) 4 (K4 kk12 7 8 9 12)) 5 (K5 (aT r n kk12 kk16) 7 8 9 12 13)) 6 (K5 (aT r n kk12 kk16) 7 8 9 12 13)) k) (cGf r n kk12 kk16 kk29)
theorem bYl (kk12 : bZ) (kk16 : bT) (kk29 : TT8) : D27 r n aFv (xs (xs (xs (xs (xs x0 2 (K1 (aR r n) 9)) 3 (K4 kk12 7 8 9 12)) 4 (K4 kk12 7 8 9 12)) 5 (K5 (aT r n kk12 kk16) 7 8 9 12 13)) 6 (K5 (aT r n kk12 kk16) 7 8 9 12 13)) (K8 kk29 7 8 9 12 13 15 16 18) = (K8 (aSo r n kk12 kk16 kk29) 7 8 9 12 13 15 16 18) :=
 (bOo r n kk12 kk16 kk29).trans
 ((by kernel_rfl))
theorem bTz (kk12 : bZ) (kk16 : bT) (kk29 : TT8) : D27 r n kW (xs (xs (xs (xs (xs x0 2 (K1 (aR r n) 9)) 3 (K4 kk12 7 8 9 12)) 4 (K4 kk12 7 8 9 12)) 5 (K5 (aT r n kk12 kk16) 7 8 9 12 13)) 6 (K5 (aT r n kk12 kk16) 7 8 9 12 13)) (K8 kk29 7 8 9 12 13 15 16 18) = D27 r n bPb (xs (xs (xs (xs (xs x0 2 (K1 (aR r n) 9)) 3 (K4 kk12 7 8 9 12)) 4 (K4 kk12 7 8 9 12)) 5 (K5 (aT r n kk12 kk16) 7 8 9 12 13)) 6 (K5 (aT r n kk12 kk16) 7 8 9 12 13)) (K8 (aSo r n kk12 kk16 kk29) 7 8 9 12 13 15 16 18) :=
 congrArg (fun k => D27 r n bPb (xs (xs (xs (xs (xs x0 2 (K1 (aR r n) 9)) 3 (K4 kk12 7 8 9 12)) 4 (K4 kk12 7 8 9 12)) 5 (K5 (aT r n kk12 kk16) 7 8 9 12 13)) 6 (K5 (aT r n kk12 kk16) 7 8 9 12 13)) k) (bYl r n kk12 kk16 kk29)
theorem bOe (kk12 : bZ) (kk16 : bT) (kk29 : TT8) : D27 r n kW (xs (xs (xs (xs (xs x0 2 (K1 (aR r n) 9)) 3 (K4 kk12 7 8 9 12)) 4 (K4 kk12 7 8 9 12)) 5 (K5 (aT r n kk12 kk16) 7 8 9 12 13)) 6 (K5 (aT r n kk12 kk16) 7 8 9 12 13)) (K8 kk29 7 8 9 12 13 15 16 18) = (K8 (aYa r n kk12 kk16 kk29) 7 8 9 12 13 15 16 18) :=
 (bTz r n kk12 kk16 kk29).trans
 ((by kernel_rfl))
theorem bQi (kk12 : bZ) (kk16 : bT) (m : Nat) : aM (fun kk => D27 r n kW (xs (xs (xs (xs (xs x0 2 (K1 (aR r n) 9)) 3 (K4 kk12 7 8 9 12)) 4 (K4 kk12 7 8 9 12)) 5 (K5 (aT r n kk12 kk16) 7 8 9 12 13)) 6 (K5 (aT r n kk12 kk16) 7 8 9 12 13)) kk) m = (K8 (uV r n kk12 kk16 m) 7 8 9 12 13 15 16 18) := by
 induction m with
 | zero => exact (by kernel_rfl : aM (fun kk => D27 r n kW (xs (xs (xs (xs (xs x0 2 (K1 (aR r n) 9)) 3 (K4 kk12 7 8 9 12)) 4 (K4 kk12 7 8 9 12)) 5 (K5 (aT r n kk12 kk16) 7 8 9 12 13)) 6 (K5 (aT r n kk12 kk16) 7 8 9 12 13)) kk) 0 = (K8 (uV r n kk12 kk16 0) 7 8 9 12 13 15 16 18))
 | succ m ih =>
  refine (by kernel_rfl : aM (fun kk => D27 r n kW (xs (xs (xs (xs (xs x0 2 (K1 (aR r n) 9)) 3 (K4 kk12 7 8 9 12)) 4 (K4 kk12 7 8 9 12)) 5 (K5 (aT r n kk12 kk16) 7 8 9 12 13)) 6 (K5 (aT r n kk12 kk16) 7 8 9 12 13)) kk) (m + 1) = D27 r n kW (xs (xs (xs (xs (xs x0 2 (K1 (aR r n) 9)) 3 (K4 kk12 7 8 9 12)) 4 (K4 kk12 7 8 9 12)) 5 (K5 (aT r n kk12 kk16) 7 8 9 12 13)) 6 (K5 (aT r n kk12 kk16) 7 8 9 12 13)) (aM (fun kk => D27 r n kW (xs (xs (xs (xs (xs x0 2 (K1 (aR r n) 9)) 3 (K4 kk12 7 8 9 12)) 4 (K4 kk12 7 8 9 12)) 5 (K5 (aT r n kk12 kk16) 7 8 9 12 13)) 6 (K5 (aT r n kk12 kk16) 7 8 9 12 13)) kk) m)).trans ?_
  rw [ih]
  exact (bOe r n kk12 kk16 (uV r n kk12 kk16 m)).trans (by kernel_rfl)
theorem cHu (kk12 : bZ) (kk16 : bT) : D27 r n aDm (xs (xs (xs (xs (xs x0 2 (K1 (aR r n) 9)) 3 (K4 kk12 7 8 9 12)) 4 (K4 kk12 7 8 9 12)) 5 (K5 (aT r n kk12 kk16) 7 8 9 12 13)) 6 (K5 (aT r n kk12 kk16) 7 8 9 12 13)) (K5 (aT r n kk12 kk16) 7 8 9 12 13) = (K8 (bIl r n kk12 kk16) 7 8 9 12 13 15 16 18) :=
 (by kernel_rfl : D27 r n aDm (xs (xs (xs (xs (xs x0 2 (K1 (aR r n) 9)) 3 (K4 kk12 7 8 9 12)) 4 (K4 kk12 7 8 9 12)) 5 (K5 (aT r n kk12 kk16) 7 8 9 12 13)) 6 (K5 (aT r n kk12 kk16) 7 8 9 12 13)) (K5 (aT r n kk12 kk16) 7 8 9 12 13) = aM (fun kk => D27 r n kW (xs (xs (xs (xs (xs x0 2 (K1 (aR r n) 9)) 3 (K4 kk12 7 8 9 12)) 4 (K4 kk12 7 8 9 12)) 5 (K5 (aT r n kk12 kk16) 7 8 9 12 13)) 6 (K5 (aT r n kk12 kk16) 7 8 9 12 13)) kk) n).trans ((bQi r n kk12 kk16 n).trans (by kernel_rfl))
theorem cEs (kk12 : bZ) (kk16 : bT) : D27 r n aQz (xs (xs (xs (xs x0 2 (K1 (aR r n) 9)) 3 (K4 kk12 7 8 9 12)) 4 (K4 kk12 7 8 9 12)) 5 (K5 (aT r n kk12 kk16) 7 8 9 12 13)) (K5 (aT r n kk12 kk16) 7 8 9 12 13) = (K8 (aOu r n kk12 kk16) 7 8 9 12 13 15 16 18) :=
 (by kernel_rfl : D27 r n aQz (xs (xs (xs (xs x0 2 (K1 (aR r n) 9)) 3 (K4 kk12 7 8 9 12)) 4 (K4 kk12 7 8 9 12)) 5 (K5 (aT r n kk12 kk16) 7 8 9 12 13)) (K5 (aT r n kk12 kk16) 7 8 9 12 13) = D27 r n aDm (xs (xs (xs (xs (xs x0 2 (K1 (aR r n) 9)) 3 (K4 kk12 7 8 9 12)) 4 (K4 kk12 7 8 9 12)) 5 (K5 (aT r n kk12 kk16) 7 8 9 12 13)) 6 (K5 (aT r n kk12 kk16) 7 8 9 12 13)) (K5 (aT r n kk12 kk16) 7 8 9 12 13)).trans
 ((cHu r n kk12 kk16).trans (by kernel_rfl))
theorem bMt (kk12 : bZ) (kk16 : bT) : D27 r n aCm (xs (xs (xs (xs x0 2 (K1 (aR r n) 9)) 3 (K4 kk12 7 8 9 12)) 4 (K4 kk12 7 8 9 12)) 5 (K5 (aT r n kk12 kk16) 7 8 9 12 13)) (K5 (aT r n kk12 kk16) 7 8 9 12 13) = D27 r n bGz (xs (xs (xs (xs x0 2 (K1 (aR r n) 9)) 3 (K4 kk12 7 8 9 12)) 4 (K4 kk12 7 8 9 12)) 5 (K5 (aT r n kk12 kk16) 7 8 9 12 13)) (K8 (aOu r n kk12 kk16) 7 8 9 12 13 15 16 18) :=
 congrArg (fun k => D27 r n bGz (xs (xs (xs (xs x0 2 (K1 (aR r n) 9)) 3 (K4 kk12 7 8 9 12)) 4 (K4 kk12 7 8 9 12)) 5 (K5 (aT r n kk12 kk16) 7 8 9 12 13)) k) (cEs r n kk12 kk16)
theorem cFn (kk12 : bZ) (kk16 : bT) : D27 r n aCm (xs (xs (xs (xs x0 2 (K1 (aR r n) 9)) 3 (K4 kk12 7 8 9 12)) 4 (K4 kk12 7 8 9 12)) 5 (K5 (aT r n kk12 kk16) 7 8 9 12 13)) (K5 (aT r n kk12 kk16) 7 8 9 12 13) = (K7 (oR r n kk12 kk16) 7 8 9 12 13 15 16) :=
 (bMt r n kk12 kk16).trans
 ((by kernel_rfl))
theorem bRm (kk12 : bZ) (kk16 : bT) : D27 r n aGy (xs (xs (xs (xs x0 2 (K1 (aR r n) 9)) 3 (K4 kk12 7 8 9 12)) 4 (K4 kk12 7 8 9 12)) 5 (K5 (aT r n kk12 kk16) 7 8 9 12 13)) (K5 (aT r n kk12 kk16) 7 8 9 12 13) = D27 r n aSl (xs (xs (xs (xs x0 2 (K1 (aR r n) 9)) 3 (K4 kk12 7 8 9 12)) 4 (K4 kk12 7 8 9 12)) 5 (K5 (aT r n kk12 kk16) 7 8 9 12 13)) (K7 (oR r n kk12 kk16) 7 8 9 12 13 15 16) :=
 congrArg (fun k => D27 r n aSl (xs (xs (xs (xs x0 2 (K1 (aR r n) 9)) 3 (K4 kk12 7 8 9 12)) 4 (K4 kk12 7 8 9 12)) 5 (K5 (aT r n kk12 kk16) 7 8 9 12 13)) k) (cFn r n kk12 kk16)
theorem bRh (kk12 : bZ) (kk16 : bT) (q0 : TT7) (q1 : TT1) (q2 : bT) : D27 r n aSl (xs (xs (xs (xs x0 2 (K1 q1 9)) 3 (K4 kk12 7 8 9 12)) 4 (K4 kk12 7 8 9 12)) 5 (K5 q2 7 8 9 12 13)) (K7 q0 7 8 9 12 13 15 16) = fun (env : bA) (h : Hp) =>
 bnd (aD .geq (env 17) (aG 0) h) fun v1 h1 =>
 aX v1 (
 bnd (aN [(aG 0)] 1 [(0, 1, (env 17))] h1) fun v2 h2 =>
 bnd (aY 1 8 (env 16) v2 h2) fun v3 h3 =>
      q0 (env 7) (env 8) (env 9) (env 12) (env 13) (env 15) v3 h3) (
      q0 (env 7) (env 8) (env 9) (env 12) (env 13) (env 15) (env 16) h1) := by kernel_rfl
theorem bFh (kk12 : bZ) (kk16 : bT) : (fun (env : bA) (h : Hp) =>
 bnd (aD .geq (env 17) (aG 0) h) fun v1 h1 =>
 aX v1 (
 bnd (aN [(aG 0)] 1 [(0, 1, (env 17))] h1) fun v2 h2 =>
 bnd (aY 1 8 (env 16) v2 h2) fun v3 h3 =>
      oR r n kk12 kk16 (env 7) (env 8) (env 9) (env 12) (env 13) (env 15) v3 h3) (
      oR r n kk12 kk16 (env 7) (env 8) (env 9) (env 12) (env 13) (env 15) (env 16) h1)) = (K8 (aCa r n kk12 kk16) 7 8 9 12 13 15 16 17) := by kernel_rfl
theorem bYq (kk12 : bZ) (kk16 : bT) : D27 r n aGy (xs (xs (xs (xs x0 2 (K1 (aR r n) 9)) 3 (K4 kk12 7 8 9 12)) 4 (K4 kk12 7 8 9 12)) 5 (K5 (aT r n kk12 kk16) 7 8 9 12 13)) (K5 (aT r n kk12 kk16) 7 8 9 12 13) = (K8 (aCa r n kk12 kk16) 7 8 9 12 13 15 16 17) :=
 (bRm r n kk12 kk16).trans
 ((bRh r n kk12 kk16 (oR r n kk12 kk16) (aR r n) (aT r n kk12 kk16)).trans (bFh r n kk12 kk16))
theorem bRj (kk12 : bZ) (kk16 : bT) : D27 r n aJa (xs (xs (xs (xs x0 2 (K1 (aR r n) 9)) 3 (K4 kk12 7 8 9 12)) 4 (K4 kk12 7 8 9 12)) 5 (K5 (aT r n kk12 kk16) 7 8 9 12 13)) (K5 (aT r n kk12 kk16) 7 8 9 12 13) = D27 r n bNn (xs (xs (xs (xs x0 2 (K1 (aR r n) 9)) 3 (K4 kk12 7 8 9 12)) 4 (K4 kk12 7 8 9 12)) 5 (K5 (aT r n kk12 kk16) 7 8 9 12 13)) (K8 (aCa r n kk12 kk16) 7 8 9 12 13 15 16 17) :=
 congrArg (fun k => D27 r n bNn (xs (xs (xs (xs x0 2 (K1 (aR r n) 9)) 3 (K4 kk12 7 8 9 12)) 4 (K4 kk12 7 8 9 12)) 5 (K5 (aT r n kk12 kk16) 7 8 9 12 13)) k) (bYq r n kk12 kk16)
theorem cLm (kk12 : bZ) (kk16 : bT) : D27 r n aJa (xs (xs (xs (xs x0 2 (K1 (aR r n) 9)) 3 (K4 kk12 7 8 9 12)) 4 (K4 kk12 7 8 9 12)) 5 (K5 (aT r n kk12 kk16) 7 8 9 12 13)) (K5 (aT r n kk12 kk16) 7 8 9 12 13) = (K8 (oZ r n kk12 kk16) 7 8 9 12 13 14 15 16) :=
 (bRj r n kk12 kk16).trans
 ((by kernel_rfl))
theorem bUr (kk12 : bZ) (kk16 : bT) : D27 r n aIm (xs (xs (xs (xs x0 2 (K1 (aR r n) 9)) 3 (K4 kk12 7 8 9 12)) 4 (K4 kk12 7 8 9 12)) 5 (K5 (aT r n kk12 kk16) 7 8 9 12 13)) (K5 (aT r n kk12 kk16) 7 8 9 12 13) = D27 r n aRc (xs (xs (xs (xs x0 2 (K1 (aR r n) 9)) 3 (K4 kk12 7 8 9 12)) 4 (K4 kk12 7 8 9 12)) 5 (K5 (aT r n kk12 kk16) 7 8 9 12 13)) (K8 (oZ r n kk12 kk16) 7 8 9 12 13 14 15 16) :=
 congrArg (fun k => D27 r n aRc (xs (xs (xs (xs x0 2 (K1 (aR r n) 9)) 3 (K4 kk12 7 8 9 12)) 4 (K4 kk12 7 8 9 12)) 5 (K5 (aT r n kk12 kk16) 7 8 9 12 13)) k) (cLm r n kk12 kk16)
theorem bHq (kk12 : bZ) (kk16 : bT) (q0 : TT8) (q1 : TT1) (q2 : bT) : D27 r n aRc (xs (xs (xs (xs x0 2 (K1 q1 9)) 3 (K4 kk12 7 8 9 12)) 4 (K4 kk12 7 8 9 12)) 5 (K5 q2 7 8 9 12 13)) (K8 q0 7 8 9 12 13 14 15 16) = fun (env : bA) (h : Hp) =>
 bnd (aB 0 (env 14) h) fun v1 h1 =>
 bnd (aA v1 h1) fun v2 h2 =>
 bnd (aD .neq v2 (aG 16) h2) fun v3 h3 =>
 bnd (gD v3 true (aB 0 (env 14) h3) h3) fun v4 h4 =>
 bnd (gD v3 true (aA v4 h4) h4) fun v5 h5 =>
 bnd (gD v3 true (aD .neq v5 (aG 19) h5) h5) fun v6 h6 =>
 bnd (aQ v3 v6 (.b false) h6) fun v7 h7 =>
 bnd (gD v7 true (aB 0 (env 14) h7) h7) fun v8 h8 =>
 bnd (gD v7 true (aA v8 h8) h8) fun v9 h9 =>
 bnd (gD v7 true (aD .neq v9 (aG 20) h9) h9) fun v10 h10 =>
 bnd (aQ v7 v10 (.b false) h10) fun v11 h11 =>
 aX v11 (
 bnd (aD .add (env 13) (aG 1) h11) fun v12 h12 =>
 bnd (aN [(aG 0)] 1 [(0, 1, v12)] h12) fun v13 h13 =>
 bnd (aY 1 8 (env 16) v13 h13) fun v14 h14 =>
      q0 (env 7) (env 8) (env 9) (env 12) (env 13) (env 14) (env 15) v14 h14) (
      q0 (env 7) (env 8) (env 9) (env 12) (env 13) (env 14) (env 15) (env 16) h11) := by kernel_rfl
theorem bCm (kk12 : bZ) (kk16 : bT) : (fun (env : bA) (h : Hp) =>
 bnd (aB 0 (env 14) h) fun v1 h1 =>
 bnd (aA v1 h1) fun v2 h2 =>
 bnd (aD .neq v2 (aG 16) h2) fun v3 h3 =>
 bnd (gD v3 true (aB 0 (env 14) h3) h3) fun v4 h4 =>
 bnd (gD v3 true (aA v4 h4) h4) fun v5 h5 =>
 bnd (gD v3 true (aD .neq v5 (aG 19) h5) h5) fun v6 h6 =>
 bnd (aQ v3 v6 (.b false) h6) fun v7 h7 =>
 bnd (gD v7 true (aB 0 (env 14) h7) h7) fun v8 h8 =>
 bnd (gD v7 true (aA v8 h8) h8) fun v9 h9 =>
 bnd (gD v7 true (aD .neq v9 (aG 20) h9) h9) fun v10 h10 =>
 bnd (aQ v7 v10 (.b false) h10) fun v11 h11 =>
 aX v11 (
 bnd (aD .add (env 13) (aG 1) h11) fun v12 h12 =>
 bnd (aN [(aG 0)] 1 [(0, 1, v12)] h12) fun v13 h13 =>
 bnd (aY 1 8 (env 16) v13 h13) fun v14 h14 =>
      oZ r n kk12 kk16 (env 7) (env 8) (env 9) (env 12) (env 13) (env 14) (env 15) v14 h14) (
      oZ r n kk12 kk16 (env 7) (env 8) (env 9) (env 12) (env 13) (env 14) (env 15) (env 16) h11)) = (K8 (aCn r n kk12 kk16) 7 8 9 12 13 14 15 16) := by kernel_rfl
theorem cCa (kk12 : bZ) (kk16 : bT) : D27 r n aIm (xs (xs (xs (xs x0 2 (K1 (aR r n) 9)) 3 (K4 kk12 7 8 9 12)) 4 (K4 kk12 7 8 9 12)) 5 (K5 (aT r n kk12 kk16) 7 8 9 12 13)) (K5 (aT r n kk12 kk16) 7 8 9 12 13) = (K8 (aCn r n kk12 kk16) 7 8 9 12 13 14 15 16) :=
 (bUr r n kk12 kk16).trans
 ((bHq r n kk12 kk16 (oZ r n kk12 kk16) (aR r n) (aT r n kk12 kk16)).trans (bCm r n kk12 kk16))
theorem bXx (kk12 : bZ) (kk16 : bT) : D27 r n aJn (xs (xs (xs (xs x0 2 (K1 (aR r n) 9)) 3 (K4 kk12 7 8 9 12)) 4 (K4 kk12 7 8 9 12)) 5 (K5 (aT r n kk12 kk16) 7 8 9 12 13)) (K5 (aT r n kk12 kk16) 7 8 9 12 13) = D27 r n bGp (xs (xs (xs (xs x0 2 (K1 (aR r n) 9)) 3 (K4 kk12 7 8 9 12)) 4 (K4 kk12 7 8 9 12)) 5 (K5 (aT r n kk12 kk16) 7 8 9 12 13)) (K8 (aCn r n kk12 kk16) 7 8 9 12 13 14 15 16) :=
 congrArg (fun k => D27 r n bGp (xs (xs (xs (xs x0 2 (K1 (aR r n) 9)) 3 (K4 kk12 7 8 9 12)) 4 (K4 kk12 7 8 9 12)) 5 (K5 (aT r n kk12 kk16) 7 8 9 12 13)) k) (cCa r n kk12 kk16)
theorem cLc (kk12 : bZ) (kk16 : bT) : D27 r n aJn (xs (xs (xs (xs x0 2 (K1 (aR r n) 9)) 3 (K4 kk12 7 8 9 12)) 4 (K4 kk12 7 8 9 12)) 5 (K5 (aT r n kk12 kk16) 7 8 9 12 13)) (K5 (aT r n kk12 kk16) 7 8 9 12 13) = (K7 (aPn r n kk12 kk16) 7 8 9 12 13 14 15) :=
 (bXx r n kk12 kk16).trans
 ((by kernel_rfl))
theorem bBj (kk12 : bZ) (kk16 : bT) : D27 r n aHk (xs (xs (xs (xs x0 2 (K1 (aR r n) 9)) 3 (K4 kk12 7 8 9 12)) 4 (K4 kk12 7 8 9 12)) 5 (K5 (aT r n kk12 kk16) 7 8 9 12 13)) (K5 (aT r n kk12 kk16) 7 8 9 12 13) = D27 r n bLc (xs (xs (xs (xs x0 2 (K1 (aR r n) 9)) 3 (K4 kk12 7 8 9 12)) 4 (K4 kk12 7 8 9 12)) 5 (K5 (aT r n kk12 kk16) 7 8 9 12 13)) (K7 (aPn r n kk12 kk16) 7 8 9 12 13 14 15) :=
 congrArg (fun k => D27 r n bLc (xs (xs (xs (xs x0 2 (K1 (aR r n) 9)) 3 (K4 kk12 7 8 9 12)) 4 (K4 kk12 7 8 9 12)) 5 (K5 (aT r n kk12 kk16) 7 8 9 12 13)) k) (cLc r n kk12 kk16)
theorem cJw (kk12 : bZ) (kk16 : bT) : D27 r n aHk (xs (xs (xs (xs x0 2 (K1 (aR r n) 9)) 3 (K4 kk12 7 8 9 12)) 4 (K4 kk12 7 8 9 12)) 5 (K5 (aT r n kk12 kk16) 7 8 9 12 13)) (K5 (aT r n kk12 kk16) 7 8 9 12 13) = (K7 (aOx r n kk12 kk16) 7 8 9 12 13 14 15) :=
 (bBj r n kk12 kk16).trans
 ((by kernel_rfl))
theorem bBe (kk12 : bZ) (kk16 : bT) : D27 r n aJp (xs (xs (xs (xs x0 2 (K1 (aR r n) 9)) 3 (K4 kk12 7 8 9 12)) 4 (K4 kk12 7 8 9 12)) 5 (K5 (aT r n kk12 kk16) 7 8 9 12 13)) (K5 (aT r n kk12 kk16) 7 8 9 12 13) = D27 r n bVl (xs (xs (xs (xs x0 2 (K1 (aR r n) 9)) 3 (K4 kk12 7 8 9 12)) 4 (K4 kk12 7 8 9 12)) 5 (K5 (aT r n kk12 kk16) 7 8 9 12 13)) (K7 (aOx r n kk12 kk16) 7 8 9 12 13 14 15) :=
 congrArg (fun k => D27 r n bVl (xs (xs (xs (xs x0 2 (K1 (aR r n) 9)) 3 (K4 kk12 7 8 9 12)) 4 (K4 kk12 7 8 9 12)) 5 (K5 (aT r n kk12 kk16) 7 8 9 12 13)) k) (cJw r n kk12 kk16)
theorem bYz (kk12 : bZ) (kk16 : bT) : D27 r n aJp (xs (xs (xs (xs x0 2 (K1 (aR r n) 9)) 3 (K4 kk12 7 8 9 12)) 4 (K4 kk12 7 8 9 12)) 5 (K5 (aT r n kk12 kk16) 7 8 9 12 13)) (K5 (aT r n kk12 kk16) 7 8 9 12 13) = (K7 (aRl r n kk12 kk16) 7 8 9 12 13 14 15) :=
 (bBe r n kk12 kk16).trans
 ((by kernel_rfl))
theorem bCg (kk12 : bZ) (kk16 : bT) : D27 r n aFm (xs (xs (xs (xs x0 2 (K1 (aR r n) 9)) 3 (K4 kk12 7 8 9 12)) 4 (K4 kk12 7 8 9 12)) 5 (K5 (aT r n kk12 kk16) 7 8 9 12 13)) (K5 (aT r n kk12 kk16) 7 8 9 12 13) = D27 r n bFr (xs (xs (xs (xs x0 2 (K1 (aR r n) 9)) 3 (K4 kk12 7 8 9 12)) 4 (K4 kk12 7 8 9 12)) 5 (K5 (aT r n kk12 kk16) 7 8 9 12 13)) (K7 (aRl r n kk12 kk16) 7 8 9 12 13 14 15) :=
 congrArg (fun k => D27 r n bFr (xs (xs (xs (xs x0 2 (K1 (aR r n) 9)) 3 (K4 kk12 7 8 9 12)) 4 (K4 kk12 7 8 9 12)) 5 (K5 (aT r n kk12 kk16) 7 8 9 12 13)) k) (bYz r n kk12 kk16)
theorem cFu (kk12 : bZ) (kk16 : bT) : D27 r n aFm (xs (xs (xs (xs x0 2 (K1 (aR r n) 9)) 3 (K4 kk12 7 8 9 12)) 4 (K4 kk12 7 8 9 12)) 5 (K5 (aT r n kk12 kk16) 7 8 9 12 13)) (K5 (aT r n kk12 kk16) 7 8 9 12 13) = (K6 (yE r n kk12 kk16) 7 8 9 12 13 14) :=
 (bCg r n kk12 kk16).trans
 ((by kernel_rfl))
theorem bCp (kk12 : bZ) (kk16 : bT) : D27 r n aIu (xs (xs (xs (xs x0 2 (K1 (aR r n) 9)) 3 (K4 kk12 7 8 9 12)) 4 (K4 kk12 7 8 9 12)) 5 (K5 (aT r n kk12 kk16) 7 8 9 12 13)) (K5 (aT r n kk12 kk16) 7 8 9 12 13) = D27 r n aSn (xs (xs (xs (xs x0 2 (K1 (aR r n) 9)) 3 (K4 kk12 7 8 9 12)) 4 (K4 kk12 7 8 9 12)) 5 (K5 (aT r n kk12 kk16) 7 8 9 12 13)) (K6 (yE r n kk12 kk16) 7 8 9 12 13 14) :=
 congrArg (fun k => D27 r n aSn (xs (xs (xs (xs x0 2 (K1 (aR r n) 9)) 3 (K4 kk12 7 8 9 12)) 4 (K4 kk12 7 8 9 12)) 5 (K5 (aT r n kk12 kk16) 7 8 9 12 13)) k) (cFu r n kk12 kk16)
theorem bCb (kk12 : bZ) (kk16 : bT) (q0 : iL) (q1 : TT1) (q2 : bT) : D27 r n aSn (xs (xs (xs (xs x0 2 (K1 q1 9)) 3 (K4 kk12 7 8 9 12)) 4 (K4 kk12 7 8 9 12)) 5 (K5 q2 7 8 9 12 13)) (K6 q0 7 8 9 12 13 14) = fun (env : bA) (h : Hp) =>
 bnd (aE 3 (env 7) (env 13) h) fun v1 h1 =>
 bnd (aK 3 v1 h1) fun v2 h2 =>
 bnd (bY [(aG 0), (aG 0), (aG 0)] h2) fun v3 h3 =>
 bnd (aI 3 v3 v2 h3) fun _ h4 =>
  q0 (env 7) (env 8) (env 9) (env 12) (env 13) v3 h4 := by kernel_rfl
theorem aQn (kk12 : bZ) (kk16 : bT) : (fun (env : bA) (h : Hp) =>
 bnd (aE 3 (env 7) (env 13) h) fun v1 h1 =>
 bnd (aK 3 v1 h1) fun v2 h2 =>
 bnd (bY [(aG 0), (aG 0), (aG 0)] h2) fun v3 h3 =>
 bnd (aI 3 v3 v2 h3) fun _ h4 =>
  yE r n kk12 kk16 (env 7) (env 8) (env 9) (env 12) (env 13) v3 h4) = (K5 (aDy r n kk12 kk16) 7 8 9 12 13) := by kernel_rfl
theorem cKn (kk12 : bZ) (kk16 : bT) : D27 r n aIu (xs (xs (xs (xs x0 2 (K1 (aR r n) 9)) 3 (K4 kk12 7 8 9 12)) 4 (K4 kk12 7 8 9 12)) 5 (K5 (aT r n kk12 kk16) 7 8 9 12 13)) (K5 (aT r n kk12 kk16) 7 8 9 12 13) = (K5 (aDy r n kk12 kk16) 7 8 9 12 13) :=
 (bCp r n kk12 kk16).trans
 ((bCb r n kk12 kk16 (yE r n kk12 kk16) (aR r n) (aT r n kk12 kk16)).trans (aQn r n kk12 kk16))
theorem bBy (kk12 : bZ) (kk16 : bT) : D27 r n aIv (xs (xs (xs x0 2 (K1 (aR r n) 9)) 3 (K4 kk12 7 8 9 12)) 4 (K4 kk12 7 8 9 12)) (K5 kk16 7 8 9 12 13) = D27 r n aFx (xs (xs (xs x0 2 (K1 (aR r n) 9)) 3 (K4 kk12 7 8 9 12)) 4 (K4 kk12 7 8 9 12)) (K5 (aT r n kk12 kk16) 7 8 9 12 13) :=
 congrArg (fun k => D27 r n aFx (xs (xs (xs x0 2 (K1 (aR r n) 9)) 3 (K4 kk12 7 8 9 12)) 4 (K4 kk12 7 8 9 12)) k) (cAc r n kk12 kk16)
theorem bEn (kk12 : bZ) (kk16 : bT) : D27 r n aDx (xs (xs (xs (xs x0 2 (K1 (aR r n) 9)) 3 (K4 kk12 7 8 9 12)) 4 (K4 kk12 7 8 9 12)) 5 (K5 (aT r n kk12 kk16) 7 8 9 12 13)) (K5 (aT r n kk12 kk16) 7 8 9 12 13) = D27 r n bMu (xs (xs (xs (xs x0 2 (K1 (aR r n) 9)) 3 (K4 kk12 7 8 9 12)) 4 (K4 kk12 7 8 9 12)) 5 (K5 (aT r n kk12 kk16) 7 8 9 12 13)) (K5 (aDy r n kk12 kk16) 7 8 9 12 13) :=
 congrArg (fun k => D27 r n bMu (xs (xs (xs (xs x0 2 (K1 (aR r n) 9)) 3 (K4 kk12 7 8 9 12)) 4 (K4 kk12 7 8 9 12)) 5 (K5 (aT r n kk12 kk16) 7 8 9 12 13)) k) (cKn r n kk12 kk16)
theorem cHt (kk12 : bZ) (kk16 : bT) : D27 r n aIv (xs (xs (xs x0 2 (K1 (aR r n) 9)) 3 (K4 kk12 7 8 9 12)) 4 (K4 kk12 7 8 9 12)) (K5 kk16 7 8 9 12 13) = (K5 (aSq r n kk12 kk16) 7 8 9 12 13) :=
 (bBy r n kk12 kk16).trans
 ((by kernel_rfl : D27 r n aFx (xs (xs (xs x0 2 (K1 (aR r n) 9)) 3 (K4 kk12 7 8 9 12)) 4 (K4 kk12 7 8 9 12)) (K5 (aT r n kk12 kk16) 7 8 9 12 13) = D27 r n aDx (xs (xs (xs (xs x0 2 (K1 (aR r n) 9)) 3 (K4 kk12 7 8 9 12)) 4 (K4 kk12 7 8 9 12)) 5 (K5 (aT r n kk12 kk16) 7 8 9 12 13)) (K5 (aT r n kk12 kk16) 7 8 9 12 13)).trans
 ((bEn r n kk12 kk16).trans
 ((by kernel_rfl))))
theorem bCy (kk12 : bZ) (kk16 : bT) : D27 r n kZ (xs (xs (xs x0 2 (K1 (aR r n) 9)) 3 (K4 kk12 7 8 9 12)) 4 (K4 kk12 7 8 9 12)) (K5 kk16 7 8 9 12 13) = D27 r n bIj (xs (xs (xs x0 2 (K1 (aR r n) 9)) 3 (K4 kk12 7 8 9 12)) 4 (K4 kk12 7 8 9 12)) (K5 (aSq r n kk12 kk16) 7 8 9 12 13) :=
 congrArg (fun k => D27 r n bIj (xs (xs (xs x0 2 (K1 (aR r n) 9)) 3 (K4 kk12 7 8 9 12)) 4 (K4 kk12 7 8 9 12)) k) (cHt r n kk12 kk16)
theorem bKp (kk12 : bZ) (kk16 : bT) : D27 r n kZ (xs (xs (xs x0 2 (K1 (aR r n) 9)) 3 (K4 kk12 7 8 9 12)) 4 (K4 kk12 7 8 9 12)) (K5 kk16 7 8 9 12 13) = (K5 (aUv r n kk12 kk16) 7 8 9 12 13) :=
 (bCy r n kk12 kk16).trans
 ((by kernel_rfl))
theorem bVh (kk12 : bZ) (m : Nat) : aM (fun kk => D27 r n kZ (xs (xs (xs x0 2 (K1 (aR r n) 9)) 3 (K4 kk12 7 8 9 12)) 4 (K4 kk12 7 8 9 12)) kk) m = (K5 (vI r n kk12 m) 7 8 9 12 13) := by
 induction m with
 | zero => exact (by kernel_rfl : aM (fun kk => D27 r n kZ (xs (xs (xs x0 2 (K1 (aR r n) 9)) 3 (K4 kk12 7 8 9 12)) 4 (K4 kk12 7 8 9 12)) kk) 0 = (K5 (vI r n kk12 0) 7 8 9 12 13))
 | succ m ih =>
  refine (by kernel_rfl : aM (fun kk => D27 r n kZ (xs (xs (xs x0 2 (K1 (aR r n) 9)) 3 (K4 kk12 7 8 9 12)) 4 (K4 kk12 7 8 9 12)) kk) (m + 1) = D27 r n kZ (xs (xs (xs x0 2 (K1 (aR r n) 9)) 3 (K4 kk12 7 8 9 12)) 4 (K4 kk12 7 8 9 12)) (aM (fun kk => D27 r n kZ (xs (xs (xs x0 2 (K1 (aR r n) 9)) 3 (K4 kk12 7 8 9 12)) 4 (K4 kk12 7 8 9 12)) kk) m)).trans ?_
  rw [ih]
  exact (bKp r n kk12 (vI r n kk12 m)).trans (by kernel_rfl)
theorem cEt (kk12 : bZ) : D27 r n aCw (xs (xs (xs x0 2 (K1 (aR r n) 9)) 3 (K4 kk12 7 8 9 12)) 4 (K4 kk12 7 8 9 12)) (K4 kk12 7 8 9 12) = (K5 (bMg r n kk12) 7 8 9 12 13) :=
 (by kernel_rfl : D27 r n aCw (xs (xs (xs x0 2 (K1 (aR r n) 9)) 3 (K4 kk12 7 8 9 12)) 4 (K4 kk12 7 8 9 12)) (K4 kk12 7 8 9 12) = aM (fun kk => D27 r n kZ (xs (xs (xs x0 2 (K1 (aR r n) 9)) 3 (K4 kk12 7 8 9 12)) 4 (K4 kk12 7 8 9 12)) kk) n).trans ((bVh r n kk12 n).trans (by kernel_rfl))
theorem cBv (kk12 : bZ) : D27 r n aSy (xs (xs x0 2 (K1 (aR r n) 9)) 3 (K4 kk12 7 8 9 12)) (K4 kk12 7 8 9 12) = (K5 (aNc r n kk12) 7 8 9 12 13) :=
 (by kernel_rfl : D27 r n aSy (xs (xs x0 2 (K1 (aR r n) 9)) 3 (K4 kk12 7 8 9 12)) (K4 kk12 7 8 9 12) = D27 r n aCw (xs (xs (xs x0 2 (K1 (aR r n) 9)) 3 (K4 kk12 7 8 9 12)) 4 (K4 kk12 7 8 9 12)) (K4 kk12 7 8 9 12)).trans
 ((cEt r n kk12).trans (by kernel_rfl))
theorem bDx (kk12 : bZ) : D27 r n aHt (xs (xs x0 2 (K1 (aR r n) 9)) 3 (K4 kk12 7 8 9 12)) (K4 kk12 7 8 9 12) = D27 r n bRa (xs (xs x0 2 (K1 (aR r n) 9)) 3 (K4 kk12 7 8 9 12)) (K5 (aNc r n kk12) 7 8 9 12 13) :=
 congrArg (fun k => D27 r n bRa (xs (xs x0 2 (K1 (aR r n) 9)) 3 (K4 kk12 7 8 9 12)) k) (cBv r n kk12)
theorem cKj (kk12 : bZ) : D27 r n aHt (xs (xs x0 2 (K1 (aR r n) 9)) 3 (K4 kk12 7 8 9 12)) (K4 kk12 7 8 9 12) = (K4 (aSs r n kk12) 7 8 9 12) :=
 (bDx r n kk12).trans
 ((by kernel_rfl))
theorem bCo (kk12 : bZ) : D27 r n aFb (xs (xs x0 2 (K1 (aR r n) 9)) 3 (K4 kk12 7 8 9 12)) (K4 kk12 7 8 9 12) = D27 r n bJu (xs (xs x0 2 (K1 (aR r n) 9)) 3 (K4 kk12 7 8 9 12)) (K4 (aSs r n kk12) 7 8 9 12) :=
 congrArg (fun k => D27 r n bJu (xs (xs x0 2 (K1 (aR r n) 9)) 3 (K4 kk12 7 8 9 12)) k) (cKj r n kk12)
theorem cBi (kk12 : bZ) : D27 r n aQk (xs x0 2 (K1 (aR r n) 9)) (K4 kk12 7 8 9 12) = (K3 (aNr r n kk12) 7 8 9) :=
 (by kernel_rfl : D27 r n aQk (xs x0 2 (K1 (aR r n) 9)) (K4 kk12 7 8 9 12) = D27 r n aFb (xs (xs x0 2 (K1 (aR r n) 9)) 3 (K4 kk12 7 8 9 12)) (K4 kk12 7 8 9 12)).trans
 ((bCo r n kk12).trans
 ((by kernel_rfl)))
theorem bFc (kk12 : bZ) : D27 r n lD (xs x0 2 (K1 (aR r n) 9)) (K4 kk12 7 8 9 12) = D27 r n bGa (xs x0 2 (K1 (aR r n) 9)) (K3 (aNr r n kk12) 7 8 9) :=
 congrArg (fun k => D27 r n bGa (xs x0 2 (K1 (aR r n) 9)) k) (cBi r n kk12)
theorem bHi (kk12 : bZ) : D27 r n lD (xs x0 2 (K1 (aR r n) 9)) (K4 kk12 7 8 9 12) = (K4 (aWk r n kk12) 7 8 9 12) :=
 (bFc r n kk12).trans
 ((by kernel_rfl))
theorem bHs (m : Nat) : aM (fun kk => D27 r n lD (xs x0 2 (K1 (aR r n) 9)) kk) m = (K4 (vA r n m) 7 8 9 12) := by
 induction m with
 | zero => exact (by kernel_rfl : aM (fun kk => D27 r n lD (xs x0 2 (K1 (aR r n) 9)) kk) 0 = (K4 (vA r n 0) 7 8 9 12))
 | succ m ih =>
  refine (by kernel_rfl : aM (fun kk => D27 r n lD (xs x0 2 (K1 (aR r n) 9)) kk) (m + 1) = D27 r n lD (xs x0 2 (K1 (aR r n) 9)) (aM (fun kk => D27 r n lD (xs x0 2 (K1 (aR r n) 9)) kk) m)).trans ?_
  rw [ih]
  exact (bHi r n (vA r n m)).trans (by kernel_rfl)
theorem bZa : D27 r n aFc (xs x0 2 (K1 (aR r n) 9)) (K1 (aR r n) 9) = (K4 (bTy r n) 7 8 9 12) :=
 (by kernel_rfl : D27 r n aFc (xs x0 2 (K1 (aR r n) 9)) (K1 (aR r n) 9) = aM (fun kk => D27 r n lD (xs x0 2 (K1 (aR r n) 9)) kk) n).trans ((bHs r n n).trans (by kernel_rfl))
theorem cLl : D27 r n aQf x0 (K1 (aR r n) 9) = (K4 (aPa r n) 7 8 9 12) :=
 (by kernel_rfl : D27 r n aQf x0 (K1 (aR r n) 9) = D27 r n aFc (xs x0 2 (K1 (aR r n) 9)) (K1 (aR r n) 9)).trans
 ((bZa r n).trans (by kernel_rfl))
theorem bOh : D27 r n aZz x0 r27 = D27 r n wT x0 (K1 (aR r n) 9) :=
 congrArg (fun k => D27 r n wT x0 k) (cCn r n)
theorem bRv : D27 r n wT x0 (K1 (aR r n) 9) = D27 r n bQp x0 (K4 (aPa r n) 7 8 9 12) :=
 congrArg (fun k => D27 r n bQp x0 k) (cLl r n)
theorem cRg : D27 r n aZz x0 r27 = (K3 (dA r n) 7 8 9) :=
 (bOh r n).trans
 ((bRv r n).trans
 ((by kernel_rfl)))
theorem cIo (kk33 : bZ) : D27 r n cXq (xs x0 0 (K3 (dA r n) 7 8 9)) (K4 kk33 7 8 9 10) = (K4 (eM r n kk33) 7 8 9 10) :=
 (by kernel_rfl)
theorem bBl (kk33 : bZ) (q0 : bZ) (q1 : jF) : D27 r n bWq (xs (xs x0 0 (K3 q1 7 8 9)) 1 (K4 q0 7 8 9 10)) (K4 q0 7 8 9 10) = fun (env : bA) (h : Hp) =>
 bnd (aN [(aG 0)] 1 [(0, 1, (env 11))] h) fun v1 h1 =>
 bnd (aY 1 8 (env 9) v1 h1) fun v2 h2 =>
  q0 (env 7) (env 8) v2 (env 10) h2 := by kernel_rfl
theorem aQh (kk33 : bZ) : (fun (env : bA) (h : Hp) =>
 bnd (aN [(aG 0)] 1 [(0, 1, (env 11))] h) fun v1 h1 =>
 bnd (aY 1 8 (env 9) v1 h1) fun v2 h2 =>
  eM r n kk33 (env 7) (env 8) v2 (env 10) h2) = (K5 (wC r n kk33) 7 8 9 10 11) := by kernel_rfl
theorem cCp (kk33 : bZ) : D27 r n bWq (xs (xs x0 0 (K3 (dA r n) 7 8 9)) 1 (K4 (eM r n kk33) 7 8 9 10)) (K4 (eM r n kk33) 7 8 9 10) = (K5 (wC r n kk33) 7 8 9 10 11) :=
 (bBl r n kk33 (eM r n kk33) (dA r n)).trans (aQh r n kk33)
theorem bCj (kk33 : bZ) : D27 r n aEs (xs (xs x0 0 (K3 (dA r n) 7 8 9)) 1 (K4 (eM r n kk33) 7 8 9 10)) (K4 (eM r n kk33) 7 8 9 10) = D27 r n bPk (xs (xs x0 0 (K3 (dA r n) 7 8 9)) 1 (K4 (eM r n kk33) 7 8 9 10)) (K5 (wC r n kk33) 7 8 9 10 11) :=
 congrArg (fun k => D27 r n bPk (xs (xs x0 0 (K3 (dA r n) 7 8 9)) 1 (K4 (eM r n kk33) 7 8 9 10)) k) (cCp r n kk33)
theorem cKk (kk33 : bZ) : D27 r n aEs (xs (xs x0 0 (K3 (dA r n) 7 8 9)) 1 (K4 (eM r n kk33) 7 8 9 10)) (K4 (eM r n kk33) 7 8 9 10) = (K5 (aQt r n kk33) 7 8 9 10 11) :=
 (bCj r n kk33).trans
 ((by kernel_rfl))
theorem bDi (kk33 : bZ) : D27 r n aIf (xs x0 0 (K3 (dA r n) 7 8 9)) (K4 kk33 7 8 9 10) = D27 r n aEy (xs x0 0 (K3 (dA r n) 7 8 9)) (K4 (eM r n kk33) 7 8 9 10) :=
 congrArg (fun k => D27 r n aEy (xs x0 0 (K3 (dA r n) 7 8 9)) k) (cIo r n kk33)
theorem bDy (kk33 : bZ) : D27 r n aBw (xs (xs x0 0 (K3 (dA r n) 7 8 9)) 1 (K4 (eM r n kk33) 7 8 9 10)) (K4 (eM r n kk33) 7 8 9 10) = D27 r n bKu (xs (xs x0 0 (K3 (dA r n) 7 8 9)) 1 (K4 (eM r n kk33) 7 8 9 10)) (K5 (aQt r n kk33) 7 8 9 10 11) :=
 congrArg (fun k => D27 r n bKu (xs (xs x0 0 (K3 (dA r n) 7 8 9)) 1 (K4 (eM r n kk33) 7 8 9 10)) k) (cKk r n kk33)
theorem cCz (kk33 : bZ) : D27 r n aIf (xs x0 0 (K3 (dA r n) 7 8 9)) (K4 kk33 7 8 9 10) = (K4 (aSm r n kk33) 7 8 9 10) :=
 (bDi r n kk33).trans
 ((by kernel_rfl : D27 r n aEy (xs x0 0 (K3 (dA r n) 7 8 9)) (K4 (eM r n kk33) 7 8 9 10) = D27 r n aBw (xs (xs x0 0 (K3 (dA r n) 7 8 9)) 1 (K4 (eM r n kk33) 7 8 9 10)) (K4 (eM r n kk33) 7 8 9 10)).trans
 ((bDy r n kk33).trans
 ((by kernel_rfl))))
theorem bBp (kk33 : bZ) : D27 r n kV (xs x0 0 (K3 (dA r n) 7 8 9)) (K4 kk33 7 8 9 10) = D27 r n bJz (xs x0 0 (K3 (dA r n) 7 8 9)) (K4 (aSm r n kk33) 7 8 9 10) :=
 congrArg (fun k => D27 r n bJz (xs x0 0 (K3 (dA r n) 7 8 9)) k) (cCz r n kk33)
theorem bGq (kk33 : bZ) : D27 r n kV (xs x0 0 (K3 (dA r n) 7 8 9)) (K4 kk33 7 8 9 10) = (K4 (bAr r n kk33) 7 8 9 10) :=
 (bBp r n kk33).trans
 ((by kernel_rfl))
theorem bRx (m : Nat) : aM (fun kk => D27 r n kV (xs x0 0 (K3 (dA r n) 7 8 9)) kk) m = (K4 (tX r n m) 7 8 9 10) := by
 induction m with
 | zero => exact (by kernel_rfl : aM (fun kk => D27 r n kV (xs x0 0 (K3 (dA r n) 7 8 9)) kk) 0 = (K4 (tX r n 0) 7 8 9 10))
 | succ m ih =>
  refine (by kernel_rfl : aM (fun kk => D27 r n kV (xs x0 0 (K3 (dA r n) 7 8 9)) kk) (m + 1) = D27 r n kV (xs x0 0 (K3 (dA r n) 7 8 9)) (aM (fun kk => D27 r n kV (xs x0 0 (K3 (dA r n) 7 8 9)) kk) m)).trans ?_
  rw [ih]
  exact (bGq r n (tX r n m)).trans (by kernel_rfl)
theorem cAp : D27 r n aIa (xs x0 0 (K3 (dA r n) 7 8 9)) (K3 (dA r n) 7 8 9) = (K4 (bXu r n) 7 8 9 10) :=
 (by kernel_rfl : D27 r n aIa (xs x0 0 (K3 (dA r n) 7 8 9)) (K3 (dA r n) 7 8 9) = aM (fun kk => D27 r n kV (xs x0 0 (K3 (dA r n) 7 8 9)) kk) n).trans ((bRx r n n).trans (by kernel_rfl))
theorem cDd : D27 r n aPd x0 (K3 (dA r n) 7 8 9) = (K4 (aOl r n) 7 8 9 10) :=
 (by kernel_rfl : D27 r n aPd x0 (K3 (dA r n) 7 8 9) = D27 r n aIa (xs x0 0 (K3 (dA r n) 7 8 9)) (K3 (dA r n) 7 8 9)).trans
 ((cAp r n).trans (by kernel_rfl))
theorem bKk : D27 r n aVp x0 r27 = D27 r n zW x0 (K3 (dA r n) 7 8 9) :=
 congrArg (fun k => D27 r n zW x0 k) (cRg r n)
theorem bFu : D27 r n zW x0 (K3 (dA r n) 7 8 9) = D27 r n bSb x0 (K4 (aOl r n) 7 8 9 10) :=
 congrArg (fun k => D27 r n bSb x0 k) (cDd r n)
theorem cWt : D27 r n aVp x0 r27 = (K3 (bUd r n) 7 8 9) :=
 (bKk r n).trans
 ((bFu r n).trans
 ((by kernel_rfl)))
theorem bMy : D27 r n aVy x0 r27 = D27 r n bUk x0 (K3 (bUd r n) 7 8 9) :=
 congrArg (fun k => D27 r n bUk x0 k) (cWt r n)
theorem cWv : D27 r n aVy x0 r27 = (K2 (bKb r n) 7 8) :=
 (bMy r n).trans
 ((by kernel_rfl))
theorem bJr : D27 r n aZt x0 r27 = D27 r n bMb x0 (K2 (bKb r n) 7 8) :=
 congrArg (fun k => D27 r n bMb x0 k) (cWv r n)
theorem cXz : D27 r n aZt x0 r27 = (K3 (bTt r n) 6 7 8) :=
 (bJr r n).trans
 ((by kernel_rfl))
theorem bIs : D27 r n aTl x0 r27 = D27 r n bSq x0 (K3 (bTt r n) 6 7 8) :=
 congrArg (fun k => D27 r n bSq x0 k) (cXz r n)
theorem cPo : D27 r n aTl x0 r27 = (K2 (bQz r n) 7 8) :=
 (bIs r n).trans
 ((by kernel_rfl))
theorem bWs : D27 r n bAf x0 r27 = D27 r n bKn x0 (K2 (bQz r n) 7 8) :=
 congrArg (fun k => D27 r n bKn x0 k) (cPo r n)
theorem cRq : D27 r n bAf x0 r27 = (K1 (bMa r n) 7) :=
 (bWs r n).trans
 ((by kernel_rfl))
theorem bNf : D27 r n bBd x0 r27 = D27 r n bFq x0 (K1 (bMa r n) 7) :=
 congrArg (fun k => D27 r n bFq x0 k) (cRq r n)
theorem cSi : D27 r n bBd x0 r27 = (K1 (bGv r n) 2) :=
 (bNf r n).trans
 ((by kernel_rfl))
theorem bLv : D27 r n aYc x0 r27 = D27 r n bNa x0 (K1 (bGv r n) 2) :=
 congrArg (fun k => D27 r n bNa x0 k) (cSi r n)
theorem cWj : D27 r n aYc x0 r27 = (K2 (aAo r n) 2 6) :=
 (bLv r n).trans
 ((by kernel_rfl))
theorem bSc : D27 r n bBb x0 r27 = D27 r n bPs x0 (K2 (aAo r n) 2 6) :=
 congrArg (fun k => D27 r n bPs x0 k) (cWj r n)
theorem cTm : D27 r n bBb x0 r27 = (K2 (aLi r n) 1 2) :=
 (bSc r n).trans
 ((by kernel_rfl))
theorem cYa : D27 r n c27 x0 r27 = D27 r n aRw x0 (K2 (aLi r n) 1 2) :=
 congrArg (fun k => D27 r n aRw x0 k) (cTm r n)
theorem cSx (q0 : tS) : D27 r n aRw x0 (K2 q0 1 2) = fun (env : bA) (h : Hp) =>
 bnd (bU (env 0) h) fun v1 h1 =>
  q0 (env 1) v1 h1 := by kernel_rfl
theorem cKr : (fun (env : bA) (h : Hp) =>
 bnd (bU (env 0) h) fun v1 h1 =>
  aLi r n (env 1) v1 h1) = (K2 (s27 r n) 0 1) := by kernel_rfl
theorem dMo : D27 r n c27 x0 r27 = (K2 (s27 r n) 0 1) :=
 (cYa r n).trans
 ((cSx r n (aLi r n)).trans (cKr r n))
theorem cOg : aF CF r n 27 args h = s27 r n (aW args 0) (aW args 1) h :=
 (by kernel_rfl : aF CF r n 27 args h = D27 r n c27 x0 r27 (aJ args) h).trans ((congrFun (congrFun (dMo r n) (aJ args)) h).trans (by kernel_rfl))
noncomputable def iH (r : RT) (n : Nat) (h0 : Hp) : aH :=
 some ((.b true), h0)
noncomputable def aDw (r : RT) (n : Nat) (kk5 : jF) (x2 x3 x5 : DV) (h0 : Hp) : aH :=
 bnd (aB 3 x2 h0) fun v1 h1 =>
 bnd (aA v1 h1) fun v2 h2 =>
 bnd (cB v2 h2) fun v3 h3 =>
 bnd (aD .lss x5 v3 h3) fun v4 h4 =>
 aX v4 (
 bnd (aB 3 x2 h4) fun v5 h5 =>
 bnd (aA v5 h5) fun v6 h6 =>
 bnd (aE 4 v6 x5 h6) fun v7 h7 =>
 bnd (aK 4 v7 h7) fun v8 h8 =>
 bnd (aB 3 x3 h8) fun v9 h9 =>
 bnd (aA v9 h9) fun v10 h10 =>
 bnd (aE 4 v10 x5 h10) fun v11 h11 =>
 bnd (aK 4 v11 h11) fun v12 h12 =>
 bnd (r 28 [v8, v12] h12) fun v13 h13 =>
 bnd (jE .not v13 h13) fun v14 h14 =>
 aX v14 (
 some ((.b false), h14)) (
 bnd (aD .add x5 (aG 1) h14) fun v15 h15 =>
    kk5 x2 x3 v15 h15)) (
      iH r n h4)
noncomputable def sU (r : RT) (n : Nat) (m : Nat) : jF :=
 Nat.rec (motive := fun _ => jF) (fun _ _ _ _ => none) (fun _ ih => aDw r n ih) m
noncomputable def cOd (r : RT) (n : Nat) : jF := sU r n n
noncomputable def aZw (r : RT) (n : Nat) (x2 x3 x5 : DV) (h0 : Hp) : aH :=
 cOd r n x2 x3 x5 h0
noncomputable def aZg (r : RT) (n : Nat) (x2 x3 : DV) (h0 : Hp) : aH :=
 aZw r n x2 x3 (aG 0) h0
noncomputable def aBc (r : RT) (n : Nat) (x2 x3 : DV) (h0 : Hp) : aH :=
 bnd (aB 0 x2 h0) fun v1 h1 =>
 bnd (aA v1 h1) fun v2 h2 =>
 bnd (aB 0 x3 h2) fun v3 h3 =>
 bnd (aA v3 h3) fun v4 h4 =>
 bnd (aD .neq v2 v4 h4) fun v5 h5 =>
 bnd (gD v5 false (aB 1 x2 h5) h5) fun v6 h6 =>
 bnd (gD v5 false (aA v6 h6) h6) fun v7 h7 =>
 bnd (gD v5 false (aB 1 x3 h7) h7) fun v8 h8 =>
 bnd (gD v5 false (aA v8 h8) h8) fun v9 h9 =>
 bnd (gD v5 false (gC .neq v7 v9 h9) h9) fun v10 h10 =>
 bnd (aQ v5 (.b true) v10 h10) fun v11 h11 =>
 bnd (gD v11 false (aB 2 x2 h11) h11) fun v12 h12 =>
 bnd (gD v11 false (aA v12 h12) h12) fun v13 h13 =>
 bnd (gD v11 false (aB 2 x3 h13) h13) fun v14 h14 =>
 bnd (gD v11 false (aA v14 h14) h14) fun v15 h15 =>
 bnd (gD v11 false (aD .neq v13 v15 h15) h15) fun v16 h16 =>
 bnd (aQ v11 (.b true) v16 h16) fun v17 h17 =>
 bnd (gD v17 false (aB 3 x2 h17) h17) fun v18 h18 =>
 bnd (gD v17 false (aA v18 h18) h18) fun v19 h19 =>
 bnd (gD v17 false (cB v19 h19) h19) fun v20 h20 =>
 bnd (gD v17 false (aB 3 x3 h20) h20) fun v21 h21 =>
 bnd (gD v17 false (aA v21 h21) h21) fun v22 h22 =>
 bnd (gD v17 false (cB v22 h22) h22) fun v23 h23 =>
 bnd (gD v17 false (aD .neq v20 v23 h23) h23) fun v24 h24 =>
 bnd (aQ v17 (.b true) v24 h24) fun v25 h25 =>
 aX v25 (
 some ((.b false), h25)) (
  aZg r n x2 x3 h25)
noncomputable def s28 (r : RT) (n : Nat) (x0 x1 : DV) (h0 : Hp) : aH :=
 bnd (bU x0 h0) fun v1 h1 =>
 bnd (bU x1 h1) fun v2 h2 =>
  aBc r n v1 v2 h2
noncomputable abbrev c28 : Code := cf Tryz.f28
noncomputable abbrev aZa : Code := cR c28
noncomputable abbrev aTh : Code := cR aZa
noncomputable abbrev dEl : Code := cR aTh
noncomputable abbrev aMt : Code := cL aTh
noncomputable abbrev bMo : Code := cR aMt
noncomputable abbrev bAh : Code := cL bMo
noncomputable abbrev zH : Code := cL bAh
noncomputable abbrev cMr : Code := cL aMt
noncomputable abbrev cOt : Code := cL aZa
noncomputable abbrev aPw : Code := cL c28
noncomputable abbrev r28 : K := aV CF Tryz.f28
noncomputable def D28 (r : RT) (n : Nat) (c : Code) (X : Nat → K) (k : K) : K := aP CF r 55 n c X r28 k
theorem cTe : D28 r n dEl x0 r28 = (K0 (iH r n)) :=
 (by kernel_rfl)
theorem cCo (kk5 : jF) : D28 r n zH (xs x0 0 (K0 (iH r n))) (K3 kk5 2 3 5) = (K3 (aDw r n kk5) 2 3 5) :=
 (by kernel_rfl)
theorem cMj (m : Nat) : aM (fun kk => D28 r n zH (xs x0 0 (K0 (iH r n))) kk) m = (K3 (sU r n m) 2 3 5) := by
 induction m with
 | zero => exact (by kernel_rfl : aM (fun kk => D28 r n zH (xs x0 0 (K0 (iH r n))) kk) 0 = (K3 (sU r n 0) 2 3 5))
 | succ m ih =>
  refine (by kernel_rfl : aM (fun kk => D28 r n zH (xs x0 0 (K0 (iH r n))) kk) (m + 1) = D28 r n zH (xs x0 0 (K0 (iH r n))) (aM (fun kk => D28 r n zH (xs x0 0 (K0 (iH r n))) kk) m)).trans ?_
  rw [ih]
  exact (cCo r n (sU r n m)).trans (by kernel_rfl)
theorem cQj : D28 r n bAh (xs x0 0 (K0 (iH r n))) (K0 (iH r n)) = (K3 (cOd r n) 2 3 5) :=
 (by kernel_rfl : D28 r n bAh (xs x0 0 (K0 (iH r n))) (K0 (iH r n)) = aM (fun kk => D28 r n zH (xs x0 0 (K0 (iH r n))) kk) n).trans ((cMj r n n).trans (by kernel_rfl))
theorem cVa : D28 r n bMo x0 (K0 (iH r n)) = (K3 (aZw r n) 2 3 5) :=
 (by kernel_rfl : D28 r n bMo x0 (K0 (iH r n)) = D28 r n bAh (xs x0 0 (K0 (iH r n))) (K0 (iH r n))).trans
 ((cQj r n).trans (by kernel_rfl))
theorem cAe : D28 r n aTh x0 r28 = D28 r n aMt x0 (K0 (iH r n)) :=
 congrArg (fun k => D28 r n aMt x0 k) (cTe r n)
theorem cHr : D28 r n aMt x0 (K0 (iH r n)) = D28 r n cMr x0 (K3 (aZw r n) 2 3 5) :=
 congrArg (fun k => D28 r n cMr x0 k) (cVa r n)
theorem cRz : D28 r n aTh x0 r28 = (K2 (aZg r n) 2 3) :=
 (cAe r n).trans
 ((cHr r n).trans
 ((by kernel_rfl)))
theorem cGg : D28 r n aZa x0 r28 = D28 r n cOt x0 (K2 (aZg r n) 2 3) :=
 congrArg (fun k => D28 r n cOt x0 k) (cRz r n)
theorem cRn : D28 r n aZa x0 r28 = (K2 (aBc r n) 2 3) :=
 (cGg r n).trans
 ((by kernel_rfl))
theorem dDk : D28 r n c28 x0 r28 = D28 r n aPw x0 (K2 (aBc r n) 2 3) :=
 congrArg (fun k => D28 r n aPw x0 k) (cRn r n)
theorem dFx (q0 : tS) : D28 r n aPw x0 (K2 q0 2 3) = fun (env : bA) (h : Hp) =>
 bnd (bU (env 0) h) fun v1 h1 =>
 bnd (bU (env 1) h1) fun v2 h2 =>
  q0 v1 v2 h2 := by kernel_rfl
theorem cVi : (fun (env : bA) (h : Hp) =>
 bnd (bU (env 0) h) fun v1 h1 =>
 bnd (bU (env 1) h1) fun v2 h2 =>
  aBc r n v1 v2 h2) = (K2 (s28 r n) 0 1) := by kernel_rfl
theorem dHu : D28 r n c28 x0 r28 = (K2 (s28 r n) 0 1) :=
 (dDk r n).trans
 ((dFx r n (aBc r n)).trans (cVi r n))
theorem cNv : aF CF r n 28 args h = s28 r n (aW args 0) (aW args 1) h :=
 (by kernel_rfl : aF CF r n 28 args h = D28 r n c28 x0 r28 (aJ args) h).trans ((congrFun (congrFun (dHu r n) (aJ args)) h).trans (by kernel_rfl))
end Go.Dd

