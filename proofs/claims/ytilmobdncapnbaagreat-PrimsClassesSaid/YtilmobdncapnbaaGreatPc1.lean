/- A part of the proof: N O CH RF1 RF2 RF3 RF4 RF5 RF6 RF7 SM SN RS RG MF Qh Q0 Q1 Q2: each text has a comment of its own. -/
import Derived.Test.YtilmobdncapnbaaGreatPc0
import Derived.LoopN
import Derived.Scope
import Derived.OrdersIn
import Derived.LoopNIn
import Derived.LoopIn
import Derived.RangeFuncIn
import Derived.RangeFuncCalls
import Derived.RangeFuncLeaves
import Derived.Test.YtilmobdncapnbaaGreatProg
import Derived.KernelRfl
set_option linter.unusedVariables false
set_option linter.unusedSimpArgs false
set_option linter.constructorNameAsVariable false
set_option maxRecDepth 100000
namespace Go.Dd
open Go.RowKit (Below)
section
variable {C : Cfg} {G : Gd} {rec : FuncId → List DV → Hp → aJ} {ops : Array Oper} {nt : Nat} {p0 : Pos}
theorem qP {listed : Array Bool} {i : Nat} : i ∈ Region.ready .any ops listed ↔ i < ops.size ∧ listed.getD i true = false ∧ ∃ o, ops[i]? = some o ∧ ∀ e ∈ o.after, Region.binds .any e = true → listed.getD e.on false = true := by
 unfold Region.ready
 rw [List.mem_filter]
 simp only [List.mem_range, Bool.and_eq_true, Bool.not_eq_eq_eq_not, Bool.not_true]
 constructor
 ·rintro ⟨h1, h2, h3⟩
  refine ⟨h1, h2, ops[i], by simp [h1], fun e he hb => ?_⟩
  simp only [h1, getElem?_pos, Option.map_some, Option.getD_some] at h3
  have := (Array.all_eq_true_iff_forall_mem.1 h3) e he
  simpa [hb] using this
 ·rintro ⟨h1, h2, o, ho, h3⟩
  refine ⟨h1, h2, ?_⟩
  simp only [ho, Option.map_some, Option.getD_some]
  refine Array.all_eq_true_iff_forall_mem.2 fun e he => ?_
  cases hb : Region.binds .any e with
  | false => simp
  | true => simp [h3 e he hb]
noncomputable def idp (C : Cfg) (ops : Array Oper) (p0 : Pos) (p : Nat) : Pos := bY (cD C.P (ops.toList.take p)) p0
structure Tr1 (C : Cfg) (rec : FuncId → List DV → Hp → aJ) (ops : Array Oper) (nt : Nat) (p0 : Pos) (E : Nat → aY) (Hh : Nat → Hp) (V : Nat → DV) : Prop where
 ok : fB C.P ops = true
 st : ∀ p o, ops[p]? = some o → StepT C rec ops (Region.before ops) nt (idp C ops p0 p) E Hh V 0 [(none, Hh 0)] p o
theorem Tr1.same {E : Nat → aY} {Hh : Nat → Hp} {V : Nat → DV} (T : Tr1 C rec ops nt p0 E Hh V) {p : Nat} {o : Oper} (ho : ops[p]? = some o) (hc : bV C.P o.op ≠ .acts) (hm : bV C.P o.op ≠ .makes) : Hh (p + 1) = Hh p := by
 have hs := (T.st p o ho).step hm
 cases hcl : bV C.P o.op with
 | pure => exact (qO hcl _ _ _ hs).1
 | reads => exact nQ hcl hs
 | makes => exact absurd hcl hm
 | acts => exact absurd hcl hc
def dAb (C : Cfg) (ops : Array Oper) (q : Nat) : Prop := q = 0 ∨ ∃ j oj, ops[j]? = some oj ∧ bV C.P oj.op = .acts ∧ q = j + 1
theorem oK {m : Array Nat} {i q : Nat} {Pv : Hp → Prop} {Hh : Nat → Hp} {tl : List (Option Nat × Hp)} : ∀ d, q ≤ d → qL m i Pv (iL C ops Hh 0 d ++ tl) →
  (∀ j oj, ops[j]? = some oj → bV C.P oj.op = .acts → q ≤ j → j < d → ¬ gC m j i = true) → qL m i Pv (iL C ops Hh 0 q ++ tl)
 | 0, hq, hc, _ => by have : q = 0 := by omega
                      subst this; exact hc
 | d + 1, hq, hc, hno => by
  by_cases e : q = d + 1
  ·subst e; exact hc
  ·have hq' : q ≤ d := by omega
   simp only [iL, Nat.zero_add] at hc
   cases ha : jK C ops d with
   | false =>
    rw [ha] at hc
    simp only [Bool.false_eq_true, if_false, List.nil_append] at hc
    exact oK d hq' hc fun j oj h1 h2 h3 h4 => hno j oj h1 h2 h3 (by omega)
   | true =>
    rw [ha] at hc
    simp only [if_true, List.cons_append, List.nil_append] at hc
    obtain ⟨_, h2⟩ := hc
    have ⟨oj, hoj, hcj⟩ : ∃ oj, ops[d]? = some oj ∧ bV C.P oj.op = .acts := by
     unfold jK at ha
     split at ha
     ·rename_i o ho; exact ⟨o, ho, by simpa using ha⟩
     ·cases ha
    rcases h2 with h2 | h2
    ·exact absurd h2 (hno d oj hoj hcj hq' (by omega))
    ·exact oK d hq' h2 fun j oj h1 h2 h3 h4 => hno j oj h1 h2 h3 (by omega)
theorem Tr1.value {E : Nat → aY} {Hh : Nat → Hp} {V : Nat → DV} (T : Tr1 C rec ops nt p0 E Hh V) {listed : Array Bool} {i q : Nat} {o : Oper} (ho : ops[i]? = some o) (hc : bV C.P o.op ≠ .acts) (hm : bV C.P o.op ≠ .makes)
  (hq : dAb C ops q) (hgap : ∀ j oj, ops[j]? = some oj → bV C.P oj.op = .acts → (j < q ↔ S listed j))
  (hni : ¬ S listed i) (hdown : ∀ j x, gC (Region.before ops) j x = true → S listed x → S listed j) (hpre : ∀ j, gC (Region.before ops) j i = true → S listed j) :
  bI C rec ops o (E i) (Hh q) = some (V i, Hh q) := by
 have hst := T.st i o ho
 cases hcl : bV C.P o.op with
 | acts => exact absurd hcl hc
 | makes => exact absurd hcl hm
 | pure => exact (qO hcl _ _ _ (hst.step hm)).2 _
 | reads =>
  rcases Nat.lt_or_ge i q with h | h
  ·rcases hq with rfl | ⟨j, oj, hj, haj, rfl⟩
   ·omega
   ·have hSj : S listed j := (hgap j oj hj haj).1 (by omega)
    have hij : i ≠ j := fun e => by subst e; exact hni hSj
    rcases (T.st j oj hj).acts haj i o (Nat.zero_le _) (by omega) ho hcl with h3 | h3
    ·exact absurd (hdown i j h3 hSj) hni
    ·exact sF hcl h3
  ·have h1 := hst.reads hcl
   rw [Nat.sub_zero] at h1
   have h2 := oK (q := q) i h h1 fun j oj hj haj hqj hji hord => by
    have := (hgap j oj hj haj).2 (hpre j hord)
    omega
   rcases hq with rfl | ⟨j, oj, hj, haj, rfl⟩
   ·exact h2.1
   ·simp only [iL, Nat.zero_add, (bHe hj).2 haj, if_true, List.cons_append, List.nil_append] at h2
    exact h2.1
theorem cTl {listed : Array Bool} {i j : Nat} (hi : i < listed.size) : S (listed.setIfInBounds i true) j ↔ (j = i ∨ S listed j) := by
 unfold S
 by_cases e : j = i
 ·subst e; simp [hi]
 ·simp [Array.getElem?_setIfInBounds_ne (Ne.symm e), e]
theorem qF {listed : Array Bool} {i : Nat} (hi : i < listed.size) : listed.getD i true = listed.getD i false := by
 simp [hi]
theorem cXn {V : Nat → DV} {env : aY} {listed : Array Bool} {i : Nat} {o : Oper} (ho : ops[i]? = some o) (hi : i < listed.size) (hni : ¬ S listed i) (t : Nat)
  (hlast : ∀ j oj, i < j → ops[j]? = some oj → oj.dst = some t → o.dst = some t → ¬ S listed j) :
  ∀ p, i < p → TS ops V env (listed.setIfInBounds i true) p t = if o.dst = some t then V i else TS ops V env listed p t := by
 have hbefore : ∀ p, p ≤ i → TS ops V env (listed.setIfInBounds i true) p = TS ops V env listed p := by
  intro p
  induction p with
  | zero => intro _; rfl
  | succ p ih =>
   intro h
   have e : (listed.setIfInBounds i true).getD p false = listed.getD p false := by simp [Array.getElem?_setIfInBounds_ne (show i ≠ p by omega)]
   simp only [TS, ih (by omega), e]
 intro p
 induction p with
 | zero => intro h; omega
 | succ p ih =>
  intro h
  by_cases hpi : p = i
  ·subst hpi
   have e1 : (listed.setIfInBounds p true).getD p false = true := by simp [hi]
   have e2 : ¬ listed.getD p false = true := hni
   simp only [TS, ho, hbefore p (Nat.le_refl _), e1, if_true, lK]
   rw [if_neg e2]
  ·have ih' := ih (by omega)
   have e : (listed.setIfInBounds i true).getD p false = listed.getD p false := by simp [Array.getElem?_setIfInBounds_ne (Ne.symm hpi)]
   cases hop : ops[p]? with
   | none => simp only [TS, hop]; exact ih'
   | some op =>
    simp only [TS, hop, e]
    split
    ·rename_i hl
     rw [lK, lK, ih']
     by_cases hd : op.dst = some t
     ·rw [if_pos hd, if_pos hd]
      by_cases hod : o.dst = some t
      ·exact absurd hl (hlast p op (by omega) hop hd hod)
      ·rw [if_neg hod]
     ·rw [if_neg hd, if_neg hd]
    ·exact ih'
def iO (C : Cfg) (ops : Array Oper) (listed : Array Bool) (q i : Nat) : Prop := ∃ o, ops[i]? = some o ∧ bV C.P o.op = .makes ∧ S listed i ∧ q ≤ i
def GX (G : Gd) (N : Nat) (C : Cfg) (ops : Array Oper) (listed : Array Bool) (R : Nat → Nat) (q : Nat) : Gd := ⟨G.B, fun k => G.X k ∨ ∃ i, iO C ops listed q i ∧ R i = k, N, G.W, G.ok⟩
structure Made (G : Gd) (C : Cfg) (ops : Array Oper) (p0 : Pos) (Hh : Nat → Hp) (ρ : cZ) (w : World) (R : Nat → Nat) (i : Nat) : Prop where
 name : ρ (idp C ops p0 i) = some ⟨R i, 0, 0, none⟩
 low : G.B ≤ R i
 ex : ¬ G.X (R i)
 row : ∃ (arr : Array Value) (t : TypeId) (cs : List DV), w.heap[R i]? = some (.cells arr t (0, 0)) ∧ VRs ρ cs arr.toList ∧ Hh (i + 1) = ⟨(Hh i).next, Tr.set (.row .ex cs) (idp C ops p0 i) (Hh i).bl⟩
theorem aNb {E : Nat → aY} {Hh : Nat → Hp} {V : Nat → DV} (T : Tr1 C rec ops nt p0 E Hh V) {listed : Array Bool} {R : Nat → Nat} {N q : Nat} {ρ : cZ} {w : World}
  (hmade : ∀ i, iO C ops listed q i → Made G C ops p0 Hh ρ w R i) (hdist : ∀ i i', iO C ops listed q i → iO C ops listed q i' → R i = R i' → i = i') :
  ∀ p, q ≤ p → p ≤ ops.size → (∀ j oj, ops[j]? = some oj → q ≤ j → j < p → bV C.P oj.op ≠ .acts ∧ (bV C.P oj.op = .makes → S listed j)) →
  HR (GX G N C ops listed R q) ρ (Hh q) w → HR (GX G N C ops listed R p) ρ (Hh p) w := by
 intro p
 induction p with
 | zero => intro h1 _ _ H; have : q = 0 := by omega
           subst this; exact H
 | succ p ih =>
  intro h1 h2 hr H
  by_cases e : q = p + 1
  ·subst e; exact H
  ·have H' := ih (by omega) (by omega) (fun j oj hj hq hjp => hr j oj hj hq (by omega)) H
   obtain ⟨o, ho⟩ : ∃ o, ops[p]? = some o := ⟨ops[p], by simp [show p < ops.size by omega]⟩
   obtain ⟨ha, hm⟩ := hr p o ho (by omega) (by omega)
   have hsub : ∀ k, (GX G N C ops listed R (p + 1)).X k → (GX G N C ops listed R p).X k := by
    rintro k (hk | ⟨i, ⟨oi, h3, h4, h5, h6⟩, h7⟩)
    ·exact .inl hk
    ·exact .inr ⟨i, ⟨oi, h3, h4, h5, by omega⟩, h7⟩
   by_cases hmk : bV C.P o.op = .makes
   ·have hE : iO C ops listed q p := ⟨o, ho, hmk, hm hmk, by omega⟩
    have hM := hmade p hE
    obtain ⟨arr, t, cs, r1, r2, r3⟩ := hM.row
    rw [r3]
    refine dTq (G := GX G N C ops listed R (p + 1)) H' rfl hsub (Nat.le_refl _) rfl hM.name r1 r2 hM.low ?_ (.inr ⟨p, ⟨o, ho, hmk, hm hmk, Nat.le_refl _⟩, rfl⟩)
    rintro (hk | ⟨i, ⟨oi, h3, h4, h5, h6⟩, h7⟩)
    ·exact hM.ex hk
    ·have := hdist i p ⟨oi, h3, h4, h5, by omega⟩ hE h7
     omega
   ·rw [T.same ho ha hmk]
    exact H'.weak rfl hsub (Nat.le_refl _) rfl
def Inv (DD : List Deferred) (C : Cfg) (G : Gd) (ops : Array Oper) (nt : Nat) (p0 : Pos) (N : Nat) (E : Nat → aY) (Hh : Nat → Hp) (V : Nat → DV) (ρ : cZ) (w0 : World) (listed : Array Bool) (a : Act) (w : World) : Prop :=
 listed.size = ops.size ∧ (∀ j x, gC (Region.before ops) j x = true → S listed x → S listed j) ∧
 ∃ q, q ≤ ops.size ∧ dAb C ops q ∧ (∀ j oj, ops[j]? = some oj → bV C.P oj.op = .acts → (j < q ↔ S listed j)) ∧
 ∃ (ρ' : cZ) (R : Nat → Nat), Ex G ρ ρ' ∧ HR (GX G N C ops listed R q) ρ' (Hh q) w ∧ EnvR ρ' (TS ops V (E 0) listed ops.size) a ∧ Kp G w0 w ∧ nt ≤ a.tmps.size ∧ a.defers = DD ∧
  (∀ i o, ops[i]? = some o → bV C.P o.op = .makes → ¬ S listed i → ρ' (idp C ops p0 i) = none) ∧
  (∀ i, iO C ops listed q i → Made G C ops p0 Hh ρ' w R i) ∧ (∀ i i', iO C ops listed q i → iO C ops listed q i' → R i = R i' → i = i')
theorem bZf {i : Nat} {o : Oper} (ho : ops[i]? = some o) (hm : bV C.P o.op = .makes) : (idp C ops p0 i).toNat < p0.toNat + cD C.P ops.toList := by
 unfold idp
 rw [dX]
 have hlt : i < ops.toList.length := by
  rcases Nat.lt_or_ge i ops.toList.length with h | h
  ·exact h
  ·simp at h; simp [Array.getElem?_eq_none h] at ho
 have key : ∀ (l : List Oper) (i : Nat), l[i]? = some o → cD C.P (l.take i) < cD C.P l := by
  intro l
  induction l with
  | nil => intro i h; simp at h
  | cons x l ih =>
   intro i h
   cases i with
   | zero => simp at h; subst h; simp [cD, hm]; omega
   | succ i => simp at h; have := ih i h; simp only [List.take_succ_cons, cD]; omega
 have := key ops.toList i (by simpa using ho)
 omega
theorem cWg {i i' : Nat} {o o' : Oper} (ho : ops[i]? = some o) (hm : bV C.P o.op = .makes) (ho' : ops[i']? = some o') (hm' : bV C.P o'.op = .makes) (hne : i ≠ i') : idp C ops p0 i ≠ idp C ops p0 i' := by
 have key : ∀ (l : List Oper) (i j : Nat) (o : Oper), l[i]? = some o → bV C.P o.op = .makes → i < j → cD C.P (l.take i) < cD C.P (l.take j) := by
  intro l
  induction l with
  | nil => intro i j o h; simp at h
  | cons x l ih =>
   intro i j o h hm hij
   cases j with
   | zero => omega
   | succ j =>
    cases i with
    | zero => simp at h; subst h; simp only [List.take_succ_cons, cD, hm, List.take_zero]; omega
    | succ i => simp at h; have := ih i j o h hm (by omega); simp only [List.take_succ_cons, cD]; omega
 intro e
 have e' := congrArg Pos.toNat e
 unfold idp at e'
 rw [dX, dX] at e'
 rcases Nat.lt_or_ge i i' with h | h
 ·have := key ops.toList i i' o (by simpa using ho) hm h; omega
 ·have := key ops.toList i' i o' (by simpa using ho') hm' (by omega); omega
theorem bLt {DD : List Deferred} (K : OkC C rec) {N : Nat} {E : Nat → aY} {Hh : Nat → Hp} {V : Nat → DV} (T : Tr1 C rec ops nt p0 E Hh V) (hN : N = p0.toNat + cD C.P ops.toList) (hGN : G.N ≤ p0.toNat) {ρ : cZ} {w0 : World} {Q : Exit → Act → World → Prop}
  (hQ : ∀ ρ' a' w', Ex G ρ ρ' → HR G ρ' (Hh ops.size) w' → EnvR ρ' (E ops.size) a' → Kp G w0 w' → nt ≤ a'.tmps.size → a'.defers = DD → Q .normal a' w') :
  ∀ (fuel : Nat) (listed : Array Bool) (a : Act) (w : World), Inv DD C G ops nt p0 N E Hh V ρ w0 listed a w → ((List.range ops.size).filter fun i => !listed.getD i false).length ≤ fuel → wpAny C.P .any ops Q fuel listed a w := by
 have hlt : ∀ p, p < ops.size → ∃ o, ops[p]? = some o := fun p hp => ⟨ops[p], by simp [hp]⟩
 have hin : ∀ (j : Nat) oj, ops[j]? = some oj → j < ops.size := fun j oj hj => by
  rcases Nat.lt_or_ge j ops.size with h | h
  ·exact h
  ·simp [Array.getElem?_eq_none h] at hj
 have hend : ∀ listed a w, Inv DD C G ops nt p0 N E Hh V ρ w0 listed a w → (∀ i, i < ops.size → S listed i) → Q .normal a w := by
  rintro listed a w ⟨hsz, hdown, q, hq, hcand, hgap, ρ', R, h1, h2, h3, h4, h5, h6, h7, h8, h9⟩ hall
  have hH := aNb (G := G) T h8 h9 ops.size hq (Nat.le_refl _) (fun j oj hj hqj hjn => ⟨fun ha => by
   have := (hgap j oj hj ha).2 (hall j hjn)
   omega, fun _ => hall j hjn⟩) h2
  have hE : ∀ t, TS ops V (E 0) listed ops.size t = E ops.size t := fun t =>
   cBq (E := E) rfl (fun p o hp ho => (T.st p o ho).env) (fun p hp => hlt p hp) (fun j o hj _ _ => hall j hj) ops.size (Nat.le_refl _)
  refine hQ ρ' a w h1 (hH.weak rfl (fun k hk => .inl hk) (by show G.N ≤ N; omega) rfl) (fun t => ?_) h4 h5 h6
  rw [← hE t]
  exact h3 t
 have hready : ∀ listed, listed.size = ops.size → Region.ready .any ops listed = [] → ∀ i, i < ops.size → S listed i := by
  intro listed hsz hr i
  induction i using Nat.strongRecOn with
  | _ i ih =>
   intro hi
   obtain ⟨o, ho⟩ := hlt i hi
   by_cases hs : S listed i
   ·exact hs
   ·exfalso
    have hmem : i ∈ Region.ready .any ops listed := by
     rw [qP]
     refine ⟨hi, ?_, o, ho, fun e he hb => ?_⟩
     ·rw [qF (by omega)]
      unfold S at hs
      simpa using hs
     ·have := (dO T.ok ho).1 e he hb
      exact ih e.on this (by omega)
    rw [hr] at hmem
    cases hmem
 intro fuel
 induction fuel with
 | zero =>
  intro listed a w hI hfuel
  have hall : ∀ i, i < ops.size → S listed i := by
   intro i hi
   by_cases hs : S listed i
   ·exact hs
   ·exfalso
    have : i ∈ (List.range ops.size).filter fun i => !listed.getD i false := by
     rw [List.mem_filter]
     refine ⟨by simpa using hi, ?_⟩
     unfold S at hs
     simpa using hs
    have := List.length_pos_of_mem this
    omega
  refine ⟨?_, hend listed a w hI hall⟩
  cases hr : Region.ready .any ops listed with
  | nil => rfl
  | cons x xs =>
   have hx : x ∈ Region.ready .any ops listed := by rw [hr]; simp
   rw [qP] at hx
   have := hall x hx.1
   rw [qF (by rw [hI.1]; exact hx.1)] at hx
   unfold S at this
   rw [this] at hx
   cases hx.2.1
 | succ fuel ih =>
  intro listed a w hI hfuel
  refine ⟨fun hr => hend listed a w hI (hready listed hI.1 hr), fun i hi => ?_⟩
  obtain ⟨hsz, hdown, q, hq, hcand, hgap, ρ', R, h1, h2, h3, h4, h5, h6, h7, h8, h9⟩ := hI
  rw [qP] at hi
  obtain ⟨hisz, hni, o, ho, hpre0⟩ := hi
  rw [qF (by omega)] at hni
  have hnS : ¬ S listed i := by unfold S; rw [hni]; simp
  have hpre : ∀ j, gC (Region.before ops) j i = true → S listed j := by
   intro j hj
   obtain ⟨e, he, hb, h | h⟩ := aLs ho hj
   ·rw [← h]; exact hpre0 e he hb
   ·exact hdown j e.on h (hpre0 e he hb)
  have hst := T.st i o ho
  have hlook : ∀ t ∈ o.looksAt ops, TS ops V (E 0) listed ops.size t = E i t := by
   intro t ht
   rw [cDa (i := i) (fun j oj hij hj hd hS => ?_) ops.size (by omega)]
   ·exact cBq (E := E) rfl (fun p op hp hop => (T.st p op hop).env) (fun p hp => hlt p (by omega)) (fun j oj hj hoj hd => by
     rcases (dO T.ok ho).2.2 j oj hj hoj with h | ⟨h, _⟩
     ·exact hpre j h
     ·exact absurd ht ((Oper.apart_spec h).1 t hd)) i (Nat.le_refl _)
   ·rcases Nat.eq_or_lt_of_le hij with e | e
    ·subst e; exact hnS hS
    ·rcases (dO T.ok hj).2.2 i o e ho with h | ⟨h, _⟩
     ·exact hnS (hdown i j h hS)
     ·exact absurd ht ((Oper.apart_spec h).2.2 t hd)
  have hmkq : ∀ j oj, ops[j]? = some oj → bV C.P oj.op = .makes → j < q → S listed j := by
   intro j oj hj hmj hjq
   rcases hcand with rfl | ⟨l, ol, hl, hal, rfl⟩
   ·omega
   ·have hSl : S listed l := (hgap l ol hl hal).1 (by omega)
    have hjl : j ≠ l := fun e => by subst e; rw [hl] at hj; cases hj; rw [hal] at hmj; cases hmj
    rcases (dO T.ok hl).2.2 j oj (by omega) hj with h | ⟨_, h⟩
    ·exact hdown j l h hSl
    ·exact absurd ⟨.inr hmj, hal⟩ h
  have hdown' : ∀ j x, gC (Region.before ops) j x = true → S (listed.setIfInBounds i true) x → S (listed.setIfInBounds i true) j := by
   intro j x hjx hx
   rw [cTl (by omega)] at hx ⊢
   rcases hx with rfl | hx
   ·exact .inr (hpre j hjx)
   ·exact .inr (hdown j x hjx hx)
  have hTS : ∀ (ρ2 : cZ) (v2 : Value), Ext ρ' ρ2 → VR ρ2 (V i) v2 → EnvR ρ2 (TS ops V (E 0) (listed.setIfInBounds i true) ops.size) (a.put o.dst v2) := by
   intro ρ2 v2 e1 e2 t
   rw [cXn ho (by omega) hnS t (fun j oj hij hj hd hod hS => by
    rcases (dO T.ok hj).2.2 i o hij ho with h | ⟨h, _⟩
    ·exact hnS (hdown i j h hS)
    ·exact (Oper.apart_spec h).2.1 t hod hd) ops.size (by omega)]
   have := EnvR.put h3 e1 e2 hst.fits h5 t
   rwa [lK] at this
  have hcount : ((List.range ops.size).filter fun j => !(listed.setIfInBounds i true).getD j false).length ≤ fuel := by
   have hmem : i ∈ (List.range ops.size).filter fun i => !listed.getD i false := by
    rw [List.mem_filter]
    exact ⟨by simpa using hisz, by simp [hni]⟩
   have hle : ((List.range ops.size).filter fun j => !(listed.setIfInBounds i true).getD j false).length < ((List.range ops.size).filter fun j => !listed.getD j false).length := by
    have hsub : ((List.range ops.size).filter fun j => !(listed.setIfInBounds i true).getD j false) = ((List.range ops.size).filter fun j => !listed.getD j false).filter (fun j => j != i) := by
     rw [List.filter_filter]
     apply List.filter_congr
     intro j hj
     by_cases e : j = i
     ·subst e; simp [show j < listed.size by omega]
     ·simp [Array.getElem?_setIfInBounds_ne (Ne.symm e), e]
    rw [hsub]
    exact List.length_filter_lt_length_iff_exists.2 ⟨i, hmem, by simp⟩
   omega
  have hS' : ∀ j, S (listed.setIfInBounds i true) j ↔ (j = i ∨ S listed j) := fun j => cTl (by omega)
  by_cases hmk : bV C.P o.op = .makes
  ·
   have hqi : q ≤ i := by
    rcases Nat.lt_or_ge i q with h | h
    ·exact absurd (hmkq i o ho hmk h) hnS
    ·exact h
   have hg := (dO T.ok ho).2.1 hmk
   have hbn := h7 i o ho hmk hnS
   have hst1 := hst.made hmk
   have hext : Ext ρ' (nF ρ' (idp C ops p0 i) ⟨w.heap.size, 0, 0, none⟩) := by
    intro x L hx
    by_cases e : x = idp C ops p0 i
    ·subst e; rw [hbn] at hx; cases hx
    ·rw [aX _ _ e]; exact hx
   have hE0 : dS C o (idp C ops p0 i) (TS ops V (E 0) listed ops.size) (Hh i) = some (V i, Hh (i + 1)) := by
    rw [← hst1]
    refine aAe fun x hx => aAk fun t ht => hlook t ?_
    unfold Oper.looksAt
    refine List.mem_append_left _ (List.mem_filterMap.2 ⟨x, by simpa using hx, ?_⟩)
    rw [ht]
   obtain ⟨cs, arr, t, v', m1, m2, m3, m4⟩ := dDx (w := w) h3 hE0 hbn
   have hidlt := bZf (p0 := p0) ho hmk
   have H2 := h2.early hbn (by have := h2.nx; simp only [GX] at this; omega) arr t
   unfold wpOp
   simp only [ho]
   rw [if_pos (by simp [Region.wanted, hg])]
   refine .inl ?_
   unfold Oper.wp
   rw [m1]
   show wpAny C.P .any ops Q fuel (listed.setIfInBounds i true) (a.put o.dst v') (w.alloc (.cells arr t))
   have hEarly : ∀ j, iO C ops (listed.setIfInBounds i true) q j → j = i ∨ iO C ops listed q j := by
    rintro j ⟨oj, e1, e2, e3, e4⟩
    rcases (hS' j).1 e3 with e | e
    ·exact .inl e
    ·exact .inr ⟨oj, e1, e2, e, e4⟩
   have hRlt : ∀ j, iO C ops listed q j → R j < w.heap.size := fun j hj => h2.sz.2 _ (.inr ⟨j, hj, rfl⟩)
   have hjne : ∀ j, iO C ops listed q j → j ≠ i := by
    rintro j ⟨oj, e1, e2, e3, e4⟩ e
    subst e; exact hnS e3
   refine ih _ _ _ ⟨by simpa using hsz, hdown', q, hq, hcand, fun j oj hj haj => ?_, nF ρ' (idp C ops p0 i) ⟨w.heap.size, 0, 0, none⟩, fun j => if j = i then w.heap.size else R j, ?_, ?_, hTS _ _ hext m4, ?_, by rw [pM]; exact h5, by rw [lD]; exact h6, ?_, ?_, ?_⟩ hcount
   ·rw [hS' j, hgap j oj hj haj]
    constructor
    ·exact .inr
    ·rintro (h | h)
     ·subst h; rw [ho] at hj; cases hj; rw [hmk] at haj; cases haj
     ·exact h
   ·refine h1.trans ⟨hext, fun b L hb => ?_⟩
    by_cases e : b = idp C ops p0 i
    ·right
     rw [e]
     unfold idp
     rw [dX]
     omega
    ·rw [aX _ _ e] at hb; exact .inl hb
   ·refine H2.weak rfl ?_ (Nat.le_refl _) rfl
    rintro k (hk | ⟨j, hj, hjk⟩)
    ·exact .inl (.inl hk)
    ·rcases hEarly j hj with rfl | hj'
     ·right; simpa using hjk.symm
     ·left; right
      refine ⟨j, hj', ?_⟩
      simpa [hjne j hj'] using hjk
   ·exact h4.trans (fM (G := G) ⟨h2.sz.1, fun k hk => h2.sz.2 k (.inl hk)⟩ _)
   ·intro j oj hj hmj hSj
    have hji : j ≠ i := fun e => hSj ((hS' j).2 (.inl e))
    rw [aX _ _ (cWg hj hmj ho hmk hji)]
    exact h7 j oj hj hmj fun h => hSj ((hS' j).2 (.inr h))
   ·intro j hj
    rcases hEarly j hj with rfl | hj'
    ·refine ⟨by simp [cF], by simp; exact h2.sz.1, ?_, arr, t, cs, ?_, m2.mono hext, m3⟩
     ·simp only [if_true]
      intro hx
      have := h2.sz.2 _ (.inl hx)
      omega
     ·simp only [if_true]
      show (w.heap.push _)[w.heap.size]? = _
      simp
    ·have hM := h8 j hj'
     obtain ⟨arr', t', cs', r1, r2, r3⟩ := hM.row
     have hji := hjne j hj'
     refine ⟨?_, by simp [hji]; exact hM.low, by simp [hji]; exact hM.ex, arr', t', cs', ?_, r2.mono hext, r3⟩
     ·simp only [hji, if_false]; exact hext _ _ hM.name
     ·simp only [hji, if_false]
      rw [Below.heap_alloc _ _ _ (hRlt j hj')]
      exact r1
   ·intro j j' hj hj' he
    rcases hEarly j hj with rfl | hj1
    ·rcases hEarly j' hj' with rfl | hj1'
     ·rfl
     ·simp only [if_true, hjne j' hj1', if_false] at he
      have := hRlt j' hj1'
      omega
    ·rcases hEarly j' hj' with rfl | hj1'
     ·simp only [if_true, hjne j hj1, if_false] at he
      have := hRlt j hj1
      omega
     ·simp only [hjne j hj1, hjne j' hj1', if_false] at he
      exact h9 j j' hj1 hj1' he
  ·
   have hstep : ∃ q1 q2, q ≤ q1 ∧ q1 ≤ ops.size ∧ q2 ≤ ops.size ∧ q1 ≤ q2 ∧ dAb C ops q2 ∧ HR (GX G N C ops listed R q1) ρ' (Hh q1) w ∧
     bI C rec ops o (TS ops V (E 0) listed ops.size) (Hh q1) = some (V i, Hh q2) ∧
     (∀ j oj, ops[j]? = some oj → bV C.P oj.op = .acts → (j < q2 ↔ S (listed.setIfInBounds i true) j)) ∧
     (∀ j, iO C ops (listed.setIfInBounds i true) q2 j → iO C ops listed q1 j) := by
    rw [show bI C rec ops o (TS ops V (E 0) listed ops.size) = bI C rec ops o (E i) from funext fun h => aLj hlook]
    by_cases ha : bV C.P o.op = .acts
    ·have hqi : q ≤ i := by
      rcases Nat.lt_or_ge i q with h | h
      ·exact absurd ((hgap i o ho ha).1 h) hnS
      ·exact h
     refine ⟨i, i + 1, hqi, by omega, by omega, by omega, .inr ⟨i, o, ho, ha, rfl⟩, ?_, hst.step hmk, fun j oj hj haj => ?_, ?_⟩
     ·refine aNb (G := G) T h8 h9 i hqi (by omega) (fun j oj hj hqj hji => ⟨fun haj => ?_, fun hmj => ?_⟩) h2
      ·rcases (dO T.ok ho).2.2 j oj hji hj with h | ⟨_, h⟩
       ·have := (hgap j oj hj haj).2 (hpre j h); omega
       ·exact absurd ⟨.inl haj, ha⟩ h
      ·rcases (dO T.ok ho).2.2 j oj hji hj with h | ⟨_, h⟩
       ·exact hpre j h
       ·exact absurd ⟨.inr hmj, ha⟩ h
     ·rw [hS' j]
      constructor
      ·intro hlt'
       by_cases e : j = i
       ·exact .inl e
       ·right
        rcases (dO T.ok ho).2.2 j oj (by omega) hj with h | ⟨_, h⟩
        ·exact hpre j h
        ·exact absurd ⟨.inl haj, ha⟩ h
      ·rintro (h | h)
       ·omega
       ·rcases Nat.lt_or_ge i j with hij | hij
        ·rcases (dO T.ok hj).2.2 i o hij ho with h' | ⟨_, h'⟩
         ·exact absurd (hdown i j h' h) hnS
         ·exact absurd ⟨.inl ha, haj⟩ h'
        ·omega
     ·rintro j ⟨oj, e1, e2, e3, e4⟩
      rcases (hS' j).1 e3 with e | e
      ·omega
      ·exact ⟨oj, e1, e2, e, by omega⟩
    ·refine ⟨q, q, Nat.le_refl _, hq, hq, Nat.le_refl _, hcand, h2, T.value ho ha hmk hcand hgap hnS hdown hpre, fun j oj hj haj => ?_, ?_⟩
     ·rw [hS' j, hgap j oj hj haj]
      constructor
      ·exact .inr
      ·rintro (h | h)
       ·subst h; rw [ho] at hj; cases hj; exact absurd haj ha
       ·exact h
     ·rintro j ⟨oj, e1, e2, e3, e4⟩
      rcases (hS' j).1 e3 with e | e
      ·subst e; rw [ho] at e1; cases e1; exact absurd e2 hmk
      ·exact ⟨oj, e1, e2, e, e4⟩
   obtain ⟨q1, q2, k1, k2, k2', k12, k3, k4, k5, k6, k7⟩ := hstep
   refine aHf (aIp K k4 h3 k5) rfl ho k4 fun ρ2 w2 v2 e1 e2 e3 e4 => ?_
   have hEq : ∀ j, iO C ops listed q1 j → iO C ops listed q j := by
    rintro j ⟨oj, f1, f2, f3, f4⟩
    exact ⟨oj, f1, f2, f3, by omega⟩
   refine ih _ _ _ ⟨by simpa using hsz, hdown', q2, k2', k3, k6, ρ2, R, ?_, ?_, hTS _ _ e1.ext e2, ?_, by rw [pM]; exact h5, by rw [lD]; exact h6, ?_, ?_, ?_⟩ hcount
   ·refine h1.trans ⟨e1.ext, fun b L hb => (e1.new b L hb).imp id fun h => ?_⟩
    simp only [GX] at h
    omega
   ·refine e3.weak rfl ?_ (Nat.le_refl _) rfl
    rintro k (hk | ⟨j, hj, hjk⟩)
    ·exact .inl hk
    ·exact .inr ⟨j, k7 j hj, hjk⟩
   ·exact h4.trans ⟨e4.low, fun k hk => e4.ex k (.inl hk)⟩
   ·intro j oj hj hmj hSj
    have hn := h7 j oj hj hmj fun h => hSj ((hS' j).2 (.inr h))
    cases hr : ρ2 (idp C ops p0 j) with
    | none => rfl
    | some L =>
     rcases e1.new _ _ hr with h | h
     ·rw [hn] at h; cases h
     ·have := bZf (p0 := p0) hj hmj
      simp only [GX] at h
      omega
   ·intro j hj
    have hj1 := k7 j hj
    have hM := h8 j (hEq j hj1)
    obtain ⟨arr', t', cs', r1, r2, r3⟩ := hM.row
    exact ⟨e1.ext _ _ hM.name, hM.low, hM.ex, arr', t', cs', by rw [e4.ex _ (.inr ⟨j, hj1, rfl⟩)]; exact r1, r2.mono e1.ext, r3⟩
   ·intro j j' hj hj' he
    exact h9 j j' (hEq j (k7 j hj)) (hEq j' (k7 j' hj')) he
theorem bXz {DD : List Deferred} (K : OkC C rec) {k : Dd.K} {r : DV × Hp} {env : aY} {h : Hp} {ρ : cZ} {a : Act} {w : World} {Q : Exit → Act → World → Prop}
  (hok : fB C.P ops = true) (hp : iK C rec nt ops k env h = some r) (H : HR G ρ h w) (he : EnvR ρ env a) (hnt : nt ≤ a.tmps.size) (hd : a.defers = DD)
  (hQ : ∀ ρ' env' h' a' w', Ex G ρ ρ' → HR G ρ' h' w' → EnvR ρ' env' a' → Kp G w w' → nt ≤ a'.tmps.size → a'.defers = DD → k env' h' = some r → Q .normal a' w') :
  wpAny C.P .any ops Q ops.size (Array.replicate ops.size false) a { w with drawn := w.drawn + 1 } := by
 obtain ⟨E, Hh, V, e1, e2, e3, e4⟩ := sG (p0 := h.next) ops.toList 0 0 false [] _ env _ r hp (by simp) (fun _ => ⟨_, _, rfl⟩)
 simp only [Nat.zero_add, Array.length_toList, Nat.sub_zero] at e3 e4
 have T : Tr1 C rec ops nt h.next E Hh V := ⟨hok, fun p o ho => by
  have := (e4 p o (Nat.zero_le _) (by
   rcases Nat.lt_or_ge p ops.size with h | h
   ·exact h
   ·simp [Array.getElem?_eq_none h] at ho) ho).1
  rw [← e2] at this
  exact this⟩
 obtain ⟨n1, n2⟩ := aAr (cD C.P ops.toList) h
 have hNN : (resv (cD C.P ops.toList) h).next.toNat = h.next.toNat + cD C.P ops.toList := by rw [n1, dX]
 refine (bLt (G := G) K T rfl H.nx (ρ := ρ) (w0 := w) (fun ρ' a' w' h1 h2 h3 h4 h5 h6 => hQ ρ' _ _ a' w' h1 h2 h3 h4 h5 h6 e3) ops.size _ a _ ?_ ?_)
 ·have hno : ∀ j, ¬ S (Array.replicate ops.size false) j := by
   intro j hj
   unfold S at hj
   simp [Array.getElem?_replicate] at hj
   split at hj <;> simp at hj
  have hnoE : ∀ j, ¬ iO C ops (Array.replicate ops.size false) 0 j := by
   rintro j ⟨oj, _, _, h3, _⟩
   exact hno j h3
  refine ⟨by simp, fun j x _ hx => absurd hx (hno x), 0, Nat.zero_le _, .inl rfl, fun j oj hj ha => ⟨fun h => by omega, fun h => absurd h (hno j)⟩, ρ, fun _ => 0, Ex.refl G ρ, ?_, ?_, ?_, hnt, hd, ?_, fun j hj => absurd hj (hnoE j), fun j j' hj => absurd hj (hnoE j)⟩
  ·rw [e2]
   have := (H.reserve (cD C.P ops.toList)).congr (w' := { w with drawn := w.drawn + 1 }) rfl
   rw [hNN] at this
   refine this.weak rfl ?_ (Nat.le_refl _) rfl
   rintro k (hk | ⟨j, hj, _⟩)
   ·exact hk
   ·exact absurd hj (hnoE j)
  ·have hT : ∀ p, TS ops V (E 0) (Array.replicate ops.size false) p = E 0 := by
    intro p
    induction p with
    | zero => rfl
    | succ p ih =>
     simp only [TS, ih]
     split
     ·rename_i o ho
      rw [if_neg (show ¬ (Array.replicate ops.size false).getD p false = true from hno p)]
     ·rfl
   intro t
   rw [hT, e1]
   exact he t
  ·exact (Kp.refl G w).drew
  ·intro j oj hj hmj _
   cases hr : ρ (idp C ops h.next j) with
   | none => rfl
   | some L =>
    have h1 := H.lt _ _ hr
    unfold idp at h1
    rw [dX] at h1
    omega
 ·have := List.length_filter_le (fun i => !(Array.replicate ops.size false).getD i false) (List.range ops.size)
  simpa using this
theorem bCc {DD : List Deferred} (K : OkC C rec) (hm : C.P.follows .mixedOrders = true) {id : Nat} {k : Dd.K} {r : DV × Hp} {env : aY} {h : Hp} {ρ : cZ} {a : Act} {w : World} {Q : Exit → Act → World → Prop}
  (hok : fB C.P ops = true) (hp : iK C rec nt ops k env h = some r) (H : HR G ρ h w) (he : EnvR ρ env a) (hnt : nt ≤ a.tmps.size) (hd : a.defers = DD)
  (hQ : ∀ ρ' env' h' a' w', Ex G ρ ρ' → HR G ρ' h' w' → EnvR ρ' env' a' → Kp G w w' → nt ≤ a'.tmps.size → a'.defers = DD → k env' h' = some r → Q .normal a' w') :
  (Code.region id ops true).wp C.P Q a w :=
 wp_region_any hm (bXz K hok hp H he hnt hd hQ)
end
end Go.Dd

namespace Go.Dd
open Go.RowKit (Below)
section
variable {C : Cfg} {G : Gd} {rec : FuncId → List DV → Hp → aJ} {nt n : Nat}
def St (DD : List Deferred) (G : Gd) (nt : Nat) (ρ : cZ) (w0 : World) (k : K) (r : DV × Hp) (a : Act) (w : World) : Prop :=
 ∃ ρ' env h, Ex G ρ ρ' ∧ HR G ρ' h w ∧ EnvR ρ' env a ∧ Kp G w0 w ∧ nt ≤ a.tmps.size ∧ a.defers = DD ∧ k env h = some r
def QQ (DD : List Deferred) (G : Gd) (nt : Nat) (ρ : cZ) (w0 : World) (X : Nat → K) (kr k : K) (r : DV × Hp) : Exit → Act → World → Prop
 | .normal, a, w => St DD G nt ρ w0 k r a w
 | .exit id, a, w => St DD G nt ρ w0 (X id) r a w
 | .ret, a, w => St DD G nt ρ w0 kr r a w
 | _, _, _ => False
theorem cPs {DD : List Deferred} (K : OkC C rec) (hm : C.P.follows .mixedOrders = true) {ρ : cZ} {w0 : World} {r : DV × Hp} : ∀ (c : Code) (X : Nat → Dd.K) (kr k : Dd.K) (a : Act) (w : World),
  St DD G nt ρ w0 (aM C rec nt n c X kr k) r a w → c.wp C.P (QQ DD G nt ρ w0 X kr k r) a w := by
 intro c
 induction c with
 | skip => intro X kr k a w h; exact wp_skip h
 | region id ops dr =>
  intro X kr k a w h
  obtain ⟨ρ', env, hp, h1, h2, h3, h4, h5, h6, h7⟩ := h
  change (Bool.rec (motive := fun _ => Dd.K) (iW C rec nt ops ops.toList k) (Bool.rec (motive := fun _ => Dd.K) dK (iK C rec nt ops k) (fB C.P ops)) dr) env hp = some r at h7
  cases dr with
  | true =>
   dsimp only at h7
   cases hok : fB C.P ops with
   | false => rw [hok] at h7; cases h7
   | true =>
    rw [hok] at h7
    exact bCc K hm hok h7 h2 h3 h5 h6 fun ρ2 env2 h2' a2 w2 e1 e2 e3 e4 e5 e6 e7 => ⟨ρ2, env2, h2', h1.trans e1, e2, e3, h4.trans e4, e5, e6, e7⟩
  | false =>
   simp only [cond_false] at h7
   obtain ⟨env', h', hr, hk⟩ := yZ ops.toList k env hp r h7
   refine wp_region ?_
   have := aOz (Q := QQ DD G nt ρ w0 X kr k r) K ops.toList 0 ρ' env hp a w (by simp) hr h2 h3 h5 h6 fun ρ2 a2 w2 e1 e2 e3 e4 e5 e6 => ⟨ρ2, env', h', h1.trans e1, e2, e3, h4.trans e4, e5, e6, hk⟩
   rw [List.range_eq_range']
   simpa using this
 | seq x y ihx ihy =>
  intro X kr k a w h
  refine wp_seq (wp_mono (ihx X kr (aM C rec nt n y X kr k) a w h) fun e a' w' hq => ?_)
  cases e with
  | normal => exact ihy X kr k a' w' hq
  | exit id => exact hq
  | ret => exact hq
  | goto l => exact hq
  | panic ch => exact hq
  | outgrown => exact hq
 | cond c x y ihx ihy =>
  intro X kr k a w h
  obtain ⟨ρ', env, hp, h1, h2, h3, h4, h5, h6, h7⟩ := h
  change aQ (opr env c) (aM C rec nt n x X kr k env hp) (aM C rec nt n y X kr k env hp) = some r at h7
  have hc := bG h3 c
  unfold aQ at h7
  split at h7 <;> (try (cases h7; done))
  ·rename_i hcb
   rw [hcb] at hc
   generalize hcv : a.eval c = cv at hc
   cases hc
   exact wp_cond_true hcv (ihx X kr k a w ⟨ρ', env, hp, h1, h2, h3, h4, h5, h6, h7⟩)
  ·rename_i hcb
   rw [hcb] at hc
   generalize hcv : a.eval c = cv at hc
   cases hc
   exact wp_cond_false hcv (ihy X kr k a w ⟨ρ', env, hp, h1, h2, h3, h4, h5, h6, h7⟩)
 | block id x ih =>
  intro X kr k a w h
  refine wp_block (wp_mono (ih (fun j => bif Nat.beq j id then k else X j) kr k a w h) fun e a' w' hq => ?_)
  cases e with
  | normal => exact hq
  | exit id' =>
   simp only [QQ] at hq
   simp only [Exit.inBlock, QQ]
   split
   ·rename_i e
    subst e
    have hb : Nat.beq id' id' = true := Nat.beq_refl id'
    rw [hb] at hq
    exact hq
   ·rename_i e
    have : Nat.beq id' id = false := by
     cases hb : Nat.beq id' id with
     | false => rfl
     | true => exact absurd (Nat.eq_of_beq_eq_true hb) e
    rw [this] at hq
    exact hq
  | ret => exact hq
  | goto l => exact hq
  | panic ch => exact hq
  | outgrown => exact hq
 | loop x ih =>
  intro X kr k a w h
  have key : ∀ (m : Nat) (a : Act) (w : World), St DD G nt ρ w0 (aN (fun kk => aM C rec nt n x X kr kk) m) r a w → Code.rounds C.P x (QQ DD G nt ρ w0 X kr k r) m a w := by
   intro m
   induction m with
   | zero =>
    rintro a w ⟨ρ', env, hp, h1, h2, h3, h4, h5, h6, h7⟩
    cases h7
   | succ m ihm =>
    intro a w hs
    rw [rounds_succ]
    refine wp_mono (ih X kr (aN (fun kk => aM C rec nt n x X kr kk) m) a w hs) fun e a' w' hq => ?_
    cases e with
    | normal => exact ihm a' w' hq
    | exit id => exact hq
    | ret => exact hq
    | goto l => exact hq
    | panic ch => exact hq
    | outgrown => exact hq
  exact wp_loop_rounds n (key n a w h)
 | rangeFunc f ps x y ihx ihy =>
  rintro X kr k a w ⟨ρ', env, hp, h1, h2, h3, h4, h5, h6, h7⟩
  cases h7
 | exit id => intro X kr k a w h; exact wp_exit h
 | scope x ih =>
  intro X kr k a w h
  refine wp_scope_straight (wp_mono (ih X kr k a w h) fun e a' w' hq => ?_)
  cases e with
  | goto l => exact hq
  | normal => exact hq
  | exit id => exact hq
  | ret => exact hq
  | panic ch => exact hq
  | outgrown => exact hq
 | label l => intro X kr k a w h; exact wp_label h
 | goto l =>
  rintro X kr k a w ⟨ρ', env, hp, h1, h2, h3, h4, h5, h6, h7⟩
  cases h7
 | ret => intro X kr k a w h; exact wp_ret h
 | refuse why =>
  rintro X kr k a w ⟨ρ', env, hp, h1, h2, h3, h4, h5, h6, h7⟩
  cases h7
def aGc (tmps : Array Value) (rv : ResultVar) : Sem Value :=
 match rv with
 | .tmp t => pure (tmps.getD t undef)
 | .cell q t => do loadVar t (← asAddr (tmps.getD q undef))
theorem wF (fn : Func) (tmps : Array Value) : results fn tmps = (do
  let vs ← fn.results.mapM (aGc tmps)
  pure (if h : vs.size = 1 then vs[0] else .tuple vs)) := by
 unfold results
 congr 2
theorem bUz {ρ : cZ} {w : World} {h : Hp} {x : DV} {x' : Value} {t : TypeId} {k : DV → aJ} {r : DV × Hp} (H : HR G ρ h w) (hx : VR ρ x x') (hr : aAt C t x h k = some r) :
  ∃ v v', (do loadVar t (← asAddr x') : Sem Value).run C.P w = .ok v' w ∧ VR ρ v v' ∧ k v = some r := by
 unfold aAt at hr
 split at hr <;> (try (cases hr; done))
 rename_i d i ht hi
 obtain ⟨v, h', hl, hk⟩ := dJ hr
 have hconv : ∀ b o, x = .p b o → (Instr.loadAt t x') = (do loadVar t (← asAddr x')) := by
  rintro b o rfl
  cases hx
  simp [Instr.loadAt, Instr.sureAddr, asAddr]
 cases hd : iU d with
 | true =>
  rw [hd] at hl
  simp only [cond_true] at hl
  unfold aK at hl
  split at hl <;> (try (cases hl; done))
  rename_i b o
  split at hl <;> (try (cases hl; done))
  rename_i cs hc
  simp only [bE, bP] at hl
  obtain ⟨rfl, _⟩ := hl
  cases hx with
  | p _ _ L hL =>
   obtain ⟨c1, c2, _, vs, c4, c5, c6⟩ := eP H hc hL
   have hrun := dC (P := C.P) vs rfl c6
   rw [c5] at hrun
   refine ⟨_, .agg vs.toArray, ?_, .a cs vs.toArray (by simpa using c4), hk⟩
   simp only [asAddr, Sem.run_bind, Sem.run_pure, Result.andThen_ok, loadVar, rA ht, hd, if_true, rS hi, hrun]
 | false =>
  rw [hd] at hl
  simp only [cond_false] at hl
  unfold aA at hl
  split at hl <;> (try (cases hl; done))
  rename_i b o
  split at hl <;> (try (cases hl; done))
  rename_i u' hc
  simp only [bE, bP] at hl
  obtain ⟨rfl, _⟩ := hl
  cases hx with
  | p _ _ L hL =>
   unfold cellD rowOf at hc
   split at hc <;> (try (cases hc; done))
   rename_i l hl
   split at hl <;> (try (cases hl; done))
   rename_i kd l0 hb
   simp only [bE] at hl
   subst hl
   split at hc <;> (try (cases hc; done))
   rename_i u0 hu
   split at hc <;> (try (cases hc; done))
   rename_i ho
   simp only [bE] at hc
   subst hc
   obtain ⟨v', h5, h6⟩ := H.cell b kd l0 L o u0 hb hL hu ho
   refine ⟨_, v', ?_, h6, hk⟩
   simp only [asAddr, Sem.run_bind, Sem.run_pure, Result.andThen_ok, loadVar, rA ht, hd, Bool.false_eq_true, if_false, run_load, h5]
theorem xE {ρ : cZ} {w : World} {h : Hp} {env : aY} {a : Act} (H : HR G ρ h w) (he : EnvR ρ env a) {r : DV × Hp} : ∀ (l : List ResultVar) (k : List DV → aJ), aXk C env h l k = some r →
  ∃ vs vs', (l.mapM (aGc a.tmps)).run C.P w = .ok vs' w ∧ VRs ρ vs vs' ∧ k vs = some r
 | [], k, hr => ⟨[], [], by simp, .nil, hr⟩
 | .tmp t :: l, k, hr => by
  obtain ⟨vs, vs', h1, h2, h3⟩ := xE H he l (fun vs => k (env t :: vs)) hr
  refine ⟨env t :: vs, a.tmps.getD t undef :: vs', ?_, .cons _ _ _ _ (he t) h2, h3⟩
  simp only [List.mapM_cons, Sem.run_bind, aGc, Result.andThen_ok, h1, Sem.run_pure]
 | .cell q t :: l, k, hr => by
  obtain ⟨v, v', h1, h2, h3⟩ := bUz (x' := a.tmps.getD q undef) H (he q) hr
  obtain ⟨vs, vs', h4, h5, h6⟩ := xE H he l (fun vs => k (v :: vs)) h3
  refine ⟨v :: vs, v' :: vs', ?_, .cons _ _ _ _ h2 h5, h6⟩
  simp only [List.mapM_cons, Sem.run_bind, aGc] at h1 ⊢
  simp only [h1, Result.andThen_ok, h4, Sem.run_pure]
theorem aWf {ρ : cZ} {w : World} {h h1 : Hp} {env : aY} {a : Act} (H : HR G ρ h w) (he : EnvR ρ env a) {fn : Func} {v : DV} (hr : aT C fn env h = some (v, h1)) :
  h1 = h ∧ ∃ v', (results fn a.tmps).run C.P w = .ok v' w ∧ VR ρ v v' := by
 obtain ⟨us, vs', h2, h3, hk⟩ := xE H he _ _ hr
 unfold cAo at hk
 split at hk
 ·rename_i u
  simp only [bE, bP] at hk
  obtain ⟨rfl, rfl⟩ := hk
  cases h3 with
  | cons _ v' _ l' hv hn =>
   cases hn
   refine ⟨rfl, v', ?_, hv⟩
   rw [wF, Array.mapM_eq_mapM_toList]
   simp only [Sem.run_bind, Sem.run_map, h2, Result.andThen_ok, Sem.run_pure]
   simp
 ·rename_i hne
  simp only [bE, bP] at hk
  obtain ⟨rfl, rfl⟩ := hk
  have hl := h3.length
  have hne1 : vs'.length ≠ 1 := by
   intro e
   rw [e] at hl
   match us, hl with
   | [x], _ => exact hne x rfl
  refine ⟨rfl, .tuple vs'.toArray, ?_, .t _ _ (by simpa using h3)⟩
  rw [wF, Array.mapM_eq_mapM_toList]
  simp only [Sem.run_bind, Sem.run_map, h2, Result.andThen_ok, Sem.run_pure]
  rw [dif_neg (by simpa using hne1)]
structure POk (P : Program) : Prop where
 mixed : P.follows .mixedOrders = true
 names : ∀ (f : Nat) (fn : Func), P.funcs[f]? = some fn → (fn.name == "runtime.NumGoroutine") = false
theorem pJ (K : OkC C rec) (hP : POk C.P) (n : Nat) (f : FuncId) : mN C.P G f (aF C rec n f) := by
 intro args h v h1 hr ρ w args' H hargs
 unfold aF at hr
 split at hr <;> (try (cases hr; done))
 rename_i fn hf
 split at hr <;> (try (cases hr; done))
 rename_i c hb
 refine .inl ⟨?_, ?_⟩
 ·unfold callFunc
  have hn : ¬ fn.name = "runtime.NumGoroutine" := by simpa using hP.names f fn hf
  simp [hf, hn, hb]
 ·refine calls_of_wp hf hb ?_
  have he : EnvR ρ (aI args) { tmps := args' ++ Array.replicate (fn.ntmps - args'.size) undef, defers := [] } := by
   intro t
   unfold aI
   have hlen := hargs.length
   simp only [Array.length_toList] at hlen
   by_cases ht : t < args.length
   ·have hg : args[t]? = some args[t] := by simp [ht]
    obtain ⟨v', h2, h3⟩ := hargs.get t _ hg
    simp only [Array.getElem?_toList] at h2
    rw [show args.getD t aV = args[t] by simp [List.getD, hg]]
    have : (args' ++ Array.replicate (fn.ntmps - args'.size) undef).getD t undef = v' := by
     simp [Array.getElem?_append_left (show t < args'.size by omega), h2]
    rw [this]
    exact h3
   ·have hg : args.getD t aV = aV := by simp [List.getD, List.getElem?_eq_none (Nat.le_of_not_lt ht)]
    rw [hg]
    have : (args' ++ Array.replicate (fn.ntmps - args'.size) undef).getD t undef = undef := by
     rw [Array.getD_eq_getD_getElem?, Array.getElem?_append_right (by omega)]
     simp only [Array.getElem?_replicate]
     split <;> rfl
    rw [this]
    exact .t [] #[] .nil
  have hst : St [] G fn.ntmps ρ w (aM C rec fn.ntmps n c (fun _ => dK) (aT C fn) (aT C fn)) (v, h1) { tmps := args' ++ Array.replicate (fn.ntmps - args'.size) undef, defers := [] } w :=
   ⟨ρ, aI args, h, Ex.refl G ρ, H, he, Kp.refl G w, by simp; omega, rfl, hr⟩
  refine wp_mono (cPs K hP.mixed c _ _ _ _ _ hst) fun e a' w' hq => ?_
  have hfin : St [] G fn.ntmps ρ w (aT C fn) (v, h1) a' w' → a'.defers = [] ∧ ∃ v', (results fn a'.tmps).run C.P w' = .ok v' w' ∧ lP G ρ w v h1 (.returned v') w' := by
   rintro ⟨ρ', env, h', e1, e2, e3, e4, e5, e6, e7⟩
   obtain ⟨rfl, v', r1, r2⟩ := aWf e2 e3 e7
   exact ⟨e6, v', r1, ρ', v', rfl, e1, r2, e2, e4⟩
  cases e with
  | normal => exact hfin hq
  | ret => exact hfin hq
  | exit id =>
   obtain ⟨ρ', env, h', e1, e2, e3, e4, e5, e6, e7⟩ := hq
   cases e7
  | goto l => exact hq.elim
  | panic ch => exact hq.elim
  | outgrown => exact hq.elim
theorem bVu (hP : POk C.P) (hI : ∀ G g F, C.I g = some F → mN C.P G g F) : ∀ (n : Nat) (G : Gd) (f : FuncId), mN C.P G f (fnD C n f)
 | 0, G, f => fun args h v h1 hr => by cases hr
 | n + 1, G, f => pJ (rec := fnD C n) ⟨hI, fun G g => bVu hP hI n G g⟩ hP n f
end
end Go.Dd

namespace Go.Dd
open Go.RowKit (Below)
section
variable {C : Cfg} {G : Gd} {rec : FuncId → List DV → Hp → aJ} {nt : Nat}
def nE (h : Hp) : Prop := ∀ b o, h.bl.get b = some o → b.toNat < h.next.toNat
theorem HR.isFresh {ρ : cZ} {h : Hp} {w : World} (H : HR G ρ h w) : nE h := fun b o hb => by
 obtain ⟨L, hL⟩ := H.dom b o hb
 exact H.lt b L hL
def aMt (C : Cfg) (rec : FuncId → List DV → Hp → aJ) (nt : Nat) (ops : Array Oper) (lP : aY → Hp → Prop) : Nat → Array Bool → aY → Hp → Prop
 | 0, listed, env, h => Region.ready .any ops listed = [] ∧ lP env h
 | f + 1, listed, env, h => (Region.ready .any ops listed = [] → lP env h) ∧
   ∀ i ∈ Region.ready .any ops listed, ∃ o v h', ops[i]? = some o ∧ cX nt o.dst = true ∧ bI C rec ops o env h = some (v, h') ∧
    aMt C rec nt ops lP f (listed.setIfInBounds i true) (bM env o.dst v) h'
theorem bVh (K : OkC C rec) {ops : Array Oper} {lP : aY → Hp → Prop} {Q : Exit → Act → World → Prop} : ∀ (fuel : Nat) (listed : Array Bool) (ρ : cZ) (env : aY) (h : Hp) (a : Act) (w : World),
  aMt C rec nt ops lP fuel listed env h → HR G ρ h w → EnvR ρ env a → nt ≤ a.tmps.size → a.defers = [] →
  (∀ ρ' env' h' a' w', lP env' h' → Ex G ρ ρ' → HR G ρ' h' w' → EnvR ρ' env' a' → Kp G w w' → nt ≤ a'.tmps.size → a'.defers = [] → Q .normal a' w') →
  wpAny C.P .any ops Q fuel listed a w
 | 0, listed, ρ, env, h, a, w, hp, H, he, hnt, hd, hQ => ⟨hp.1, hQ ρ env h a w hp.2 (Ex.refl G ρ) H he (Kp.refl G w) hnt hd⟩
 | f + 1, listed, ρ, env, h, a, w, hp, H, he, hnt, hd, hQ => by
  refine ⟨fun hr => hQ ρ env h a w (hp.1 hr) (Ex.refl G ρ) H he (Kp.refl G w) hnt hd, fun i hi => ?_⟩
  obtain ⟨o, v, h', ho, hf, hs, hn⟩ := hp.2 i hi
  refine aHf (aIp K H he hs) rfl ho H fun ρ' w' v' h2 h3 h4 h5 => ?_
  exact bVh K f _ ρ' _ h' _ w' hn h4 (he.put h2.ext h3 hf hnt) (by rw [pM]; exact hnt) (by rw [lD]; exact hd)
   fun ρ2 env2 hh a2 w2 e0 e1 e2 e3 e4 e5 e6 => hQ ρ2 env2 hh a2 w2 e0 (h2.trans e1) e2 e3 (h5.trans e4) e5 e6
def rJ (C : Cfg) (rec : FuncId → List DV → Hp → aJ) (nt : Nat) : Code → (Nat → aY → Hp → Prop) → (aY → Hp → Prop) → (aY → Hp → Prop) → aY → Hp → Prop
 | .skip, _, _, N => N
 | .region _ ops dr, _, _, N => fun env h => if dr then (aMt C rec nt ops (fun e h => nE h → N e h) ops.size (Array.replicate ops.size false) env h ∨
    (fB C.P ops = true ∧ ∃ k r, iK C rec nt ops k env h = some r ∧ ∀ env' h', k env' h' = some r → nE h' → N env' h'))
   else ∃ env' h', aKq C rec nt ops ops.toList env h env' h' ∧ (nE h' → N env' h')
 | .seq a b, X, R, N => rJ C rec nt a X R (rJ C rec nt b X R N)
 | .cond c a b, X, R, N => fun env h => (opr env c = .b true ∧ rJ C rec nt a X R N env h) ∨ (opr env c = .b false ∧ rJ C rec nt b X R N env h)
 | .block id a, X, R, N => rJ C rec nt a (fun j => if j = id then N else X j) R N
 | .exit id, X, _, _ => X id
 | .scope a, X, R, N => rJ C rec nt a X R N
 | .ret, _, R, _ => R
 | _, _, _, _ => fun _ _ => False
def StP (G : Gd) (nt : Nat) (ρ : cZ) (w0 : World) (N : aY → Hp → Prop) (a : Act) (w : World) : Prop :=
 ∃ ρ' env h, Ex G ρ ρ' ∧ HR G ρ' h w ∧ EnvR ρ' env a ∧ Kp G w0 w ∧ nt ≤ a.tmps.size ∧ a.defers = [] ∧ N env h
def QP (G : Gd) (nt : Nat) (ρ : cZ) (w0 : World) (X : Nat → aY → Hp → Prop) (R N : aY → Hp → Prop) : Exit → Act → World → Prop
 | .normal, a, w => StP G nt ρ w0 N a w
 | .exit id, a, w => StP G nt ρ w0 (X id) a w
 | .ret, a, w => StP G nt ρ w0 R a w
 | _, _, _ => False
theorem bUl (K : OkC C rec) (hm : C.P.follows .mixedOrders = true) {ρ : cZ} {w0 : World} : ∀ (c : Code) (X : Nat → aY → Hp → Prop) (R N : aY → Hp → Prop) (a : Act) (w : World),
  StP G nt ρ w0 (rJ C rec nt c X R N) a w → c.wp C.P (QP G nt ρ w0 X R N) a w := by
 intro c
 induction c with
 | skip => intro X R N a w h; exact wp_skip h
 | region id ops dr =>
  intro X R N a w h
  obtain ⟨ρ', env, hp, h1, h2, h3, h4, h5, h6, h7⟩ := h
  cases dr with
  | true =>
   simp only [rJ, if_true] at h7
   rcases h7 with h7 | ⟨hok, k, r, h7, h8⟩
   ·refine wp_region_any hm (bVh K ops.size _ ρ' env hp a _ h7 (h2.congr rfl) h3 h5 h6 fun ρ2 env2 h2' a2 w2 e0 e1 e2 e3 e4 e5 e6 => ?_)
    exact ⟨ρ2, env2, h2', h1.trans e1, e2, e3, (h4.trans ((Kp.refl G w).drew)).trans e4, e5, e6, e0 e2.isFresh⟩
   ·exact bCc K hm hok h7 h2 h3 h5 h6 fun ρ2 env2 h2' a2 w2 e1 e2 e3 e4 e5 e6 e7 => ⟨ρ2, env2, h2', h1.trans e1, e2, e3, h4.trans e4, e5, e6, h8 _ _ e7 e2.isFresh⟩
  | false =>
   simp only [rJ, Bool.false_eq_true, if_false] at h7
   obtain ⟨env', h', hr, hk⟩ := h7
   refine wp_region ?_
   have := aOz (Q := QP G nt ρ w0 X R N) K ops.toList 0 ρ' env hp a w (by simp) hr h2 h3 h5 h6 fun ρ2 a2 w2 e1 e2 e3 e4 e5 e6 => ⟨ρ2, env', h', h1.trans e1, e2, e3, h4.trans e4, e5, e6, hk e2.isFresh⟩
   rw [List.range_eq_range']
   simpa using this
 | seq x y ihx ihy =>
  intro X R N a w h
  refine wp_seq (wp_mono (ihx X R (rJ C rec nt y X R N) a w h) fun e a' w' hq => ?_)
  cases e with
  | normal => exact ihy X R N a' w' hq
  | exit id => exact hq
  | ret => exact hq
  | goto l => exact hq
  | panic ch => exact hq
  | outgrown => exact hq
 | cond c x y ihx ihy =>
  intro X R N a w h
  obtain ⟨ρ', env, hp, h1, h2, h3, h4, h5, h6, h7⟩ := h
  have hc := bG h3 c
  rcases h7 with ⟨hcb, h7⟩ | ⟨hcb, h7⟩
  ·rw [hcb] at hc
   generalize hcv : a.eval c = cv at hc
   cases hc
   exact wp_cond_true hcv (ihx X R N a w ⟨ρ', env, hp, h1, h2, h3, h4, h5, h6, h7⟩)
  ·rw [hcb] at hc
   generalize hcv : a.eval c = cv at hc
   cases hc
   exact wp_cond_false hcv (ihy X R N a w ⟨ρ', env, hp, h1, h2, h3, h4, h5, h6, h7⟩)
 | block id x ih =>
  intro X R N a w h
  refine wp_block (wp_mono (ih (fun j => if j = id then N else X j) R N a w h) fun e a' w' hq => ?_)
  cases e with
  | normal => exact hq
  | exit id' =>
   simp only [QP] at hq
   simp only [Exit.inBlock]
   split
   ·rename_i e
    rw [if_pos e] at hq
    exact hq
   ·rename_i e
    rw [if_neg e] at hq
    exact hq
  | ret => exact hq
  | goto l => exact hq
  | panic ch => exact hq
  | outgrown => exact hq
 | loop x ih => rintro X R N a w ⟨ρ', env, hp, h1, h2, h3, h4, h5, h6, h7⟩; exact h7.elim
 | rangeFunc f ps x y ihx ihy => rintro X R N a w ⟨ρ', env, hp, h1, h2, h3, h4, h5, h6, h7⟩; exact h7.elim
 | exit id => intro X R N a w h; exact wp_exit h
 | scope x ih =>
  intro X R N a w h
  refine wp_scope_straight (wp_mono (ih X R N a w h) fun e a' w' hq => ?_)
  cases e with
  | goto l => exact hq
  | normal => exact hq
  | exit id => exact hq
  | ret => exact hq
  | panic ch => exact hq
  | outgrown => exact hq
 | label l => rintro X R N a w ⟨ρ', env, hp, h1, h2, h3, h4, h5, h6, h7⟩; exact h7.elim
 | goto l => rintro X R N a w ⟨ρ', env, hp, h1, h2, h3, h4, h5, h6, h7⟩; exact h7.elim
 | ret => intro X R N a w h; exact wp_ret h
 | refuse why => rintro X R N a w ⟨ρ', env, hp, h1, h2, h3, h4, h5, h6, h7⟩; exact h7.elim
def Le (h2 h1 : Hp) : Prop := ∀ G ρ w, HR G ρ h2 w → HR G ρ h1 w
theorem cWh (K : OkC C rec) (hP : POk C.P) {f : FuncId} {fn : Func} {c : Code} (hf : C.P.funcs[f]? = some fn) (hb : fn.body = some c) {F : List DV → Hp → aJ}
  (hF : ∀ args h v h1, F args h = some (v, h1) → nE h → rJ C rec fn.ntmps c (fun _ _ _ => False) (fun env h' => ∃ h2, aT C fn env h' = some (v, h2) ∧ Le h2 h1)
   (fun env h' => ∃ h2, aT C fn env h' = some (v, h2) ∧ Le h2 h1) (aI args) h) : mN C.P G f F := by
 intro args h v h1 hr ρ w args' H hargs
 refine .inl ⟨?_, ?_⟩
 ·unfold callFunc
  have hn : ¬ fn.name = "runtime.NumGoroutine" := by simpa using hP.names f fn hf
  simp [hf, hn, hb]
 ·refine calls_of_wp hf hb ?_
  have he : EnvR ρ (aI args) { tmps := args' ++ Array.replicate (fn.ntmps - args'.size) undef, defers := [] } := by
   intro t
   unfold aI
   have hlen := hargs.length
   simp only [Array.length_toList] at hlen
   by_cases ht : t < args.length
   ·have hg : args[t]? = some args[t] := by simp [ht]
    obtain ⟨v', h2, h3⟩ := hargs.get t _ hg
    simp only [Array.getElem?_toList] at h2
    rw [show args.getD t aV = args[t] by simp [List.getD, hg]]
    have : (args' ++ Array.replicate (fn.ntmps - args'.size) undef).getD t undef = v' := by
     simp [Array.getElem?_append_left (show t < args'.size by omega), h2]
    rw [this]
    exact h3
   ·have hg : args.getD t aV = aV := by simp [List.getD, List.getElem?_eq_none (Nat.le_of_not_lt ht)]
    rw [hg]
    have : (args' ++ Array.replicate (fn.ntmps - args'.size) undef).getD t undef = undef := by
     rw [Array.getD_eq_getD_getElem?, Array.getElem?_append_right (by omega)]
     simp only [Array.getElem?_replicate]
     split <;> rfl
    rw [this]
    exact .t [] #[] .nil
  have hst : StP G fn.ntmps ρ w _ { tmps := args' ++ Array.replicate (fn.ntmps - args'.size) undef, defers := [] } w :=
   ⟨ρ, aI args, h, Ex.refl G ρ, H, he, Kp.refl G w, by simp; omega, rfl, hF args h v h1 hr H.isFresh⟩
  refine wp_mono (bUl K hP.mixed c _ _ _ _ _ hst) fun e a' w' hq => ?_
  have hfin : StP G fn.ntmps ρ w (fun env h' => ∃ h2, aT C fn env h' = some (v, h2) ∧ Le h2 h1) a' w' → a'.defers = [] ∧ ∃ v', (results fn a'.tmps).run C.P w' = .ok v' w' ∧ lP G ρ w v h1 (.returned v') w' := by
   rintro ⟨ρ', env, h', e1, e2, e3, e4, e5, e6, h2, e7, e8⟩
   obtain ⟨rfl, v', r1, r2⟩ := aWf e2 e3 e7
   exact ⟨e6, v', r1, ρ', v', rfl, e1, r2, e8 _ _ _ e2, e4⟩
  cases e with
  | normal => exact hfin hq
  | ret => exact hfin hq
  | exit id => obtain ⟨ρ', env, h', e1, e2, e3, e4, e5, e6, e7⟩ := hq; exact e7.elim
  | goto l => exact hq.elim
  | panic ch => exact hq.elim
  | outgrown => exact hq.elim
end
end Go.Dd

namespace Go.Dd
open Go.RowKit (Below)
section
variable {ro : Option Nat} {n : Nat} {P : Program} {Q : Exit → Act → World → Prop}
end
section
variable {C : Cfg} {G : Gd} {rec : FuncId → List DV → Hp → aJ} {nt n : Nat}
end
end Go.Dd

namespace Go.Dd
open Go.RowKit (Below)
section
variable {G G' : Gd} {ρ : cZ} {h : Hp} {w : World}
end
end Go.Dd

namespace Go.Dd
open Go.RowKit (Below)
structure ItC where
 gf : FuncId
 nt : Nat
 pre : Code
 b0 : Nat
 test : Code
 b1 : Nat
 rid : Nat
 front : List Oper
 y : Oper
 back : List Oper
 after : Code
 post : Code
 step : Code
 yd : Tmp
 yt : Tmp
 yx : Tmp
def ItC.ops (I : ItC) : Array Oper := (I.front ++ I.y :: I.back).toArray
def aMm : Nat → K := fun _ => dK
def ylB (v : DV) (b : Pos) : Bool := match v with
 | .yl b' => b' == b
 | _ => false
section
variable (C : Cfg) (rec : FuncId → List DV → Hp → aJ) (n : Nat) (I : ItC)
noncomputable def aNr (b : Bool) (kr k : K) (e1 : aY) : Hp → aJ := fun h =>
 cnd (cX I.nt (some I.yd)) (iW C rec I.nt I.ops I.back (aM C rec I.nt n I.after aMm kr k) (bM e1 (some I.yd) (.b b)) h)
noncomputable def aUb (nt : Nat) (p : Tmp) (x y : Code) (env : aY) (X : Nat → K) (kr kk : K) : K := fun e1 h1 =>
 cnd (cX nt (some p)) (aM C rec nt n x aMm dK (aM C rec nt n y
   (fun i _ h2 => aNr C rec n I false (fun _ h3 => X i env h3) dK e1 h2)
   (fun _ h2 => aNr C rec n I false (fun _ h3 => kr env h3) dK e1 h2)
   (fun _ h2 => aNr C rec n I true dK (aM C rec I.nt n I.post aMm dK (aM C rec I.nt n I.step aMm dK kk)) e1 h2))
  (bM env (some p) (e1 I.yx)) h1)
noncomputable def aJv (nt : Nat) (g : Operand) (p : Tmp) (x y : Code) (X : Nat → K) (kr k : K) : K := fun env h =>
 match opr env g with
 | .f gf [] cap => cnd (Nat.beq gf I.gf) (aM C rec I.nt n I.pre aMm dK
   (aN (fun kk => aM C rec I.nt n I.test (fun j => bif Nat.beq j I.b0 then (fun _ h => k env h) else dK) dK
    (iW C rec I.nt I.ops I.front (fun e1 h1 => cnd (ylB (e1 I.yt) h.next) (aUb C rec n I nt p x y env X kr kk e1 h1)))) n)
   (aI (.yl h.next :: cap)) (resv 2 h))
 | _ => none
end
section
variable {C : Cfg} {G : Gd} {rec : FuncId → List DV → Hp → aJ} {n : Nat} {I : ItC} {N : Nat}
end
end Go.Dd

namespace Go.Dd
open Go.RowKit (Below)
section
variable {C : Cfg} {G : Gd} {rec : FuncId → List DV → Hp → aJ} {n : Nat} {I : ItC} {N : Nat}
section
variable {ρ : cZ} {w0 : World} {D l : Nat} {nt : Nat} {p : Tmp} {x y : Code} {f0 : FuncId} {a0 : Act} {env : aY} {X : Nat → Dd.K} {kr k : Dd.K} {r : DV × Hp} {b : Pos}
end
end
end Go.Dd

namespace Go.Dd
open Go.RowKit (Below)
section
variable {C : Cfg} {G : Gd} {rec : FuncId → List DV → Hp → aJ} {n : Nat} {I : ItC} {N : Nat}
variable {ρ : cZ} {w0 : World} {D l : Nat} {nt : Nat} {p : Tmp} {x y : Code} {f0 : FuncId} {a0 : Act} {env : aY} {X : Nat → Dd.K} {kr k : Dd.K} {r : DV × Hp} {b : Pos}
end
end Go.Dd

namespace Go.Dd
open Go.RowKit (Below)
section
variable {C : Cfg} {G : Gd} {rec : FuncId → List DV → Hp → aJ} {n : Nat} {I : ItC} {N : Nat}
end
end Go.Dd

namespace Go.Dd
open Go.RowKit (Below)
noncomputable def dQa (ps : Array Tmp) (k : Tmp → K) : K := match ps.toList with
 | [p] => k p
 | _ => dK
section
variable (C : Cfg) (rec : FuncId → List DV → Hp → aJ) (nt n : Nat) (I : ItC)
noncomputable def cAg (c : Code) : (Nat → K) → K → K → K :=
 Code.rec (motive := fun _ => (Nat → K) → K → K → K)
  (fun _ _ k => k)
  (fun _ ops dr _ _ k => Bool.rec (motive := fun _ => K) (iW C rec nt ops ops.toList k) (Bool.rec (motive := fun _ => K) dK (iK C rec nt ops k) (fB C.P ops)) dr)
  (fun _ _ iha ihb X kr k => iha X kr (ihb X kr k))
  (fun c _ _ iha ihb X kr k => fun env h => aQ (opr env c) (iha X kr k env h) (ihb X kr k env h))
  (fun id _ ih X kr k => ih (fun j => bif Nat.beq j id then k else X j) kr k)
  (fun _ ih X kr _ => aN (fun kk => ih X kr kk) n)
  (fun g ps x y _ _ X kr k => dQa ps fun p => aJv C rec n I nt g p x y X kr k)
  (fun id X _ _ => X id)
  (fun _ _ _ _ _ => dK)
  (fun _ _ _ _ => dK)
  (fun _ _ _ _ => dK)
  (fun _ kr _ => kr)
  (fun _ _ _ _ => dK) c
noncomputable def mK (f : FuncId) (args : List DV) (h : Hp) : aJ :=
 match C.P.funcs[f]? with
 | some fn => match fn.body with
  | some c => cAg C rec fn.ntmps n I c (fun _ => dK) (aT C fn) (aT C fn) (aI args) h
  | none => none
 | none => none
end
section
variable {C : Cfg} {G : Gd} {rec : FuncId → List DV → Hp → aJ} {nt n : Nat} {I : ItC}
end
end Go.Dd

namespace Go.Dd
noncomputable section
def WT.get (t : WT) : Nat → Int :=
 WT.rec (motive := fun _ => Nat → Int) (fun _ => .ofNat 0)
  (fun _ v _ ihl ihr k => bif Nat.beq k 0 then v else bif Nat.beq (Nat.mod k 2) 1 then ihl (Nat.div k 2) else ihr (Nat.div (Nat.sub k 1) 2)) t
def dTa (x : Int) (fuel : Nat) : Nat → WT → WT :=
 Nat.rec (motive := fun _ => Nat → WT → WT) (fun _ t => t)
  (fun _ ih k t => WT.rec (motive := fun _ => WT)
   (bif Nat.beq k 0 then .n .e x .e else bif Nat.beq (Nat.mod k 2) 1 then .n (ih (Nat.div k 2) .e) (.ofNat 0) .e else .n .e (.ofNat 0) (ih (Nat.div (Nat.sub k 1) 2) .e))
   (fun l v r _ _ => bif Nat.beq k 0 then .n l x r else bif Nat.beq (Nat.mod k 2) 1 then .n (ih (Nat.div k 2) l) v r else .n l v (ih (Nat.div (Nat.sub k 1) 2) r)) t) fuel
def WT.set (t : WT) (k : Nat) (x : Int) : WT := dTa x 24 k t
theorem WT.get_e (k : Nat) : WT.e.get k = 0 := rfl
theorem dSx (l : WT) (v : Int) (r : WT) (k : Nat) : (WT.n l v r).get k = if k = 0 then v else if k % 2 = 1 then l.get (k / 2) else r.get ((k - 1) / 2) := by
 show (bif Nat.beq k 0 then v else bif Nat.beq (Nat.mod k 2) 1 then l.get (Nat.div k 2) else r.get (Nat.div (Nat.sub k 1) 2)) = _
 cases h0 : Nat.beq k 0 with
 | true => have := Nat.eq_of_beq_eq_true h0; subst this; rfl
 | false =>
  have n0 : k ≠ 0 := by intro e; subst e; cases h0
  rw [if_neg n0]
  cases h1 : Nat.beq (Nat.mod k 2) 1 with
  | true => have : k % 2 = 1 := Nat.eq_of_beq_eq_true h1; rw [if_pos this]; rfl
  | false =>
   have n1 : k % 2 ≠ 1 := by intro e; have e' : Nat.mod k 2 = 1 := e; rw [e'] at h1; cases h1
   rw [if_neg n1]; rfl
theorem dTj (x : Int) (f k : Nat) (t : WT) : dTa x (f + 1) k t = match t with
  | .e => if k = 0 then .n .e x .e else if k % 2 = 1 then .n (dTa x f (k / 2) .e) 0 .e else .n .e 0 (dTa x f ((k - 1) / 2) .e)
  | .n l v r => if k = 0 then .n l x r else if k % 2 = 1 then .n (dTa x f (k / 2) l) v r else .n l v (dTa x f ((k - 1) / 2) r) := by
 have hb : ∀ {α : Type} (a b c : α), (bif Nat.beq k 0 then a else bif Nat.beq (Nat.mod k 2) 1 then b else c) = if k = 0 then a else if k % 2 = 1 then b else c := by
  intro α a b c
  cases h0 : Nat.beq k 0 with
  | true => have := Nat.eq_of_beq_eq_true h0; subst this; rfl
  | false =>
   have n0 : k ≠ 0 := by intro e; subst e; cases h0
   rw [if_neg n0]
   cases h1 : Nat.beq (Nat.mod k 2) 1 with
   | true => have : k % 2 = 1 := Nat.eq_of_beq_eq_true h1; rw [if_pos this]; rfl
   | false =>
    have n1 : k % 2 ≠ 1 := by intro e; have e' : Nat.mod k 2 = 1 := e; rw [e'] at h1; cases h1
    rw [if_neg n1]; rfl
 cases t with
 | e => exact hb _ _ _
 | n l v r => exact hb _ _ _
theorem dTd (x : Int) : ∀ (f k : Nat) (t : WT) (j : Nat), k + 1 < 2 ^ f → (dTa x f k t).get j = if j = k then x else t.get j
 | 0, k, t, j, h => by simp at h
 | f + 1, k, t, j, h => by
  have h2 : 2 ^ (f + 1) = 2 * 2 ^ f := by rw [Nat.pow_succ]; omega
  have ih := fun k t j (h : k + 1 < 2 ^ f) => dTd x f k t j h
  rw [dTj]
  cases t with
  | e =>
   simp only
   split
   ·subst_vars
    rw [dSx]
    split
    ·rfl
    ·simp [WT.get_e]
   ·split
    ·rw [dSx]
     split
     ·subst_vars; rw [if_neg (by omega)]; rfl
     ·split
      ·rw [ih _ _ _ (by omega), WT.get_e, WT.get_e]
       by_cases hj : j = k
       ·rw [if_pos hj, if_pos (by omega)]
       ·rw [if_neg hj, if_neg (by omega)]
      ·rw [WT.get_e, if_neg (by omega)]; rfl
    ·rw [dSx]
     split
     ·subst_vars; rw [if_neg (by omega)]; rfl
     ·split
      ·rw [WT.get_e, if_neg (by omega)]; rfl
      ·rw [ih _ _ _ (by omega), WT.get_e, WT.get_e]
       by_cases hj : j = k
       ·rw [if_pos hj, if_pos (by omega)]
       ·rw [if_neg hj, if_neg (by omega)]
  | n l v r =>
   simp only
   split
   ·subst_vars
    rw [dSx, dSx]
    split
    ·rfl
    ·rfl
   ·split
    ·rw [dSx, dSx]
     split
     ·subst_vars; rw [if_neg (by omega)]
     ·split
      ·rw [ih _ _ _ (by omega)]
       by_cases hj : j = k
       ·rw [if_pos hj, if_pos (by omega)]
       ·rw [if_neg hj, if_neg (by omega)]
      ·rw [if_neg (by omega)]
    ·rw [dSx, dSx]
     split
     ·subst_vars; rw [if_neg (by omega)]
     ·split
      ·rw [if_neg (by omega)]
      ·rw [ih _ _ _ (by omega)]
       by_cases hj : j = k
       ·rw [if_pos hj, if_pos (by omega)]
       ·rw [if_neg hj, if_neg (by omega)]
theorem WT.get_set (t : WT) (k : Nat) (x : Int) (j : Nat) (h : k < 16000000) : (t.set k x).get j = if j = k then x else t.get j :=
 dTd x 24 k t j (by omega)
def hC (n : Nat) (t : WT) : List DV := (List.range n).map fun i => .i .i64 (t.get i)
def tW (g : Bool) : Ob → Ob → Prop
 | .big n t, o => if g then o = .big n t else o = .row .ex (hC n t)
 | .mi t, o => if g then o = .mi t else ∃ es, o = .mp es ∧ ∀ a : Int, dH (.int .i64) (.i .i64 a) es = some (if 0 ≤ a ∧ t.get a.toNat ≠ 0 then some (.b true) else none)
 | o, o' => o' = o
structure Sim (g : Bool) (h h' : Hp) : Prop where
 next : h'.next = h.next
 get : ∀ b o, h.bl.get b = some o → ∃ o', h'.bl.get b = some o' ∧ tW g o o'
def SimR (g : Bool) (r r' : aJ) : Prop := ∀ v h, r = some (v, h) → ∃ h', r' = some (v, h') ∧ Sim g h h'
def SimP (g : Bool) (p p' : Hp → aJ) : Prop := ∀ h h', Sim g h h' → SimR g (p h) (p' h')
variable {h h' : Hp} {g : Bool}
theorem Sim.row (S : Sim g h h') {b : Pos} {k : Kind} {l : List DV} (hb : h.bl.get b = some (.row k l)) : h'.bl.get b = some (.row k l) := by
 obtain ⟨o', h1, h2⟩ := S.get b _ hb
 rw [h1, show o' = .row k l from h2]
theorem Sim.it (S : Sim g h h') {b : Pos} {s : List Nat} {p : Nat} (hb : h.bl.get b = some (.it s p)) : h'.bl.get b = some (.it s p) := by
 obtain ⟨o', h1, h2⟩ := S.get b _ hb
 rw [h1, show o' = .it s p from h2]
theorem Sim.mp (S : Sim g h h') {b : Pos} {es : List (DV × DV)} (hb : h.bl.get b = some (.mp es)) : h'.bl.get b = some (.mp es) := by
 obtain ⟨o', h1, h2⟩ := S.get b _ hb
 rw [h1, show o' = .mp es from h2]
theorem Sim.set (S : Sim g h h') {o o' : Ob} (hr : tW g o o') (b n : Pos) : Sim g ⟨n, Tr.set o b h.bl⟩ ⟨n, Tr.set o' b h'.bl⟩ := by
 refine ⟨rfl, fun x ob hx => ?_⟩
 by_cases e : x = b
 ·subst e
  simp only [dSf, bE] at hx ⊢
  subst hx
  exact ⟨o', rfl, hr⟩
 ·simp only [dSe _ _ _ _ e] at hx ⊢
  exact S.get x ob hx
theorem Sim.setR (S : Sim g h h') (k : Kind) (l : List DV) (b n : Pos) : Sim g ⟨n, Tr.set (.row k l) b h.bl⟩ ⟨n, Tr.set (.row k l) b h'.bl⟩ := S.set (show tW g (.row k l) (.row k l) from rfl) b n
theorem Sim.setM (S : Sim g h h') (es : List (DV × DV)) (b n : Pos) : Sim g ⟨n, Tr.set (.mp es) b h.bl⟩ ⟨n, Tr.set (.mp es) b h'.bl⟩ := S.set (show tW g (.mp es) (.mp es) from rfl) b n
theorem Sim.setI (S : Sim g h h') (s : List Nat) (p : Nat) (b n : Pos) : Sim g ⟨n, Tr.set (.it s p) b h.bl⟩ ⟨n, Tr.set (.it s p) b h'.bl⟩ := S.set (show tW g (.it s p) (.it s p) from rfl) b n
theorem Sim.new (S : Sim g h h') {o o' : Ob} (hr : tW g o o') : Sim g ⟨h.next.succ, Tr.set o h.next h.bl⟩ ⟨h'.next.succ, Tr.set o' h'.next h'.bl⟩ := by
 rw [S.next]; exact S.set hr _ _
theorem SimR.none (r : aJ) : SimR g none r := fun v h e => by cases e
theorem SimR.some (S : Sim g h h') (v : DV) : SimR g (some (v, h)) (some (v, h')) := fun u k e => by
 simp only [bE, bP] at e
 obtain ⟨rfl, rfl⟩ := e
 exact ⟨h', rfl, S⟩
theorem dSi {F : Hp → aJ} (hF : PureP F) : SimP g F F := fun h h' S v k e => by
 obtain ⟨rfl, h2⟩ := hF h v k e
 exact ⟨h', h2 h', S⟩
theorem Sim.rowOf (S : Sim g h h') {b : Pos} {l : List DV} (hb : rowOf b h = some l) : rowOf b h' = some l := by
 unfold Dd.rowOf at hb ⊢
 split at hb <;> (try (cases hb; done))
 rename_i k l0 h0
 rw [S.row h0]; exact hb
theorem Sim.cellsAt (S : Sim g h h') {b : Pos} {o n : Nat} {cs : List DV} (hb : cellsAt b o n h = some cs) : cellsAt b o n h' = some cs := by
 unfold Dd.cellsAt at hb ⊢
 split at hb <;> (try (cases hb; done))
 rename_i l h0
 rw [S.rowOf h0]; exact hb
theorem Sim.cellD (S : Sim g h h') {b : Pos} {o : Nat} {v : DV} (hb : cellD b o h = some v) : cellD b o h' = some v := by
 unfold Dd.cellD at hb ⊢
 split at hb <;> (try (cases hb; done))
 rename_i l h0
 rw [S.rowOf h0]; exact hb
theorem Sim.storeAt (S : Sim g h h') {b : Pos} {o : Nat} {vs : List DV} {k : Hp} (hb : dG b o vs h = some k) : ∃ k', dG b o vs h' = some k' ∧ Sim g k k' := by
 unfold dG at hb ⊢
 split at hb <;> (try (cases hb; done))
 rename_i kd l h0
 rw [S.row h0]
 dsimp only
 split at hb <;> (try (cases hb; done))
 rename_i hw
 rw [if_pos hw]
 split at hb <;> (try (cases hb; done))
 rename_i l' hp
 simp only [bE] at hb
 subst hb
 try simp only [hp]
 exact ⟨_, rfl, by rw [S.next]; exact S.set (show tW g (.row kd l') (.row kd l') from rfl) _ _⟩
theorem aEi (cs : List DV) : SimP g (bL cs) (bL cs) := fun h h' S v k e => by
 simp only [bL, bE, bP] at e ⊢
 obtain ⟨rfl, rfl⟩ := e
 exact ⟨_, ⟨by rw [S.next], rfl⟩, S.new rfl⟩
theorem aAv (b : Pos) (cs : List DV) : SimP g (lH b cs) (lH b cs) := fun h h' S v k e => by
 simp only [lH, bE, bP] at e ⊢
 obtain ⟨rfl, rfl⟩ := e
 exact ⟨_, ⟨rfl, rfl⟩, by rw [S.next]; first | exact S.setR _ _ _ _ | exact S.setM _ _ _ | exact S.setI _ _ _ _⟩
theorem cHg (x : DV) : SimP g (bS x) (bS x) := by
 unfold bS
 cases dI x with
 | none => exact fun h h' S => SimR.none _
 | some cs => exact aEi cs
theorem bHt (b : Pos) (x : DV) : SimP g (wI b x) (wI b x) := by
 unfold wI
 cases dI x with
 | none => exact fun h h' S => SimR.none _
 | some cs => exact aAv b cs
theorem kK (x : DV) : SimP g (aA x) (aA x) := fun h h' S v k e => by
 unfold aA at e ⊢
 split at e <;> (try (cases e; done))
 split at e <;> (try (cases e; done))
 rename_i hc
 simp only [bE, bP] at e
 obtain ⟨rfl, rfl⟩ := e
 simp only [S.cellD hc]
 exact ⟨_, rfl, S⟩
theorem kJ (n : Nat) (x : DV) : SimP g (aK n x) (aK n x) := fun h h' S v k e => by
 unfold aK at e ⊢
 split at e <;> (try (cases e; done))
 split at e <;> (try (cases e; done))
 rename_i hc
 simp only [bE, bP] at e
 obtain ⟨rfl, rfl⟩ := e
 simp only [S.cellsAt hc]
 exact ⟨_, rfl, S⟩
theorem kR (n : Nat) (x y : DV) : SimP g (aG n x y) (aG n x y) := fun h h' S v k e => by
 unfold aG at e ⊢
 split at e <;> (try (cases e; done))
 rename_i b o cs hc
 try rw [hc]
 try dsimp only
 split at e <;> (try (cases e; done))
 rename_i hn
 rw [if_pos hn]
 split at e <;> (try (cases e; done))
 rename_i k0 hs
 simp only [bE, bP] at e
 obtain ⟨rfl, rfl⟩ := e
 obtain ⟨k', h1, h2⟩ := S.storeAt hs
 try simp only [h1]
 exact ⟨_, rfl, h2⟩
theorem bGx (size : Nat) (x : DV) (lo hi : Option DV) : SimP g (cT size x lo hi) (cT size x lo hi) := fun h h' S v k e => by
 unfold cT at e ⊢
 split at e <;> (try (cases e; done))
 ·split at e <;> (try (cases e; done))
  rename_i en he
  try simp only [he]
  split at e <;> (try (cases e; done))
  rename_i s hs
  try simp only [hs]
  split at e <;> (try (cases e; done))
  ·rename_i l0 hb
   rw [S.row hb]
   simp only [bE, bP] at e
   obtain ⟨rfl, rfl⟩ := e
   exact ⟨_, rfl, S⟩
  ·rename_i l0 hb
   rw [S.row hb]
   simp only [bE, bP] at e
   obtain ⟨rfl, rfl⟩ := e
   exact ⟨_, rfl, S⟩
  ·rename_i k0 l0 n1 n2 hb
   rw [S.row hb]
   cases k0 with
   | ro => exact absurd rfl n1
   | ex => exact absurd rfl n2
   | gr es =>
    dsimp only
    split at e
    ·rename_i hcs
     simp only [bE, bP] at e
     obtain ⟨rfl, rfl⟩ := e
     rw [if_pos hcs]
     exact ⟨_, rfl, S⟩
    ·rename_i hcs
     simp only [bE, bP] at e
     obtain ⟨rfl, rfl⟩ := e
     rw [if_neg hcs]
     exact ⟨_, rfl, S⟩
   | sp =>
    dsimp only
    split at e
    ·rename_i hcs
     simp only [bE, bP] at e
     obtain ⟨rfl, rfl⟩ := e
     rw [if_pos hcs]
     exact ⟨_, rfl, S⟩
    ·rename_i hcs
     simp only [bE, bP] at e
     obtain ⟨rfl, rfl⟩ := e
     rw [if_neg hcs]
     exact ⟨_, rfl, S⟩
 all_goals
  split at e <;> (try (cases e; done))
  rename_i en he
  try simp only [he]
  split at e <;> (try (cases e; done))
  rename_i s hs
  try simp only [hs]
  simp only [bE, bP] at e
  obtain ⟨rfl, rfl⟩ := e
  exact ⟨_, rfl, S⟩
theorem aPr (x : DV) (lo : Option DV) (hi mx : DV) : SimP g (mR x lo hi mx) (mR x lo hi mx) := fun h h' S v k e => by
 unfold mR at e ⊢
 split at e <;> (try (cases e; done))
 all_goals
  split at e <;> (try (cases e; done))
 ·rename_i m e1
  try simp only [e1]
  split at e <;> (try (cases e; done))
  rename_i n e2
  try simp only [e2]
  simp only [bE, bP] at e
  obtain ⟨rfl, rfl⟩ := e
  exact ⟨_, rfl, S⟩
 ·rename_i m e1
  try simp only [e1]
  split at e <;> (try (cases e; done))
  rename_i n e2
  try simp only [e2]
  simp only [bE, bP] at e
  obtain ⟨rfl, rfl⟩ := e
  exact ⟨_, rfl, S⟩
 ·rename_i n1 n2 e1 e2
  try simp only [e1, e2]
  simp only [bE, bP] at e
  obtain ⟨rfl, rfl⟩ := e
  exact ⟨_, rfl, S⟩
 ·rename_i n1 n2 e1 e2
  try simp only [e1, e2]
  simp only [bE, bP] at e
  obtain ⟨rfl, rfl⟩ := e
  exact ⟨_, rfl, S⟩
theorem bFz (x : DV) : SimP g (fT x) (fT x) := fun h h' S v k e => by
 unfold fT at e ⊢
 split at e <;> (try (cases e; done))
 ·simp only [bE, bP] at e
  obtain ⟨rfl, rfl⟩ := e
  exact ⟨_, rfl, S⟩
 ·split at e <;> (try (cases e; done))
  rename_i cs hc
  simp only [S.cellsAt hc]
  split at e <;> (try (cases e; done))
  rename_i l hl
  try simp only [hl]
  simp only [bE, bP] at e
  obtain ⟨rfl, rfl⟩ := e
  exact ⟨_, rfl, S⟩
theorem vM (z : List DV) (n : Nat) (ps : List (Nat × Nat × DV)) : SimP g (aL z n ps) (aL z n ps) := fun h h' S v k e => by
 unfold aL at e ⊢
 split at e <;> (try (cases e; done))
 rename_i cs hf
 try simp only [hf]
 simp only [bE, bP] at e ⊢
 obtain ⟨rfl, rfl⟩ := e
 exact ⟨_, ⟨by rw [S.next], rfl⟩, S.new rfl⟩
theorem qT (b : Pos) (z : List DV) (n : Nat) (ps : List (Nat × Nat × DV)) : SimP g (bJ b z n ps) (bJ b z n ps) := fun h h' S v k e => by
 unfold bJ at e ⊢
 split at e <;> (try (cases e; done))
 rename_i cs hf
 try simp only [hf]
 simp only [bE, bP] at e ⊢
 obtain ⟨rfl, rfl⟩ := e
 exact ⟨_, ⟨rfl, rfl⟩, by rw [S.next]; first | exact S.setR _ _ _ _ | exact S.setM _ _ _ | exact S.setI _ _ _ _⟩
theorem aNh : SimP g dV dV := fun h h' S v k e => by
 simp only [dV, bE, bP] at e ⊢
 obtain ⟨rfl, rfl⟩ := e
 exact ⟨_, ⟨by rw [S.next], rfl⟩, S.new rfl⟩
theorem Sim.entries (S : Sim g h h') {x : DV} {es : List (DV × DV)} (he : fL x h = some es) : fL x h' = some es := by
 unfold fL at he ⊢
 split at he <;> (try (cases he; done))
 ·exact he
 ·split at he <;> (try (cases he; done))
  rename_i hb
  rw [S.mp hb]; exact he
theorem aRr (d : TypeDesc) (z : DV) (ok : Bool) (x key : DV) : SimP g (dN d z ok x key) (dN d z ok x key) := fun h h' S v k e => by
 unfold dN at e ⊢
 split at e <;> (try (cases e; done))
 rename_i es he
 simp only [S.entries he]
 split at e <;> (try (cases e; done))
 all_goals
  rename_i hf
  try simp only [hf]
  simp only [bE, bP] at e
  obtain ⟨rfl, rfl⟩ := e
  exact ⟨_, rfl, S⟩
theorem aRs (d : TypeDesc) (x key y : DV) : SimP g (gA d x key y) (gA d x key y) := fun h h' S v k e => by
 unfold gA at e ⊢
 split at e <;> (try (cases e; done))
 split at e <;> (try (cases e; done))
 rename_i b _ es hb
 rw [S.mp hb]
 dsimp only
 split at e <;> (try (cases e; done))
 rename_i hf
 try simp only [hf]
 simp only [bE, bP] at e
 obtain ⟨rfl, rfl⟩ := e
 exact ⟨_, rfl, by rw [S.next]; first | exact S.setR _ _ _ _ | exact S.setM _ _ _ | exact S.setI _ _ _ _⟩
theorem aKe (d : TypeDesc) (z x key : DV) : SimP g (fP d z x key) (fP d z x key) := fun h h' S v k e => by
 unfold fP at e ⊢
 split at e <;> (try (cases e; done))
 split at e <;> (try (cases e; done))
 rename_i b _ es hb
 rw [S.mp hb]
 dsimp only
 split at e <;> (try (cases e; done))
 all_goals
  rename_i hf
  try simp only [hf]
  simp only [bE, bP] at e
  obtain ⟨rfl, rfl⟩ := e
  exact ⟨_, rfl, by rw [S.next]; first | exact S.setR _ _ _ _ | exact S.setM _ _ _ | exact S.setI _ _ _ _⟩
theorem yR (x s y : DV) : SimP g (dY x s y) (dY x s y) := fun h h' S v k e => by
 unfold dY at e ⊢
 split at e <;> (try (cases e; done))
 split at e <;> (try (cases e; done))
 rename_i es hb
 rw [S.mp hb]
 dsimp only
 split at e <;> (try (cases e; done))
 rename_i hf
 try simp only [hf]
 simp only [bE, bP] at e
 obtain ⟨rfl, rfl⟩ := e
 exact ⟨_, rfl, by rw [S.next]; first | exact S.setR _ _ _ _ | exact S.setM _ _ _ | exact S.setI _ _ _ _⟩
theorem aAf (size bytes : Nat) (z : List DV) (n c : DV) : SimP g (cI size bytes z n c) (cI size bytes z n c) := fun h h' S v k e => by
 unfold cI at e ⊢
 split at e <;> (try (cases e; done))
 split at e <;> (try (cases e; done))
 rename_i hc
 rw [if_pos hc]
 simp only [bE, bP] at e ⊢
 obtain ⟨rfl, rfl⟩ := e
 exact ⟨_, ⟨by rw [S.next], rfl⟩, S.new rfl⟩
theorem bEa (z : List DV) (x : DV) : SimP g (jB z x) (jB z x) := fun h h' S v k e => by
 unfold jB at e ⊢
 split at e <;> (try (cases e; done))
 ·simp only [bE, bP] at e
  obtain ⟨rfl, rfl⟩ := e
  exact ⟨_, rfl, S⟩
 ·simp only [bE, bP] at e
  obtain ⟨rfl, rfl⟩ := e
  exact ⟨_, rfl, S⟩
 ·split at e
  ·rename_i hn
   simp only [bE, bP] at e
   obtain ⟨rfl, rfl⟩ := e
   simp only [hn, if_true]
   exact ⟨_, rfl, S⟩
  ·rename_i hn
   rw [if_neg hn]
   split at e <;> (try (cases e; done))
   rename_i k0 hs
   simp only [bE, bP] at e
   obtain ⟨rfl, rfl⟩ := e
   obtain ⟨k', h1, h2⟩ := S.storeAt hs
   try simp only [h1]
   exact ⟨_, rfl, h2⟩
theorem Sim.src (S : Sim g h h') {size : Nat} {x : DV} {r : Nat × List DV} (hs : sI size x h = some r) : sI size x h' = some r := by
 unfold sI at hs ⊢
 split at hs <;> (try (cases hs; done))
 ·exact hs
 ·exact hs
 ·split at hs <;> (try (cases hs; done))
  rename_i hc
  simp only [S.cellsAt hc]; exact hs
 ·split at hs <;> (try (cases hs; done))
  rename_i hc
  simp only [S.cellsAt hc]; exact hs
 ·exact hs
theorem aSx (size bytes : Nat) (s x : DV) : SimP g (aZ size bytes s x) (aZ size bytes s x) := fun h h' S v k e => by
 unfold aZ at e ⊢
 split at e <;> (try (cases e; done))
 rename_i n new hs
 simp only [S.src hs]
 split at e <;> (try (cases e; done))
 ·split at e
  ·rename_i hn
   rw [if_pos hn]
   simp only [bE, bP] at e
   obtain ⟨rfl, rfl⟩ := e
   exact ⟨_, rfl, S⟩
  ·rename_i hn
   rw [if_neg hn]
   split at e <;> (try (cases e; done))
   rename_i hr
   rw [if_pos hr]
   simp only [bE, bP] at e ⊢
   obtain ⟨rfl, rfl⟩ := e
   exact ⟨_, ⟨by rw [S.next], rfl⟩, S.new rfl⟩
 ·split at e <;> (try (cases e; done))
  rename_i hn
  rw [if_pos hn]
  simp only [bE, bP] at e
  obtain ⟨rfl, rfl⟩ := e
  exact ⟨_, rfl, S⟩
 ·rename_i b o len cap
  split at e
  ·rename_i hle
   rw [if_pos hle]
   split at e <;> (try (cases e; done))
   rename_i k0 hst
   simp only [bE, bP] at e
   obtain ⟨rfl, rfl⟩ := e
   obtain ⟨k', h1, h2⟩ := S.storeAt hst
   try simp only [h1]
   exact ⟨_, rfl, h2⟩
  ·rename_i hle
   rw [if_neg hle]
   split at e <;> (try (cases e; done))
   rename_i k0 l old hb hold
   rw [S.row hb, S.cellsAt hold]
   dsimp only
   split at e <;> (try (cases e; done))
   rename_i hroom
   rw [if_pos hroom]
   split at e <;> (try (cases e; done))
   ·simp only [bE, bP] at e ⊢
    obtain ⟨rfl, rfl⟩ := e
    exact ⟨_, ⟨by rw [S.next], rfl⟩, S.new rfl⟩
   ·simp only [bE, bP] at e ⊢
    obtain ⟨rfl, rfl⟩ := e
    exact ⟨_, ⟨by rw [S.next], rfl⟩, S.new rfl⟩
   ·split at e <;> (try (cases e; done))
    rename_i hes
    rw [if_pos hes]
    simp only [bE, bP] at e ⊢
    obtain ⟨rfl, rfl⟩ := e
    refine ⟨_, ⟨by rw [S.next], rfl⟩, ?_⟩
    have S1 : Sim g ⟨h.next, Tr.set (.row .sp (bT o l)) b h.bl⟩ ⟨h'.next, Tr.set (.row .sp (bT o l)) b h'.bl⟩ := by
     rw [S.next]; exact S.set (show tW g (.row .sp (bT o l)) (.row .sp (bT o l)) from rfl) _ _
    exact S1.new rfl
 ·rename_i b o len cap
  split at e
  ·rename_i hn
   rw [if_pos hn]
   split at e <;> (try (cases e; done))
   rename_i hc
   rw [if_pos hc]
   simp only [bE, bP] at e
   obtain ⟨rfl, rfl⟩ := e
   exact ⟨_, rfl, S⟩
  ·rename_i hn
   rw [if_neg hn]
   split at e <;> (try (cases e; done))
   rename_i hc
   rw [if_neg hc]
   split at e <;> (try (cases e; done))
   rename_i old hold
   simp only [S.cellsAt hold]
   split at e <;> (try (cases e; done))
   rename_i hr
   rw [if_pos hr]
   simp only [bE, bP] at e ⊢
   obtain ⟨rfl, rfl⟩ := e
   exact ⟨_, ⟨by rw [S.next], rfl⟩, S.new rfl⟩
theorem bFy (x : DV) : SimP g (nV x) (nV x) := fun h h' S v k e => by
 unfold nV at e ⊢
 split at e <;> (try (cases e; done))
 simp only [bE, bP] at e ⊢
 obtain ⟨rfl, rfl⟩ := e
 exact ⟨_, ⟨by rw [S.next], rfl⟩, S.new rfl⟩
theorem bTz (x : DV) : SimP g (yT x) (yT x) := fun h h' S v k e => by
 unfold yT at e ⊢
 split at e <;> (try (cases e; done))
 split at e <;> (try (cases e; done))
 rename_i b _ l pos hb
 rw [S.it hb]
 dsimp only
 split at e
 ·rename_i c hc
  try simp only [hc]
  split at e <;> (try (cases e; done))
  rename_i hlt
  rw [if_pos hlt]
  simp only [bE, bP] at e ⊢
  obtain ⟨rfl, rfl⟩ := e
  exact ⟨_, ⟨rfl, rfl⟩, by rw [S.next]; first | exact S.setR _ _ _ _ | exact S.setM _ _ _ | exact S.setI _ _ _ _⟩
 ·rename_i hc
  try simp only [hc]
  simp only [bE, bP] at e ⊢
  obtain ⟨rfl, rfl⟩ := e
  exact ⟨_, ⟨rfl, rfl⟩, S⟩
end
end Go.Dd

namespace Go.Dd
theorem SimP.none {gg : Bool} (p : Hp → aJ) : SimP gg (fun _ => Option.none) p := fun h h' S => SimR.none _
theorem SimP.val {gg : Bool} (v : DV) : SimP gg (fun h => some (v, h)) (fun h => some (v, h)) := fun h h' S => SimR.some S v
section
variable {gg : Bool} {P : Program} {I2 I1 : FuncId → Option (List DV → Hp → aJ)} {rec2 rec1 : FuncId → List DV → Hp → aJ}
theorem aNx (b : Builtin) (ts : List TypeId) (args : List DV) : SimP gg (jJ ⟨P, I2⟩ b ts args) (jJ ⟨P, I1⟩ b ts args) := by
 unfold jJ
 cases b <;> try exact SimP.none _
 case len =>
  match ts, args with
  | [t], [x] =>
   dsimp only
   cases P.underlying t with
   | none => exact SimP.none _
   | some d => cases d <;> first | exact SimP.none _ | exact dSi (aBb x) | exact dSi (mJ x)
  | [], _ => exact SimP.none _
  | [_], [] => exact SimP.none _
  | [_], _ :: _ :: _ => exact SimP.none _
  | _ :: _ :: _, _ => exact SimP.none _
 case min =>
  show SimP gg (rD args) (rD args)
  unfold rD
  match args with
  | [x, y] => exact dSi (aNd x y)
  | [] => exact SimP.none _
  | [_] => exact SimP.none _
  | _ :: _ :: _ :: _ => exact SimP.none _
 case max =>
  show SimP gg (qQ args) (qQ args)
  unfold qQ
  match args with
  | [x, y] => exact dSi (aLy x y)
  | [] => exact SimP.none _
  | [_] => exact SimP.none _
  | _ :: _ :: _ :: _ => exact SimP.none _
 case clear =>
  match ts, args with
  | [t], [x] =>
   dsimp only
   cases P.underlying t with
   | none => exact SimP.none _
   | some d =>
    cases d <;> try exact SimP.none _
    rename_i e
    dsimp only
    cases P.info? e with
    | none => exact SimP.none _
    | some i =>
     dsimp only
     cases i.zero with
     | none => exact SimP.none _
     | some z =>
      dsimp only
      by_cases h0 : 0 < z.cells.size
      ·simp only [h0, if_true]; exact bEa _ _
      ·simp only [h0, if_false]; exact SimP.none _
  | [], _ => exact SimP.none _
  | [_], [] => exact SimP.none _
  | [_], _ :: _ :: _ => exact SimP.none _
  | _ :: _ :: _, _ => exact SimP.none _
 case append =>
  match ts, args with
  | [t, u], [s, x] =>
   dsimp only
   have hmain : ∀ e, SimP gg (fun h => match P.info? e with
     | some i => match i.zero with
      | some z => if 0 < i.size ∧ 0 < i.bytes ∧ z.cells.size = i.size then aZ i.size i.bytes s x h else none
      | none => none
     | none => none) (fun h => match P.info? e with
     | some i => match i.zero with
      | some z => if 0 < i.size ∧ 0 < i.bytes ∧ z.cells.size = i.size then aZ i.size i.bytes s x h else none
      | none => none
     | none => none) := by
    intro e
    cases P.info? e with
    | none => exact SimP.none _
    | some i =>
     dsimp only
     cases i.zero with
     | none => exact SimP.none _
     | some z =>
      dsimp only
      split
      ·exact aSx _ _ _ _
      ·exact SimP.none _
   cases P.underlying t with
   | none => exact SimP.none _
   | some d =>
    cases d <;> try exact SimP.none _
    rename_i e
    cases P.underlying u with
    | none => exact SimP.none _
    | some d2 => cases d2 <;> first | exact SimP.none _ | exact hmain e
  | [], _ => exact SimP.none _
  | [_], _ => exact SimP.none _
  | [_, _], [] => exact SimP.none _
  | [_, _], [_] => exact SimP.none _
  | [_, _], _ :: _ :: _ :: _ => exact SimP.none _
  | _ :: _ :: _ :: _, _ => exact SimP.none _
theorem aAo (HC : ∀ g args, SimP gg (bO ⟨P, I2⟩ rec2 g args) (bO ⟨P, I1⟩ rec1 g args)) (o : Oper) (env : aY) : SimP gg (iV ⟨P, I2⟩ rec2 o env) (iV ⟨P, I1⟩ rec1 o env) := by
 obtain ⟨dst, op, ty, pos, after, guard⟩ := o
 unfold iV
 cases op <;> (try dsimp only) <;> try exact SimP.none _
 case move x => exact SimP.val _
 case assign x => exact SimP.val _
 case pick c x y => exact dSi (aAj _ _ _)
 case alloc t =>
  cases P.info? t with
  | none => exact SimP.none _
  | some i =>
   try dsimp only
   cases i.zero with
   | none => exact SimP.none _
   | some z => exact aEi _
 case box t x => exact cHg _
 case build t ps =>
  cases P.underlying t with
  | none => exact SimP.none _
  | some d =>
   cases d <;> (try dsimp only) <;> try exact SimP.none _
   rename_i fs
   cases P.info? t with
   | none => exact SimP.none _
   | some i =>
    try dsimp only
    cases i.zero with
    | none => exact SimP.none _
    | some z =>
     try dsimp only
     generalize fs.toList.mapM (fun f => (P.info? f.type).map fun fi => (f.offset, fi.size)) = pl
     cases pl with
     | none => exact SimP.none _
     | some pl =>
      try dsimp only
      generalize ps.toList.mapM (fun (q : Nat × Operand) => (pl[q.1]?).map fun s => (s.1, s.2, opr env q.2)) = l
      cases l with
      | none => exact SimP.none _
      | some l => exact dSi (vZ _ _)
 case buildSlice t n ps =>
  cases P.underlying t with
  | none => exact SimP.none _
  | some d =>
   cases d <;> (try dsimp only) <;> try exact SimP.none _
   rename_i e
   cases P.info? e with
   | none => exact SimP.none _
   | some i =>
    try dsimp only
    cases i.zero with
    | none => exact SimP.none _
    | some z =>
     try dsimp only
     split
     ·exact vM _ _ _
     ·exact SimP.none _
 case load t x =>
  cases P.underlying t with
  | none => exact SimP.none _
  | some d =>
   cases P.info? t with
   | none => exact SimP.none _
   | some i =>
    try dsimp only
    cases iU d with
    | true => exact kJ _ _
    | false => exact kK _
 case store t x y =>
  cases P.info? t with
  | none => exact SimP.none _
  | some i => exact kR _ _ _
 case nilCheck x => exact dSi (aMo _)
 case binOp op t x y yt =>
  cases P.underlying t with
  | none => exact SimP.none _
  | some d => exact dSi (aLq _ _ _ _)
 case unOp op t x => exact dSi (bCw _ _)
 case convert src dst x =>
  cases P.underlying src with
  | none => exact SimP.none _
  | some d =>
   cases P.underlying dst with
   | none => cases d <;> exact SimP.none _
   | some d2 =>
    cases d2 <;> cases d <;> (try dsimp only) <;> first | exact SimP.none _ | exact dSi (nK _ _) | exact dSi (nM _) | skip
    all_goals
     rename_i e
     cases P.underlying e with
     | none => exact SimP.none _
     | some d3 =>
      cases d3 <;> (try dsimp only) <;> try exact SimP.none _
      rename_i k
      cases k <;> first | exact SimP.none _ | exact bFz _
 case makeFunc fn first cap =>
  cases fn <;> first | exact SimP.none _ | exact SimP.val _
 case slice t x lo hi mx =>
  cases P.underlying t with
  | none => exact SimP.none _
  | some d =>
   cases mx with
   | none =>
    cases d <;> (try dsimp only) <;> first | exact SimP.none _ | exact dSi (lS _ _ _) | skip
    rename_i e
    cases P.info? e with
    | none => exact SimP.none _
    | some i => exact bGx _ _ _ _
   | some m =>
    cases d <;> (try dsimp only) <;> try exact SimP.none _
    rename_i e
    cases P.info? e with
    | none => exact SimP.none _
    | some i =>
     cases hi with
     | none => exact SimP.none _
     | some hv => exact aPr _ _ _ _
 case fieldAddr t x f =>
  cases P.underlying t with
  | none => exact SimP.none _
  | some d =>
   cases d <;> (try dsimp only) <;> try exact SimP.none _
   rename_i fs
   cases fs[f]? with
   | none => exact SimP.none _
   | some fl =>
    try dsimp only
    cases P.info? fl.type with
    | none => exact SimP.none _
    | some i =>
     try dsimp only
     split
     ·exact SimP.none _
     ·exact dSi (zK _ _)
 case field t x f =>
  cases P.underlying t with
  | none => exact SimP.none _
  | some d =>
   cases d <;> (try dsimp only) <;> try exact SimP.none _
   rename_i fs
   cases fs[f]? with
   | none => exact SimP.none _
   | some fl =>
    try dsimp only
    cases P.underlying fl.type with
    | none => exact SimP.none _
    | some d2 =>
     cases P.info? fl.type with
     | none => exact SimP.none _
     | some i =>
      try dsimp only
      cases iU d2 with
      | true => exact dSi (wK _ _ _)
      | false => exact dSi (zE _ _)
 case indexAddr t x ix =>
  cases P.underlying t with
  | none => exact SimP.none _
  | some d =>
   cases d <;> (try dsimp only) <;> try exact SimP.none _
   ·rename_i e
    cases P.info? e with
    | none => exact SimP.none _
    | some i => exact dSi (mA _ _ _)
   ·rename_i n e
    cases P.info? e with
    | none => exact SimP.none _
    | some i => exact dSi (nG _ _ _ _)
 case index t x ix =>
  cases P.underlying t with
  | none => exact SimP.none _
  | some d => cases d <;> first | exact SimP.none _ | exact dSi (rO _ _)
 case extract x i => exact dSi (pP _ _)
 case range t x =>
  cases P.underlying t with
  | none => exact SimP.none _
  | some d => cases d <;> first | exact SimP.none _ | exact bFy _
 case next x str =>
  cases str with
  | true => simp only [if_true]; exact bTz _
  | false => simp only [Bool.false_eq_true, if_false]; exact SimP.none _
 case makeMap t r => cases r <;> first | exact SimP.none _ | exact aNh
 case lookup t x k ok =>
  cases P.underlying t with
  | none => exact SimP.none _
  | some d =>
   cases d <;> (try dsimp only) <;> try exact SimP.none _
   rename_i kt et
   cases P.underlying kt with
   | none => exact SimP.none _
   | some d2 =>
    cases P.info? et with
    | none => exact SimP.none _
    | some i =>
     try dsimp only
     cases i.zero with
     | none => exact SimP.none _
     | some z =>
      try dsimp only
      cases jA d2 with
      | true => exact aRr _ _ _ _ _
      | false => exact SimP.none _
 case mapUpdate t m k x =>
  cases P.underlying t with
  | none => exact SimP.none _
  | some d =>
   cases d <;> (try dsimp only) <;> try exact SimP.none _
   rename_i kt et
   cases P.underlying kt with
   | none => exact SimP.none _
   | some d2 =>
    try dsimp only
    cases jA d2 with
    | true => exact aRs _ _ _ _
    | false => exact SimP.none _
 case mapEntry t m k =>
  cases P.underlying t with
  | none => exact SimP.none _
  | some d =>
   cases d <;> (try dsimp only) <;> try exact SimP.none _
   rename_i kt et
   cases P.underlying kt with
   | none => exact SimP.none _
   | some d2 =>
    cases P.info? et with
    | none => exact SimP.none _
    | some i =>
     try dsimp only
     cases i.zero with
     | none => exact SimP.none _
     | some z =>
      try dsimp only
      cases jA d2 with
      | true => exact aKe _ _ _ _
      | false => exact SimP.none _
 case entryStore t m s x => exact yR _ _ _
 case makeSlice t n c =>
  cases P.underlying t with
  | none => exact SimP.none _
  | some d =>
   cases d <;> (try dsimp only) <;> try exact SimP.none _
   rename_i e
   cases P.info? e with
   | none => exact SimP.none _
   | some i =>
    try dsimp only
    cases i.zero with
    | none => exact SimP.none _
    | some z =>
     try dsimp only
     split
     ·exact aAf _ _ _ _ _
     ·exact SimP.none _
 case call c =>
  obtain ⟨callee, args, ats⟩ := c
  cases callee with
  | value f =>
   try dsimp only
   unfold cU
   cases opr env f <;> first | exact SimP.none _ | exact HC _ _
  | invoke r m => exact SimP.none _
  | builtin b => exact aNx _ _ _
theorem kN (HC : ∀ g args, SimP gg (bO ⟨P, I2⟩ rec2 g args) (bO ⟨P, I1⟩ rec1 g args)) (all : Array Oper) (o : Oper) (env : aY) :
  SimP gg (bI ⟨P, I2⟩ rec2 all o env) (bI ⟨P, I1⟩ rec1 all o env) := by
 unfold bI
 cases o.guard with
 | none => exact aAo HC o env
 | some g =>
  obtain ⟨j, want⟩ := g
  dsimp only
  unfold gD
  cases aZu all j env <;> try exact SimP.none _
  ·rename_i x
   dsimp only
   split
   ·exact aAo HC o env
   ·exact SimP.val _
  ·rename_i vs
   cases vs with
   | nil => exact SimP.val _
   | cons a b => exact SimP.none _
def SimK (gg : Bool) (k k' : K) : Prop := ∀ env, SimP gg (k env) (k' env)
theorem dSm {r r' : aJ} {k k' : DV → Hp → aJ} (h : SimR gg r r') (hk : ∀ v, SimP gg (k v) (k' v)) : SimR gg (bnd r k) (bnd r' k') := by
 intro v h1 e
 obtain ⟨u, h0, e1, e2⟩ := dJ e
 obtain ⟨h0', f1, S⟩ := h u h0 e1
 obtain ⟨h1', g1, S1⟩ := hk u h0 h0' S v h1 e2
 exact ⟨h1', by rw [f1]; exact g1, S1⟩
theorem dTb {b b' : Bool} {r r' : aJ} (hb : b = true → b' = true) (h : SimR gg r r') : SimR gg (cnd b r) (cnd b' r') := by
 cases b with
 | false => exact fun v k e => by cases e
 | true => rw [hb rfl]; exact h
theorem pF (HC : ∀ g args, SimP gg (bO ⟨P, I2⟩ rec2 g args) (bO ⟨P, I1⟩ rec1 g args)) (nt : Nat) (all : Array Oper) {k k' : K} (hk : SimK gg k k') :
  ∀ l : List Oper, SimK gg (iW ⟨P, I2⟩ rec2 nt all l k) (iW ⟨P, I1⟩ rec1 nt all l k')
 | [] => hk
 | o :: l => fun env h h' S => by
  change SimR gg (cnd (cX nt o.dst) (bnd (bI ⟨P, I2⟩ rec2 all o env h) fun v h1 => iW ⟨P, I2⟩ rec2 nt all l k (bM env o.dst v) h1))
   (cnd (cX nt o.dst) (bnd (bI ⟨P, I1⟩ rec1 all o env h') fun v h1 => iW ⟨P, I1⟩ rec1 nt all l k' (bM env o.dst v) h1))
  exact dTb id (dSm (kN HC all o env h h' S) fun v => pF HC nt all hk l _)
theorem cVk (o : Oper) (b : Pos) (env : aY) : SimP gg (dS ⟨P, I2⟩ o b env) (dS ⟨P, I1⟩ o b env) := by
 obtain ⟨dst, op, ty, pos, after, guard⟩ := o
 unfold dS
 cases op <;> (try dsimp only) <;> try exact SimP.none _
 case alloc t =>
  cases P.info? t with
  | none => exact SimP.none _
  | some i =>
   dsimp only
   cases i.zero with
   | none => exact SimP.none _
   | some z => exact aAv _ _
 case box t x => exact bHt _ _
 case buildSlice t n ps =>
  cases P.underlying t with
  | none => exact SimP.none _
  | some d =>
   cases d <;> (try dsimp only) <;> try exact SimP.none _
   rename_i e
   cases P.info? e with
   | none => exact SimP.none _
   | some i =>
    dsimp only
    cases i.zero with
    | none => exact SimP.none _
    | some z =>
     dsimp only
     split
     ·exact qT _ _ _ _
     ·exact SimP.none _
theorem SimR.same {r r' : aJ} (h : SimR gg r r') {v : DV} (hs : bK r v = true) : bK r' v = true := by
 unfold bK at hs ⊢
 split at hs
 ·rename_i x k
  obtain ⟨k', e, _⟩ := h x k rfl
  rw [e]; exact hs
 ·cases hs
inductive SimHs (gg : Bool) : List (Option Nat × Hp) → List (Option Nat × Hp) → Prop
 | nil : SimHs gg [] []
 | cons {j : Option Nat} {h h' : Hp} {l l' : List (Option Nat × Hp)} (S : Sim gg h h') (T : SimHs gg l l') : SimHs gg ((j, h) :: l) ((j, h') :: l')
theorem sC (m : Array Nat) (i : Nat) (v : DV) {look look' : Hp → aJ} (hl : SimP gg look look') : ∀ (dirty : Bool) {hs hs' : List (Option Nat × Hp)}, SimHs gg hs hs' →
  eI m i v look dirty hs = true → eI m i v look' dirty hs' = true
 | dirty, _, _, .nil, h => h
 | dirty, _, _, .cons (j := j) S T, h => by
  unfold eI at h ⊢
  rw [Bool.and_eq_true] at h ⊢
  refine ⟨?_, ?_⟩
  ·have h1 := h.1
   cases dirty with
   | true => exact SimR.same (hl _ _ S) h1
   | false => exact h1
  ·have h2 := h.2
   cases j with
   | none => exact h2
   | some j =>
    dsimp only at h2 ⊢
    cases ho : gC m j i with
    | true => rfl
    | false =>
     rw [ho] at h2
     exact sC m i v hl true T h2
inductive SimSeen (gg : Bool) : List Seen → List Seen → Prop
 | nil : SimSeen gg [] []
 | cons {i : Nat} {look look' : Hp → aJ} {v : DV} {l l' : List Seen} (S : SimP gg look look') (T : SimSeen gg l l') : SimSeen gg (⟨i, look, v⟩ :: l) (⟨i, look', v⟩ :: l')
theorem SimSeen.all {m : Array Nat} {i : Nat} {h h' : Hp} (S : Sim gg h h') : ∀ {l l' : List Seen}, SimSeen gg l l' →
  l.all (fun q => gC m q.at_ i || bK (q.look h) q.v) = true → l'.all (fun q => gC m q.at_ i || bK (q.look h') q.v) = true
 | _, _, .nil, e => e
 | _, _, .cons (i := i0) (v := v) S1 T, e => by
  rw [List.all_cons, Bool.and_eq_true] at e ⊢
  refine ⟨?_, SimSeen.all S T e.2⟩
  have h1 := e.1
  rw [Bool.or_eq_true] at h1 ⊢
  exact h1.imp id fun hs => SimR.same (S1 _ _ S) hs
theorem lR (HC : ∀ g args, SimP gg (bO ⟨P, I2⟩ rec2 g args) (bO ⟨P, I1⟩ rec1 g args)) (nt : Nat) (all : Array Oper) (m : Array Nat) (p0 : Pos) {k k' : K} (hk : SimK gg k k') :
  ∀ (l : List Oper) (i c : Nat) (dirty : Bool) {rd rd' : List Seen} {hs hs' : List (Option Nat × Hp)}, SimSeen gg rd rd' → SimHs gg hs hs' →
   SimK gg (eG ⟨P, I2⟩ rec2 nt all m p0 l k i c dirty rd hs) (eG ⟨P, I1⟩ rec1 nt all m p0 l k' i c dirty rd' hs')
 | [], i, c, dirty, rd, rd', hs, hs', R, T => hk
 | o :: l, i, c, dirty, rd, rd', hs, hs', R, T => fun env h h' S => by
  change SimR gg (cnd (cX nt o.dst) (
   match bV P o.op with
   | .pure => bnd (bI ⟨P, I2⟩ rec2 all o env h) fun v h' => eG ⟨P, I2⟩ rec2 nt all m p0 l k (i + 1) c dirty rd hs (bM env o.dst v) h'
   | .reads => bnd (bI ⟨P, I2⟩ rec2 all o env h) fun v h' =>
     cnd (eI m i v (bI ⟨P, I2⟩ rec2 all o env) dirty hs) (eG ⟨P, I2⟩ rec2 nt all m p0 l k (i + 1) c dirty (⟨i, bI ⟨P, I2⟩ rec2 all o env, v⟩ :: rd) hs (bM env o.dst v) h')
   | .makes => bnd (dS ⟨P, I2⟩ o (bY c p0) env h) fun v h' => eG ⟨P, I2⟩ rec2 nt all m p0 l k (i + 1) (c + 1) true rd hs (bM env o.dst v) h'
   | .acts => bnd (bI ⟨P, I2⟩ rec2 all o env h) fun v h' =>
     cnd (rd.all (fun q => gC m q.at_ i || bK (q.look h') q.v)) (eG ⟨P, I2⟩ rec2 nt all m p0 l k (i + 1) c false rd ((some i, h') :: hs) (bM env o.dst v) h')))
   (cnd (cX nt o.dst) (
   match bV P o.op with
   | .pure => bnd (bI ⟨P, I1⟩ rec1 all o env h') fun v h' => eG ⟨P, I1⟩ rec1 nt all m p0 l k' (i + 1) c dirty rd' hs' (bM env o.dst v) h'
   | .reads => bnd (bI ⟨P, I1⟩ rec1 all o env h') fun v h' =>
     cnd (eI m i v (bI ⟨P, I1⟩ rec1 all o env) dirty hs') (eG ⟨P, I1⟩ rec1 nt all m p0 l k' (i + 1) c dirty (⟨i, bI ⟨P, I1⟩ rec1 all o env, v⟩ :: rd') hs' (bM env o.dst v) h')
   | .makes => bnd (dS ⟨P, I1⟩ o (bY c p0) env h') fun v h' => eG ⟨P, I1⟩ rec1 nt all m p0 l k' (i + 1) (c + 1) true rd' hs' (bM env o.dst v) h'
   | .acts => bnd (bI ⟨P, I1⟩ rec1 all o env h') fun v h' =>
     cnd (rd'.all (fun q => gC m q.at_ i || bK (q.look h') q.v)) (eG ⟨P, I1⟩ rec1 nt all m p0 l k' (i + 1) c false rd' ((some i, h') :: hs') (bM env o.dst v) h')))
  refine dTb id ?_
  cases bV P o.op with
  | pure => exact dSm (kN HC all o env h h' S) fun v => lR HC nt all m p0 hk l _ _ _ R T _
  | reads =>
   exact dSm (kN HC all o env h h' S) fun v h1 h1' S1 => dTb (sC m i v (kN HC all o env) dirty T)
    (lR HC nt all m p0 hk l _ _ _ (.cons (kN HC all o env) R) T _ _ _ S1)
  | makes => exact dSm (cVk o _ env h h' S) fun v => lR HC nt all m p0 hk l _ _ _ R T _
  | acts =>
   exact dSm (kN HC all o env h h' S) fun v h1 h1' S1 => dTb (SimSeen.all S1 R)
    (lR HC nt all m p0 hk l _ _ _ R (.cons S1 T) _ _ _ S1)
theorem Sim.resv {gg : Bool} {h h' : Hp} (S : Sim gg h h') (k : Nat) : Sim gg (resv k h) (resv k h') := by
 cases k with
 | zero => exact S
 | succ k => exact ⟨by show bY (k + 1) h'.next = bY (k + 1) h.next; rw [S.next], S.get⟩
theorem cBx (HC : ∀ g args, SimP gg (bO ⟨P, I2⟩ rec2 g args) (bO ⟨P, I1⟩ rec1 g args)) (nt : Nat) (ops : Array Oper) {k k' : K} (hk : SimK gg k k') :
  SimK gg (iK ⟨P, I2⟩ rec2 nt ops k) (iK ⟨P, I1⟩ rec1 nt ops k') := fun env h h' S => by
 unfold iK
 rw [S.next]
 exact lR HC nt ops _ _ hk _ _ _ _ .nil (.cons (S.resv _) .nil) env _ _ (S.resv _)
theorem aDj {c : DV} {a b a' b' : aJ} (ha : SimR gg a a') (hb : SimR gg b b') : SimR gg (aQ c a b) (aQ c a' b') := by
 unfold aQ
 cases c <;> try exact SimR.none _
 rename_i x
 cases x
 ·exact hb
 ·exact ha
theorem pQ {b b' : K → K} (hb : ∀ k k', SimK gg k k' → SimK gg (b k) (b' k')) : ∀ (n d : Nat), SimK gg (aN b n) (aN b' (n + d))
 | 0, d => fun env h h' S v k e => by cases e
 | n + 1, d => by
  rw [show n + 1 + d = (n + d) + 1 from by omega]
  exact hb _ _ (pQ hb n d)
theorem fW (HC : ∀ g args, SimP gg (bO ⟨P, I2⟩ rec2 g args) (bO ⟨P, I1⟩ rec1 g args)) (nt n d : Nat) : ∀ (c : Code) (X X' : Nat → K) (kr kr' k k' : K), (∀ j, SimK gg (X j) (X' j)) → SimK gg kr kr' → SimK gg k k' →
  SimK gg (aM ⟨P, I2⟩ rec2 nt n c X kr k) (aM ⟨P, I1⟩ rec1 nt (n + d) c X' kr' k') := by
 intro c
 have hfail : ∀ k', SimK gg dK k' := fun k' env h h' S v k e => by cases e
 induction c with
 | skip => intro X X' kr kr' k k' hX hr hk; exact hk
 | region id ops dr =>
  intro X X' kr kr' k k' hX hr hk
  change SimK gg (Bool.rec (motive := fun _ => K) (iW ⟨P, I2⟩ rec2 nt ops ops.toList k) (Bool.rec (motive := fun _ => K) dK (iK ⟨P, I2⟩ rec2 nt ops k) (fB P ops)) dr)
   (Bool.rec (motive := fun _ => K) (iW ⟨P, I1⟩ rec1 nt ops ops.toList k') (Bool.rec (motive := fun _ => K) dK (iK ⟨P, I1⟩ rec1 nt ops k') (fB P ops)) dr)
  cases dr with
  | false => exact pF HC nt ops hk _
  | true =>
   cases fB P ops with
   | false => exact hfail _
   | true => exact cBx HC nt ops hk
 | seq x y ihx ihy => intro X X' kr kr' k k' hX hr hk; exact ihx _ _ _ _ _ _ hX hr (ihy _ _ _ _ _ _ hX hr hk)
 | cond c x y ihx ihy =>
  intro X X' kr kr' k k' hX hr hk env h h' S
  exact aDj (ihx _ _ _ _ _ _ hX hr hk env h h' S) (ihy _ _ _ _ _ _ hX hr hk env h h' S)
 | block id x ih =>
  intro X X' kr kr' k k' hX hr hk
  refine ih _ _ _ _ _ _ (fun j => ?_) hr hk
  cases hj : Nat.beq j id with
  | true => exact hk
  | false => exact hX j
 | loop x ih =>
  intro X X' kr kr' k k' hX hr hk
  exact pQ (fun k k' hk => ih _ _ _ _ _ _ hX hr hk) n d
 | rangeFunc f ps x y ihx ihy => intro X X' kr kr' k k' hX hr hk; exact hfail _
 | exit id => intro X X' kr kr' k k' hX hr hk; exact hX id
 | scope x ih => intro X X' kr kr' k k' hX hr hk; exact ih _ _ _ _ _ _ hX hr hk
 | label l => intro X X' kr kr' k k' hX hr hk; exact hk
 | goto l => intro X X' kr kr' k k' hX hr hk; exact hfail _
 | ret => intro X X' kr kr' k k' hX hr hk; exact hr
 | refuse why => intro X X' kr kr' k k' hX hr hk; exact hfail _
theorem bDn {h h' : Hp} (S : Sim gg h h') (t : TypeId) (x : DV) {k k' : DV → aJ} (hk : ∀ v, SimR gg (k v) (k' v)) : SimR gg (aAt ⟨P, I2⟩ t x h k) (aAt ⟨P, I1⟩ t x h' k') := by
 unfold aAt
 dsimp only
 cases P.underlying t with
 | none => exact SimR.none _
 | some d =>
  cases P.info? t with
  | none => exact SimR.none _
  | some i =>
   dsimp only
   refine dSm ?_ fun v _ _ _ => hk v
   cases iU d with
   | true => exact kJ _ _ h h' S
   | false => exact kK _ h h' S
theorem qX {h h' : Hp} (S : Sim gg h h') (env : aY) : ∀ (l : List ResultVar) (k k' : List DV → aJ), (∀ vs, SimR gg (k vs) (k' vs)) → SimR gg (aXk ⟨P, I2⟩ env h l k) (aXk ⟨P, I1⟩ env h' l k')
 | [], k, k', hk => hk []
 | .tmp t :: l, k, k', hk => qX S env l _ _ fun vs => hk _
 | .cell a t :: l, k, k', hk => bDn S t (env a) fun v => qX S env l _ _ fun vs => hk _
theorem pB (fn : Func) : SimK gg (aT ⟨P, I2⟩ fn) (aT ⟨P, I1⟩ fn) := fun env h h' S => by
 unfold aT
 refine qX S env _ _ _ fun vs => ?_
 unfold cAo
 match vs with
 | [v] => exact SimR.some S _
 | [] => exact SimR.some S _
 | _ :: _ :: _ => exact SimR.some S _
theorem mC (HC : ∀ g args, SimP gg (bO ⟨P, I2⟩ rec2 g args) (bO ⟨P, I1⟩ rec1 g args)) (n d : Nat) (f : FuncId) (args : List DV) :
  SimP gg (aF ⟨P, I2⟩ rec2 n f args) (aF ⟨P, I1⟩ rec1 (n + d) f args) := by
 intro h h' S
 unfold aF
 dsimp only
 cases P.funcs[f]? with
 | none => exact SimR.none _
 | some fn =>
  dsimp only
  cases fn.body with
  | none => exact SimR.none _
  | some c => exact fW HC fn.ntmps n d c _ _ _ _ _ _ (fun _ _ _ _ _ _ _ e => by cases e) (pB fn) (pB fn) _ h h' S
end
theorem bZt {gg : Bool} {P : Program} {I2 I1 : FuncId → Option (List DV → Hp → aJ)} (d : Nat) (h0 : ∀ g, I2 g = none → I1 g = none)
  (hI : ∀ g F, I2 g = some F → ∀ n args, SimP gg (F args) (bO ⟨P, I1⟩ (fnD ⟨P, I1⟩ (n + d)) g args)) : ∀ (n : Nat) (f : FuncId) (args : List DV), SimP gg (fnD ⟨P, I2⟩ n f args) (fnD ⟨P, I1⟩ (n + d) f args)
 | 0, f, args => fun h h' S v k e => by cases e
 | n + 1, f, args => by
  rw [show n + 1 + d = (n + d) + 1 from by omega]
  refine mC (fun g az => ?_) n d f args
  unfold bO
  dsimp only
  cases hg : I2 g with
  | none =>
   rw [h0 g hg]
   exact bZt d h0 hI n g az
  | some F =>
   have := hI g F hg n az
   unfold bO at this
   exact this
end Go.Dd

namespace Go.Dd
section
variable {gg : Bool} {P : Program} {I2 I1 : FuncId → Option (List DV → Hp → aJ)} {rec2 rec1 : FuncId → List DV → Hp → aJ}
theorem mQ {c : Bool} {q q' : aJ} (h : SimR gg q q') : SimR gg (cnd c q) (cnd c q') := by
 cases c with
 | false => exact SimR.none _
 | true => exact h
theorem dSk (k' : K) : SimK gg dK k' := fun env h h' S v k e => by cases e
theorem wB (HC : ∀ g args, SimP gg (bO ⟨P, I2⟩ rec2 g args) (bO ⟨P, I1⟩ rec1 g args)) (n d : Nat) (I : ItC) (b : Bool) {kr kr' k k' : K} (hr : SimK gg kr kr') (hk : SimK gg k k') (e1 : aY) :
  SimP gg (aNr ⟨P, I2⟩ rec2 n I b kr k e1) (aNr ⟨P, I1⟩ rec1 (n + d) I b kr' k' e1) := fun h h' S =>
 mQ (pF HC I.nt I.ops (fW HC I.nt n d I.after _ _ _ _ _ _ (fun _ => dSk _) hr hk) _ _ h h' S)
theorem bFf (HC : ∀ g args, SimP gg (bO ⟨P, I2⟩ rec2 g args) (bO ⟨P, I1⟩ rec1 g args)) (n d : Nat) (I : ItC) (nt : Nat) (p : Tmp) (x y : Code) (env : aY) {X X' : Nat → K} {kr kr' kk kk' : K} (hX : ∀ j, SimK gg (X j) (X' j)) (hr : SimK gg kr kr') (hk : SimK gg kk kk') :
  SimK gg (aUb ⟨P, I2⟩ rec2 n I nt p x y env X kr kk) (aUb ⟨P, I1⟩ rec1 (n + d) I nt p x y env X' kr' kk') := fun e1 h h' S =>
 mQ (fW HC nt n d x _ _ _ _ _ _ (fun _ => dSk _) (dSk _)
  (fW HC nt n d y _ _ _ _ _ _ (fun i _ => wB HC n d I false (fun _ => hX i env) (dSk _) e1) (fun _ => wB HC n d I false (fun _ => hr env) (dSk _) e1)
   (fun _ => wB HC n d I true (dSk _) (fW HC I.nt n d I.post _ _ _ _ _ _ (fun _ => dSk _) (dSk _) (fW HC I.nt n d I.step _ _ _ _ _ _ (fun _ => dSk _) (dSk _) hk)) e1)) _ h h' S)
theorem aUk (HC : ∀ g args, SimP gg (bO ⟨P, I2⟩ rec2 g args) (bO ⟨P, I1⟩ rec1 g args)) (n d : Nat) (I : ItC) (nt : Nat) (g : Operand) (p : Tmp) (x y : Code) {X X' : Nat → K} {kr kr' k k' : K} (hX : ∀ j, SimK gg (X j) (X' j)) (hr : SimK gg kr kr') (hk : SimK gg k k') :
  SimK gg (aJv ⟨P, I2⟩ rec2 n I nt g p x y X kr k) (aJv ⟨P, I1⟩ rec1 (n + d) I nt g p x y X' kr' k') := by
 intro env h h' S
 unfold aJv
 cases opr env g with
 | f gf first cap =>
  cases first with
  | cons _ _ => exact SimR.none _
  | nil =>
   refine mQ ?_
   rw [S.next]
   refine fW HC I.nt n d I.pre _ _ _ _ _ _ (fun _ => dSk _) (dSk _) (pQ (fun kk kk' hkk => ?_) n d) _ _ _ (S.resv 2)
   refine fW HC I.nt n d I.test _ _ _ _ _ _ (fun j => ?_) (dSk _) (pF HC I.nt I.ops ?_ I.front)
   ·cases Nat.beq j I.b0 with
    | true => exact fun _ => hk env
    | false => exact dSk _
   ·intro e1 h1 h1' S1
    exact mQ (c := ylB (e1 I.yt) h.next) (bFf HC n d I nt p x y env hX hr hkk e1 h1 h1' S1)
 | _ => exact SimR.none _
theorem bGm (HC : ∀ g args, SimP gg (bO ⟨P, I2⟩ rec2 g args) (bO ⟨P, I1⟩ rec1 g args)) (nt n d : Nat) (I : ItC) : ∀ (c : Code) (X X' : Nat → K) (kr kr' k k' : K), (∀ j, SimK gg (X j) (X' j)) → SimK gg kr kr' → SimK gg k k' →
  SimK gg (cAg ⟨P, I2⟩ rec2 nt n I c X kr k) (cAg ⟨P, I1⟩ rec1 nt (n + d) I c X' kr' k') := by
 intro c
 induction c with
 | skip => intro X X' kr kr' k k' hX hr hk; exact hk
 | region id ops dr => intro X X' kr kr' k k' hX hr hk; exact fW HC nt n d (.region id ops dr) _ _ _ _ _ _ hX hr hk
 | seq x y ihx ihy => intro X X' kr kr' k k' hX hr hk; exact ihx _ _ _ _ _ _ hX hr (ihy _ _ _ _ _ _ hX hr hk)
 | cond c x y ihx ihy =>
  intro X X' kr kr' k k' hX hr hk env h h' S
  exact aDj (ihx _ _ _ _ _ _ hX hr hk env h h' S) (ihy _ _ _ _ _ _ hX hr hk env h h' S)
 | block id x ih =>
  intro X X' kr kr' k k' hX hr hk
  refine ih _ _ _ _ _ _ (fun j => ?_) hr hk
  cases hj : Nat.beq j id with
  | true => exact hk
  | false => exact hX j
 | loop x ih =>
  intro X X' kr kr' k k' hX hr hk
  exact pQ (fun k k' hk => ih _ _ _ _ _ _ hX hr hk) n d
 | rangeFunc g ps x y ihx ihy =>
  intro X X' kr kr' k k' hX hr hk
  obtain ⟨l⟩ := ps
  match l with
  | [p] => exact aUk HC n d I nt g p x y hX hr hk
  | [] => exact dSk _
  | _ :: _ :: _ => exact dSk _
 | exit id => intro X X' kr kr' k k' hX hr hk; exact hX id
 | ret => intro X X' kr kr' k k' hX hr hk; exact hr
 | _ => intros; exact dSk _
theorem bGt (HC : ∀ g args, SimP gg (bO ⟨P, I2⟩ rec2 g args) (bO ⟨P, I1⟩ rec1 g args)) (n d : Nat) (I : ItC) (f : FuncId) (args : List DV) :
  SimP gg (mK ⟨P, I2⟩ rec2 n I f args) (mK ⟨P, I1⟩ rec1 (n + d) I f args) := by
 intro h h' S
 unfold mK
 dsimp only
 cases P.funcs[f]? with
 | none => exact SimR.none _
 | some fn =>
  dsimp only
  cases fn.body with
  | none => exact SimR.none _
  | some c => exact bGm HC fn.ntmps n d I c _ _ _ _ _ _ (fun _ => dSk _) (pB fn) (pB fn) _ h h' S
end
end Go.Dd

namespace Go.Dd
noncomputable def fnR (C : Cfg) (I : ItC) (q : FuncId → Bool) (n : Nat) : FuncId → List DV → Hp → aJ :=
 Nat.rec (motive := fun _ => FuncId → List DV → Hp → aJ) (fun _ _ _ => none) (fun m ih f => bif q f then mK C ih m I f else aF C ih m f) n
theorem aDo {gg : Bool} {P : Program} {I2 I1 : FuncId → Option (List DV → Hp → aJ)} {I : ItC} {q : FuncId → Bool} (d : Nat) (h0 : ∀ g, I2 g = none → I1 g = none)
  (hI : ∀ g F, I2 g = some F → ∀ n args, SimP gg (F args) (bO ⟨P, I1⟩ (fnR ⟨P, I1⟩ I q (n + d)) g args)) : ∀ (n : Nat) (f : FuncId) (args : List DV), SimP gg (fnR ⟨P, I2⟩ I q n f args) (fnR ⟨P, I1⟩ I q (n + d) f args)
 | 0, f, args => fun h h' S v k e => by cases e
 | n + 1, f, args => by
  rw [show n + 1 + d = (n + d) + 1 from by omega]
  have HC : ∀ g az, SimP gg (bO ⟨P, I2⟩ (fnR ⟨P, I2⟩ I q n) g az) (bO ⟨P, I1⟩ (fnR ⟨P, I1⟩ I q (n + d)) g az) := fun g az => by
   unfold bO
   dsimp only
   cases hg : I2 g with
   | none =>
    rw [h0 g hg]
    exact aDo d h0 hI n g az
   | some F =>
    have := hI g F hg n az
    unfold bO at this
    exact this
  show SimP gg ((bif q f then mK ⟨P, I2⟩ (fnR ⟨P, I2⟩ I q n) n I f else aF ⟨P, I2⟩ (fnR ⟨P, I2⟩ I q n) n f) args) ((bif q f then mK ⟨P, I1⟩ (fnR ⟨P, I1⟩ I q (n + d)) (n + d) I f else aF ⟨P, I1⟩ (fnR ⟨P, I1⟩ I q (n + d)) (n + d) f) args)
  cases q f with
  | true => exact bGt HC n d I f args
  | false => exact mC HC n d f args
end Go.Dd

namespace Go.Dd
noncomputable section
def iM (w : Int) : Nat :=
 match w with
 | .ofNat w => bif Nat.beq (Nat.mod w 2) 0 && (Nat.ble 6 w && Nat.ble w 262144) then Nat.div w 2 else 0
 | .negSucc _ => 0
def dE (w : Int) : Bool :=
 match w with
 | .ofNat w => Nat.beq (Nat.mod w 2) 1 && Nat.blt w 2147483648
 | .negSucc w => Nat.beq (Nat.mod w 2) 0 && Nat.blt w 2147483648
def rX (w : Int) : Int :=
 match w with
 | .ofNat w => .ofNat (Nat.div w 2)
 | .negSucc w => .negSucc (Nat.div w 2)
structure MemV where
 wb : Pos
 n : Nat
 fin : Nat
 made : Nat
 pb : Pos
 t : WT
 pl : WT
def lL (m : Pos) (h : Hp) : Option MemV :=
 match h.bl.get m with
 | some (.row .ex [.l wb 0 n c, .i .i64 (.ofNat fin), .i .i64 (.ofNat made), .m pb]) =>
  match h.bl.get wb, h.bl.get pb with
  | some (.big n' t), some (.mi pl) => bif Nat.beq n n' && Nat.beq n c then (bif Nat.blt n 1000000 && (Nat.ble fin n && Nat.blt made 1000000) then some ⟨wb, n, fin, made, pb, t, pl⟩ else none) else none
  | _, _ => none
 | _ => none
def bU (o : Int) (pl : WT) : Nat :=
 bif Nat.beq (iM o) 0 then 0 else match pl.get (iM o) with
  | .ofNat 0 => 0
  | _ => iM o
def eJ (w : Int) (pl : WT) : Bool :=
 match w with
 | .ofNat 0 => true
 | .ofNat 2 => true
 | .ofNat 4 => true
 | w => dE w || !(Nat.beq (bU w pl) 0)
def rC (w : Int) (pl : WT) : Bool :=
 match w with
 | .ofNat 0 => true
 | w => !(Nat.beq (bU w pl) 0)
def iJ (args : List DV) (h : Hp) (k : MemV → List DV → aJ) : aJ :=
 match args with
 | .p m 0 :: rest => match lL m h with
  | some M => k M rest
  | none => none
 | _ => none
def err (e : Nat) (h : Hp) : aJ := some (.t [.i .i64 (.ofNat 0), .i .i64 (.ofNat e)], h)
def isF (args : List DV) (h : Hp) : aJ := iJ args h fun M r => match r with
 | [.i .i64 w] => some (.b (!(Nat.beq (bU w M.pl) 0)), h)
 | _ => none
def aIl (args : List DV) (h : Hp) : aJ := iJ args h fun M r => match r with
 | [.i .i64 w] => some (.b (eJ w M.pl), h)
 | _ => none
def aAi (args : List DV) (h : Hp) : aJ := iJ args h fun M r => match r with
 | [] => some (.i .i64 (.ofNat M.n), h)
 | _ => none
def aVs (args : List DV) (h : Hp) : aJ := iJ args h fun M r => match r with
 | [] => some (.i .i64 (.ofNat (Nat.sub M.n M.fin)), h)
 | _ => none
def hU (M : MemV) (o : Int) (k : Nat → aJ) : aJ :=
 bif Nat.blt (Nat.add (bU o M.pl) 1) M.n then (match M.t.get (bU o M.pl) with
  | .ofNat hd => bif Nat.blt hd 1000000000000 then k hd else none
  | .negSucc _ => none) else none
def iR (args : List DV) (h : Hp) : aJ := iJ args h fun M r => match r with
 | [.i .i64 o] => hU M o fun _ => some (.i .i64 (M.t.get (Nat.add (bU o M.pl) 1)), h)
 | _ => none
def jT (args : List DV) (h : Hp) : aJ := iJ args h fun M r => match r with
 | [.i .i64 o] => hU M o fun hd => some (.i .i64 (.ofNat (Nat.mod hd 4)), h)
 | _ => none
def gO (args : List DV) (h : Hp) : aJ := iJ args h fun M r => match r with
 | [.i .i64 o] => hU M o fun hd => some (.i .i64 (.ofNat (Nat.div hd 4)), h)
 | _ => none
def gE (M : MemV) (o i : Int) (bad : Nat → aJ) (k : Nat → Nat → aJ) : aJ :=
 bif Nat.beq (bU o M.pl) 0 then bad 1 else match i with
  | .negSucc _ => bad 5
  | .ofNat i => hU M o fun hd => bif Nat.ble (Nat.div hd 4) i then bad 5 else
    (bif Nat.blt (Nat.add (Nat.add (bU o M.pl) 3) i) M.n then k hd (Nat.add (Nat.add (bU o M.pl) 3) i) else none)
def yG (args : List DV) (h : Hp) : aJ := iJ args h fun M r => match r with
 | [.i .i64 o, .i .i64 i] => gE M o i (fun e => err e h) fun _ a => some (.t [.i .i64 (M.t.get a), .i .i64 (.ofNat 0)], h)
 | _ => none
def mF (M : MemV) (a : Nat) (w : Int) (h : Hp) : aJ := some (.i .i64 (.ofNat 0), ⟨h.next, Tr.set (.big M.n (M.t.set a w)) M.wb h.bl⟩)
def aAc (args : List DV) (h : Hp) : aJ := iJ args h fun M r => match r with
 | [.i .i64 o, .i .i64 i, .i .i64 w] => gE M o i (fun e => some (.i .i64 (.ofNat e), h)) fun hd a =>
   match Nat.mod hd 4 with
   | 0 => bif eJ w M.pl then mF M a w h else some (.i .i64 (.ofNat 6), h)
   | 2 => (match w with
    | .ofNat c => bif Nat.ble c 255 then mF M a w h else some (.i .i64 (.ofNat 6), h)
    | .negSucc _ => some (.i .i64 (.ofNat 6), h))
   | _ => mF M a w h
 | _ => none
def kG (args : List DV) (h : Hp) : aJ := iJ args h fun M r => match r with
 | [.i .i64 o, .i .i64 c] => bif Nat.beq (bU o M.pl) 0 || !(rC c M.pl) then some (.i .i64 (.ofNat 1), h) else
   (bif Nat.blt (Nat.add (bU o M.pl) 1) M.n then mF M (Nat.add (bU o M.pl) 1) c h else none)
 | _ => none
def kM (t : WT) (c : Nat) : Nat → WT :=
 Nat.rec (motive := fun _ => Nat → WT) (fun _ => t) (fun _ ih a => (ih (Nat.add a 1)).set a (.ofNat 0)) c
def kL (args : List DV) (h : Hp) : aJ :=
 match args with
 | [.p m 0, .i .i64 cls, .i .i64 fmt, .i .i64 cnt] => match lL m h with
  | none => none
  | some M => bif !(rC cls M.pl) then err 1 h else match fmt, cnt with
   | .ofNat f, .ofNat c => bif Nat.ble f 2 && Nat.ble c 256 then
     (bif Nat.blt (Nat.sub M.n M.fin) (Nat.add c 3) then err 4 h else
      (bif Nat.ble 3 M.fin && Nat.ble M.fin 131072 then
       some (.t [.i .i64 (.ofNat (Nat.mul M.fin 2)), .i .i64 (.ofNat 0)],
        ⟨h.next, Tr.set (.row .ex [.l M.wb 0 M.n M.n, .i .i64 (.ofNat (Nat.add M.fin (Nat.add c 3))), .i .i64 (.ofNat (Nat.succ M.made)), .m M.pb]) m
         (Tr.set (.mi (M.pl.set M.fin (.ofNat 1))) M.pb
          (Tr.set (.big M.n (kM (((M.t.set M.fin (.ofNat (Nat.add (Nat.mul c 4) f))).set (Nat.add M.fin 1) cls).set (Nat.add M.fin 2) (.ofNat (Nat.succ M.made))) c (Nat.add M.fin 3))) M.wb h.bl))⟩)
       else none))
     else err 1 h
   | _, _ => err 1 h
 | _ => none
def aPd (args : List DV) (h : Hp) : aJ :=
 match args with
 | [.i .i64 (.ofNat n)] => bif Nat.blt n 16 || Nat.blt 131072 n then some (.p0, h) else
   some (.p (bY 2 h.next) 0, ⟨bY 3 h.next, Tr.set (.row .ex [.l h.next 0 n n, .i .i64 (.ofNat 3), .i .i64 (.ofNat 0), .m (bY 1 h.next)]) (bY 2 h.next)
    (Tr.set (.mi .e) (bY 1 h.next) (Tr.set (.big n .e) h.next h.bl))⟩)
 | [.i .i64 (.negSucc _)] => some (.p0, h)
 | _ => none
def gT (args : List DV) (h : Hp) : aJ :=
 match args with
 | [.i .i64 w] => some (.b (dE w), h)
 | _ => none
def jZ (args : List DV) (h : Hp) : aJ :=
 match args with
 | [.i .i64 w] => bif dE w then some (.i .i64 (rX w), h) else some (.i .i64 (.ofNat 0), h)
 | _ => none
def gS (args : List DV) (h : Hp) : aJ :=
 match args with
 | [.i .i64 (.ofNat n)] => bif Nat.blt n 1073741824 then some (.t [.i .i64 (.ofNat (Nat.succ (Nat.mul n 2))), .b true], h) else some (.t [.i .i64 (.ofNat 0), .b false], h)
 | [.i .i64 (.negSucc n)] => bif Nat.blt n 1073741824 then some (.t [.i .i64 (.negSucc (Nat.mul n 2)), .b true], h) else some (.t [.i .i64 (.ofNat 0), .b false], h)
 | _ => none
def zW (g : Nat) : Option (List DV → Hp → aJ) :=
 bif Nat.beq g 24 then some aIl else bif Nat.beq g 31 then some isF else bif Nat.beq g 102 then some aAi else bif Nat.beq g 86 then some aVs else
 bif Nat.beq g 47 then some kL else bif Nat.beq g 68 then some aPd else bif Nat.beq g 70 then some kG else bif Nat.beq g 72 then some aAc else
 bif Nat.beq g 50 then some iR else bif Nat.beq g 38 then some jT else bif Nat.beq g 27 then some gO else bif Nat.beq g 48 then some gT else
 bif Nat.beq g 81 then some gS else bif Nat.beq g 49 then some jZ else bif Nat.beq g 28 then some yG else none
end
end Go.Dd

namespace Go.Dd
open Go.Proofs
def cf (f : Func) : Code := match f.body with
 | some c => c
 | none => .skip
def cL : Code → Code
 | .seq a _ => a
 | .cond _ a _ => a
 | .block _ a => a
 | .loop a => a
 | .scope a => a
 | c => c
def cR : Code → Code
 | .seq _ b => b
 | .cond _ _ b => b
 | c => c
def cC : Code → Operand
 | .cond c _ _ => c
 | _ => .const .nilFunc
def x0 : Nat → K := fun _ => dK
def xs (X : Nat → K) (i : Nat) (k : K) : Nat → K := fun j => bif Nat.beq j i then k else X j
def aNq (c : Nat) : List Nat → Nat → Int
 | [], _ => .negSucc 0
 | x :: l, i => bif Nat.beq x c then .ofNat i else aNq c l (i + 1)
def lQ (args : List DV) (h : Hp) : aJ :=
 match args with
 | [.s l, .i .u8 (.ofNat c)] => bif Nat.blt c 256 then some (.i .i64 (aNq c l 0), h) else none
 | _ => none
noncomputable def CF0 : Cfg := ⟨Tryz.prog, fun _ => none⟩
noncomputable def lI (p : Pos) : Pos → Bool := Pos.rec (motive := fun _ => Pos → Bool) (fun q => Pos.rec (motive := fun _ => Bool) true (fun _ _ => false) (fun _ _ => false) q)
 (fun _ ih q => Pos.rec (motive := fun _ => Bool) false (fun q _ => ih q) (fun _ _ => false) q) (fun _ ih q => Pos.rec (motive := fun _ => Bool) false (fun _ _ => false) (fun q _ => ih q) q) p
noncomputable def jI (q : Pos) (l1 : DV) (cs : List DV) (h : Hp) : aJ :=
 match l1 with
 | .l0 => some (.l h.next 0 1 1, ⟨h.next.succ, Tr.set (.row (.gr 4) cs) h.next h.bl⟩)
 | .l b o len cap => cnd (Nat.ble cap len && !(lI b q)) (match h.bl.get b, cellsAt b o (len * 4) h with
  | some (.row (.gr es) l), some old => if es = 4 ∧ o + cap * 4 = l.length ∧ (len + 1) * 56 ≤ lM then
    some (.l h.next 0 (len + 1) (len + 1), ⟨h.next.succ, Tr.set (.row (.gr 4) (old ++ cs)) h.next (Tr.set (.row .sp (bT o l)) b h.bl)⟩) else none
  | _, _ => none)
 | _ => none
noncomputable def qR (c q : Pos) (h : Hp) : aJ :=
 bnd (aA (.p c 4) h) fun l1 _ =>
 bnd (bX l1 h) fun n _ =>
 bnd (aK 4 (.p q 0) h) fun x _ =>
 match x with
 | .a cs => cnd (!(lI c q)) (
  bnd (jI q l1 cs ⟨h.next.succ.succ, h.bl⟩) fun l2 h3 =>
  bnd (aG 1 (.p c 4) l2 h3) fun _ h4 => some (n, h4))
 | _ => none
noncomputable def kX (args : List DV) (h : Hp) : aJ :=
 match args with
 | [.p c 0, .a lit] =>
  bnd (bL lit h) fun _ h1 =>
  bnd (aA (.p c 4) h1) fun ls h2 =>
  bnd (fnD CF0 60 187 [ls, .f 188 [] [.p h.next 0]] h2) fun i h3 =>
  bnd (aD .lss i (.i .i64 (Int.ofNat 0)) h3) fun t h4 =>
  aQ t (qR c h.next h4) (some (i, h4))
 | _ => none
noncomputable def CF1 : Cfg := ⟨Tryz.prog, fun g => bif Nat.beq g 176 then some lQ else bif Nat.beq g 159 then some kX else none⟩
noncomputable def CF : Cfg := ⟨Tryz.prog, fun g => bif Nat.beq g 176 then some lQ else bif Nat.beq g 159 then some kX else zW g⟩
def fR : Code → Array Oper
 | .region _ ops _ => ops
 | _ => #[]
def itm : ItC := { gf := 0, nt := 0, pre := .skip, b0 := 0, test := .skip, b1 := 1, rid := 0, front := [], y := ⟨none, .move (.const .nilFunc), 0, "", #[], none⟩, back := [], after := .skip, post := .skip, step := .skip, yd := 0, yt := 0, yx := 0 }
def rgB (g : FuncId) : Bool := false
noncomputable abbrev fO (C : Cfg) (n : Nat) : FuncId → List DV → Hp → aJ := fnR C itm rgB n
theorem cB (f : FuncId) (hf : rgB f = false) (C : Cfg) (n : Nat) (args : List DV) (h : Hp) : fO C (n + 1) f args h = aF C (fO C n) n f args h := by
 show (bif rgB f then mK C (fO C n) n itm f else aF C (fO C n) n f) args h = _
 rw [hf]
 rfl
abbrev RT := FuncId → List DV → Hp → aJ
abbrev TT0 := Hp → aJ
abbrev TT1 := DV → Hp → aJ
abbrev gJ := DV → DV → Hp → aJ
abbrev mP := DV → DV → DV → Hp → aJ
abbrev dQ := DV → DV → DV → DV → Hp → aJ
abbrev cE := DV → DV → DV → DV → DV → Hp → aJ
abbrev fF := DV → DV → DV → DV → DV → DV → Hp → aJ
abbrev TT7 := DV → DV → DV → DV → DV → DV → DV → Hp → aJ
abbrev TT8 := DV → DV → DV → DV → DV → DV → DV → DV → Hp → aJ
abbrev TT9 := DV → DV → DV → DV → DV → DV → DV → DV → DV → Hp → aJ
abbrev aSk := DV → DV → DV → DV → DV → DV → DV → DV → DV → DV → Hp → aJ
abbrev dGj := DV → DV → DV → DV → DV → DV → DV → DV → DV → DV → DV → Hp → aJ
abbrev dPd := DV → DV → DV → DV → DV → DV → DV → DV → DV → DV → DV → DV → Hp → aJ
abbrev dNd := DV → DV → DV → DV → DV → DV → DV → DV → DV → DV → DV → DV → DV → Hp → aJ
abbrev dNe := DV → DV → DV → DV → DV → DV → DV → DV → DV → DV → DV → DV → DV → DV → Hp → aJ
abbrev dPt := DV → DV → DV → DV → DV → DV → DV → DV → DV → DV → DV → DV → DV → DV → DV → Hp → aJ
abbrev dQu := DV → DV → DV → DV → DV → DV → DV → DV → DV → DV → DV → DV → DV → DV → DV → DV → Hp → aJ
abbrev dRj := DV → DV → DV → DV → DV → DV → DV → DV → DV → DV → DV → DV → DV → DV → DV → DV → DV → Hp → aJ
abbrev dOn := DV → DV → DV → DV → DV → DV → DV → DV → DV → DV → DV → DV → DV → DV → DV → DV → DV → DV → Hp → aJ
abbrev dOy := DV → DV → DV → DV → DV → DV → DV → DV → DV → DV → DV → DV → DV → DV → DV → DV → DV → DV → DV → Hp → aJ
abbrev dQx := DV → DV → DV → DV → DV → DV → DV → DV → DV → DV → DV → DV → DV → DV → DV → DV → DV → DV → DV → DV → Hp → aJ
abbrev K0 (f : TT0) : K := fun env h => f h
abbrev K1 (f : TT1) (a0 : Nat) : K := fun env h => f (env a0) h
abbrev K2 (f : gJ) (a0 a1 : Nat) : K := fun env h => f (env a0) (env a1) h
abbrev K3 (f : mP) (a0 a1 a2 : Nat) : K := fun env h => f (env a0) (env a1) (env a2) h
abbrev K4 (f : dQ) (a0 a1 a2 a3 : Nat) : K := fun env h => f (env a0) (env a1) (env a2) (env a3) h
abbrev K5 (f : cE) (a0 a1 a2 a3 a4 : Nat) : K := fun env h => f (env a0) (env a1) (env a2) (env a3) (env a4) h
abbrev K6 (f : fF) (a0 a1 a2 a3 a4 a5 : Nat) : K := fun env h => f (env a0) (env a1) (env a2) (env a3) (env a4) (env a5) h
abbrev K7 (f : TT7) (a0 a1 a2 a3 a4 a5 a6 : Nat) : K := fun env h => f (env a0) (env a1) (env a2) (env a3) (env a4) (env a5) (env a6) h
abbrev K8 (f : TT8) (a0 a1 a2 a3 a4 a5 a6 a7 : Nat) : K := fun env h => f (env a0) (env a1) (env a2) (env a3) (env a4) (env a5) (env a6) (env a7) h
abbrev K9 (f : TT9) (a0 a1 a2 a3 a4 a5 a6 a7 a8 : Nat) : K := fun env h => f (env a0) (env a1) (env a2) (env a3) (env a4) (env a5) (env a6) (env a7) (env a8) h
abbrev K10 (f : aSk) (a0 a1 a2 a3 a4 a5 a6 a7 a8 a9 : Nat) : K := fun env h => f (env a0) (env a1) (env a2) (env a3) (env a4) (env a5) (env a6) (env a7) (env a8) (env a9) h
abbrev K11 (f : dGj) (a0 a1 a2 a3 a4 a5 a6 a7 a8 a9 a10 : Nat) : K := fun env h => f (env a0) (env a1) (env a2) (env a3) (env a4) (env a5) (env a6) (env a7) (env a8) (env a9) (env a10) h
abbrev K12 (f : dPd) (a0 a1 a2 a3 a4 a5 a6 a7 a8 a9 a10 a11 : Nat) : K := fun env h => f (env a0) (env a1) (env a2) (env a3) (env a4) (env a5) (env a6) (env a7) (env a8) (env a9) (env a10) (env a11) h
abbrev K13 (f : dNd) (a0 a1 a2 a3 a4 a5 a6 a7 a8 a9 a10 a11 a12 : Nat) : K := fun env h => f (env a0) (env a1) (env a2) (env a3) (env a4) (env a5) (env a6) (env a7) (env a8) (env a9) (env a10) (env a11) (env a12) h
abbrev K14 (f : dNe) (a0 a1 a2 a3 a4 a5 a6 a7 a8 a9 a10 a11 a12 a13 : Nat) : K := fun env h => f (env a0) (env a1) (env a2) (env a3) (env a4) (env a5) (env a6) (env a7) (env a8) (env a9) (env a10) (env a11) (env a12) (env a13) h
abbrev K15 (f : dPt) (a0 a1 a2 a3 a4 a5 a6 a7 a8 a9 a10 a11 a12 a13 a14 : Nat) : K := fun env h => f (env a0) (env a1) (env a2) (env a3) (env a4) (env a5) (env a6) (env a7) (env a8) (env a9) (env a10) (env a11) (env a12) (env a13) (env a14) h
abbrev K16 (f : dQu) (a0 a1 a2 a3 a4 a5 a6 a7 a8 a9 a10 a11 a12 a13 a14 a15 : Nat) : K := fun env h => f (env a0) (env a1) (env a2) (env a3) (env a4) (env a5) (env a6) (env a7) (env a8) (env a9) (env a10) (env a11) (env a12) (env a13) (env a14) (env a15) h
abbrev K17 (f : dRj) (a0 a1 a2 a3 a4 a5 a6 a7 a8 a9 a10 a11 a12 a13 a14 a15 a16 : Nat) : K := fun env h => f (env a0) (env a1) (env a2) (env a3) (env a4) (env a5) (env a6) (env a7) (env a8) (env a9) (env a10) (env a11) (env a12) (env a13) (env a14) (env a15) (env a16) h
abbrev K18 (f : dOn) (a0 a1 a2 a3 a4 a5 a6 a7 a8 a9 a10 a11 a12 a13 a14 a15 a16 a17 : Nat) : K := fun env h => f (env a0) (env a1) (env a2) (env a3) (env a4) (env a5) (env a6) (env a7) (env a8) (env a9) (env a10) (env a11) (env a12) (env a13) (env a14) (env a15) (env a16) (env a17) h
abbrev K19 (f : dOy) (a0 a1 a2 a3 a4 a5 a6 a7 a8 a9 a10 a11 a12 a13 a14 a15 a16 a17 a18 : Nat) : K := fun env h => f (env a0) (env a1) (env a2) (env a3) (env a4) (env a5) (env a6) (env a7) (env a8) (env a9) (env a10) (env a11) (env a12) (env a13) (env a14) (env a15) (env a16) (env a17) (env a18) h
abbrev K20 (f : dQx) (a0 a1 a2 a3 a4 a5 a6 a7 a8 a9 a10 a11 a12 a13 a14 a15 a16 a17 a18 a19 : Nat) : K := fun env h => f (env a0) (env a1) (env a2) (env a3) (env a4) (env a5) (env a6) (env a7) (env a8) (env a9) (env a10) (env a11) (env a12) (env a13) (env a14) (env a15) (env a16) (env a17) (env a18) (env a19) h
theorem okG {d s : K} (m : d = s) (args : List DV) (h : Hp) {a b : aJ} (e1 : a = d (aI args) h) (e2 : s (aI args) h = b) : a = b :=
 e1.trans ((congrFun (congrFun m (aI args)) h).trans e2)
abbrev aE (n : Nat) : DV := .i .i64 (Int.ofNat n)
abbrev gY : List DV := [(.i .i64 (Int.ofNat 0)), (.s []), (.i .i64 (Int.ofNat 0)), .l0, .l0, .l0]
abbrev aS (args : List DV) (i : Nat) : DV := args.getD i aV
end Go.Dd

namespace Go.Dd
open Go.Proofs
variable (r : RT) (n : Nat) (args : List DV) (h : Hp)
noncomputable def s12 (r : RT) (n : Nat) (h0 : Hp) : aJ :=
 bnd (r 40 [(aE 30000)] h0) fun v1 h1 =>
 bnd (aC 0 v1 h1) fun v2 h2 =>
 bnd (aC 1 v1 h2) fun v3 h3 =>
 bnd (pEq (.pointer 64) true v2 .p0 h3) fun v4 h4 =>
 bnd (gD v4 false (some (v3, h4)) h4) fun v5 h5 =>
 bnd (gD v4 false (aD .neq v5 (aE 0) h5) h5) fun v6 h6 =>
 bnd (aO v4 (.b true) v6 h6) fun v7 h7 =>
 aQ v7 (
 some (.p0, h7)) (
 bnd (aL [(.s []), (.s [])] 2 [(0, 1, (.s [120])), (1, 1, (.s [121]))] h7) fun v8 h8 =>
 bnd (r 41 [v2, (.s [80, 111, 105, 110, 116]), (.s [79, 98, 106, 101, 99, 116]), v8] h8) fun v9 h9 =>
 bnd (aC 0 v9 h9) fun v10 h10 =>
 bnd (aC 1 v9 h10) fun v11 h11 =>
 bnd (aD .neq v11 (aE 0) h11) fun v12 h12 =>
 aQ v12 (
 some (.p0, h12)) (
 some (v2, h12)))
noncomputable abbrev c12 : Code := cf Tryz.f12
noncomputable abbrev r12 : K := aT CF Tryz.f12
noncomputable def D12 (r : RT) (n : Nat) (c : Code) (X : Nat → K) (k : K) : K := aM CF r 24 n c X r12 k
theorem dPh : D12 r n c12 x0 r12 = (K0 (s12 r n)) :=
 (by kernel_rfl)
theorem cUa : aF CF r n 12 args h = s12 r n h :=
 (by kernel_rfl : aF CF r n 12 args h = D12 r n c12 x0 r12 (aI args) h).trans ((congrFun (congrFun (dPh r n) (aI args)) h).trans (by kernel_rfl))
noncomputable def s13 (r : RT) (n : Nat) (h0 : Hp) : aJ :=
 bnd (r 12 [] h0) fun v1 h1 =>
 bnd (pEq (.pointer 64) true v1 .p0 h1) fun v2 h2 =>
 aQ v2 (
 some ((.b false), h2)) (
 bnd (r 42 [v1, (aE 1073741823)] h2) fun v3 h3 =>
 bnd (aC 0 v3 h3) fun v4 h4 =>
 bnd (aC 1 v3 h4) fun v5 h5 =>
 bnd (aL [(aE 0)] 1 [(0, 1, (aE 3))] h5) fun v6 h6 =>
 bnd (r 16 [v1, (aE 1), v4, v6] h6) fun v7 h7 =>
 bnd (aC 0 v7 h7) fun v8 h8 =>
 bnd (aC 1 v7 h8) fun v9 h9 =>
 bnd (r 15 [v1, v8] h9) fun v10 h10 =>
 bnd (aC 0 v10 h10) fun v11 h11 =>
 bnd (aC 1 v10 h11) fun v12 h12 =>
 bnd (aL [(aE 0)] 1 [(0, 1, (aE 1))] h12) fun v13 h13 =>
 bnd (r 16 [v1, (aE 4), (aE 15), v13] h13) fun v14 h14 =>
 bnd (aC 0 v14 h14) fun v15 h15 =>
 bnd (aC 1 v14 h15) fun v16 h16 =>
 bnd (r 43 [v1, (.s [97, 98])] h16) fun v17 h17 =>
 bnd (aC 0 v17 h17) fun v18 h18 =>
 bnd (aC 1 v17 h18) fun v19 h19 =>
 bnd (aL [(aE 0)] 1 [(0, 1, (aE 5))] h19) fun v20 h20 =>
 bnd (r 16 [v1, (aE 20), v18, v20] h20) fun v21 h21 =>
 bnd (aC 0 v21 h21) fun v22 h22 =>
 bnd (aC 1 v21 h22) fun v23 h23 =>
 bnd (r 44 [v1, (.s [97, 98])] h23) fun v24 h24 =>
 bnd (aC 0 v24 h24) fun v25 h25 =>
 bnd (aC 1 v24 h25) fun v26 h26 =>
 bnd (aL [(aE 0), (aE 0)] 2 [(0, 1, (aE 3)), (1, 1, (aE 199))] h26) fun v27 h27 =>
 bnd (r 16 [v1, (aE 21), v25, v27] h27) fun v28 h28 =>
 bnd (aC 0 v28 h28) fun v29 h29 =>
 bnd (aC 1 v28 h29) fun v30 h30 =>
 bnd (aD .eql v9 (aE 0) h30) fun v31 h31 =>
 bnd (gD v31 true (some (v12, h31)) h31) fun v32 h32 =>
 bnd (aO v31 v32 (.b false) h32) fun v33 h33 =>
 bnd (gD v33 true (some (v11, h33)) h33) fun v34 h34 =>
 bnd (gD v33 true (aD .eql v34 (aE 1073741824) h34) h34) fun v35 h35 =>
 bnd (aO v33 v35 (.b false) h35) fun v36 h36 =>
 bnd (gD v36 true (some (v1, h36)) h36) fun v37 h37 =>
 bnd (gD v36 true (some (v8, h37)) h37) fun v38 h38 =>
 bnd (gD v36 true (r 25 [v37, v38] h38) h38) fun v39 h39 =>
 bnd (gD v36 true (some (v1, h39)) h39) fun v40 h40 =>
 bnd (gD v36 true (r 45 [v40, (.s [76, 97, 114, 103, 101, 73, 110, 116, 101, 103, 101, 114])] h40) h40) fun v41 h41 =>
 bnd (gD v36 true (aD .eql v39 v41 h41) h41) fun v42 h42 =>
 bnd (aO v36 v42 (.b false) h42) fun v43 h43 =>
 bnd (gD v43 true (some (v16, h43)) h43) fun v44 h44 =>
 bnd (gD v43 true (aD .eql v44 (aE 20) h44) h44) fun v45 h45 =>
 bnd (aO v43 v45 (.b false) h45) fun v46 h46 =>
 bnd (gD v46 true (some (v22, h46)) h46) fun v47 h47 =>
 bnd (gD v46 true (aD .eql v47 (aE 197) h47) h47) fun v48 h48 =>
 bnd (aO v46 v48 (.b false) h48) fun v49 h49 =>
 bnd (gD v49 true (some (v23, h49)) h49) fun v50 h50 =>
 bnd (gD v49 true (aD .eql v50 (aE 0) h50) h50) fun v51 h51 =>
 bnd (aO v49 v51 (.b false) h51) fun v52 h52 =>
 bnd (gD v52 true (some (v30, h52)) h52) fun v53 h53 =>
 bnd (gD v52 true (aD .eql v53 (aE 20) h53) h53) fun v54 h54 =>
 bnd (aO v52 v54 (.b false) h54) fun v55 h55 =>
 bnd (gD v55 true (r 39 [(aE 21)] h55) h55) fun v56 h56 =>
 bnd (gD v55 true (aD .eql v56 (aE 2) h56) h56) fun v57 h57 =>
 bnd (aO v55 v57 (.b false) h57) fun v58 h58 =>
 some (v58, h58))
noncomputable abbrev c13 : Code := cf Tryz.f13
noncomputable abbrev r13 : K := aT CF Tryz.f13
noncomputable def D13 (r : RT) (n : Nat) (c : Code) (X : Nat → K) (k : K) : K := aM CF r 106 n c X r13 k
theorem dPm : D13 r n c13 x0 r13 = (K0 (s13 r n)) :=
 (by kernel_rfl)
theorem cTc : aF CF r n 13 args h = s13 r n h :=
 (by kernel_rfl : aF CF r n 13 args h = D13 r n c13 x0 r13 (aI args) h).trans ((congrFun (congrFun (dPm r n) (aI args)) h).trans (by kernel_rfl))
noncomputable def aW (r : RT) (n : Nat) (x3 : DV) (h0 : Hp) : aJ :=
 bnd (aB 1 x3 h0) fun v1 h1 =>
 bnd (aA v1 h1) fun v2 h2 =>
 some (v2, h2)
noncomputable def qW (r : RT) (n : Nat) (x0 x5 : DV) (h0 : Hp) : aJ :=
 bnd (dT x5 h0) fun v1 h1 =>
 bnd (aD .quo v1 (aE 2) h1) fun v2 h2 =>
 bnd (fD x5 none (some v2) h2) fun v3 h3 =>
 bnd (eM .add (.s [115]) v3 h3) fun v4 h4 =>
 bnd (r 44 [x0, v4] h4) fun v5 h5 =>
 bnd (aC 0 v5 h5) fun v6 h6 =>
 bnd (aC 1 v5 h6) fun v7 h7 =>
 some (v6, h7)
noncomputable def aLc (r : RT) (n : Nat) (x0 x5 : DV) (h0 : Hp) : aJ :=
 bnd (dT x5 h0) fun v1 h1 =>
 bnd (aD .gtr v1 (aE 60) h1) fun v2 h2 =>
 aQ v2 (
 bnd (fD x5 none (some (aE 60)) h2) fun v3 h3 =>
  qW r n x0 v3 h3) (
  qW r n x0 x5 h2)
noncomputable def dP (r : RT) (n : Nat) (x0 x13 : DV) (h0 : Hp) : aJ :=
 bnd (r 46 [x0, x13] h0) fun v1 h1 =>
 bnd (aC 0 v1 h1) fun v2 h2 =>
 bnd (aC 1 v1 h2) fun v3 h3 =>
 some (v2, h3)
noncomputable def kT (r : RT) (n : Nat) (kk21 : dQ) (x0 x12 x13 x14 : DV) (h0 : Hp) : aJ :=
 bnd (aD .rem x12 (aE 10) h0) fun v1 h1 =>
 bnd (aD .lss x14 v1 h1) fun v2 h2 =>
 aQ v2 (
 bnd (aD .mul (aE 2) x14 h2) fun v3 h3 =>
 bnd (aD .add v3 (aE 1) h3) fun v4 h4 =>
 bnd (aL [(aE 0)] 1 [(0, 1, v4)] h4) fun v5 h5 =>
 bnd (aZ 1 8 x13 v5 h5) fun v6 h6 =>
 bnd (aD .add x14 (aE 1) h6) fun v7 h7 =>
      kk21 x0 x12 v6 v7 h7) (
      dP r n x0 x13 h2)
noncomputable def kZ (r : RT) (n : Nat) (m : Nat) : dQ :=
 Nat.rec (motive := fun _ => dQ) (fun _ _ _ _ _ => none) (fun _ ih => kT r n ih) m
noncomputable def aUq (r : RT) (n : Nat) : dQ := kZ r n n
noncomputable def aFq (r : RT) (n : Nat) (x0 x12 x13 x14 : DV) (h0 : Hp) : aJ :=
 aUq r n x0 x12 x13 x14 h0
noncomputable def aBo (r : RT) (n : Nat) (x0 x12 x13 : DV) (h0 : Hp) : aJ :=
 aFq r n x0 x12 x13 (aE 0) h0
noncomputable def qN (r : RT) (n : Nat) (x0 x12 : DV) (h0 : Hp) : aJ :=
 aBo r n x0 x12 .l0 h0
noncomputable def aBz (r : RT) (n : Nat) (x0 x12 : DV) (h0 : Hp) : aJ :=
 bnd (aD .lss x12 (aE 0) h0) fun v1 h1 =>
 aQ v1 (
 bnd (aD .add x12 (aE 1) h1) fun v2 h2 =>
 bnd (gI .neg v2 h2) fun v3 h3 =>
  qN r n x0 v3 h3) (
  qN r n x0 x12 h1)
noncomputable def aIz (r : RT) (n : Nat) (x0 x3 : DV) (h0 : Hp) : aJ :=
 bnd (aB 1 x3 h0) fun v1 h1 =>
 bnd (aA v1 h1) fun v2 h2 =>
  aBz r n x0 v2 h2
noncomputable def vG (r : RT) (n : Nat) (x0 x3 x27 x66 : DV) (h0 : Hp) : aJ :=
 aQ x66 (
  aIz r n x0 x3 h0) (
 bnd (aD .eql x27 (aE 4) h0) fun v1 h1 =>
 aQ v1 (
 bnd (r 23 [x0] h1) fun v2 h2 =>
 bnd (r 45 [x0, (.s [80, 111, 105, 110, 116])] h2) fun v3 h3 =>
 bnd (kL [v2, v3, (aE 0), (aE 2)] h3) fun v4 h4 =>
 bnd (aC 0 v4 h4) fun v5 h5 =>
 bnd (aC 1 v4 h5) fun v6 h6 =>
 some (v5, h6)) (
 bnd (aD .eql x27 (aE 5) h1) fun v7 h7 =>
 aQ v7 (
 bnd (aB 1 x3 h7) fun v8 h8 =>
 bnd (aA v8 h8) fun v9 h9 =>
 bnd (aD .eql v9 (aE 16) h9) fun v10 h10 =>
 aQ v10 (
 bnd (r 45 [x0, (.s [80, 111, 105, 110, 116])] h10) fun v11 h11 =>
 some (v11, h11)) (
 bnd (aB 1 x3 h10) fun v12 h12 =>
 bnd (aA v12 h12) fun v13 h13 =>
 bnd (r 30 [x0, v13] h13) fun v14 h14 =>
 some (v14, h14))) (
 bnd (aD .eql x27 (aE 6) h7) fun v15 h15 =>
 aQ v15 (
 some ((aE 0), h15)) (
 bnd (aD .eql x27 (aE 7) h15) fun v16 h16 =>
 aQ v16 (
 some ((aE 2), h16)) (
 bnd (aD .eql x27 (aE 8) h16) fun v17 h17 =>
 aQ v17 (
 some ((aE 4), h17)) (
       aW r n x3 h17))))))
noncomputable def aOh (r : RT) (n : Nat) (x0 x3 x27 : DV) (h0 : Hp) : aJ :=
 bnd (aD .eql x27 (aE 3) h0) fun v1 h1 =>
  vG r n x0 x3 x27 v1 h1
noncomputable def zC (r : RT) (n : Nat) (x0 x3 x5 x27 x47 : DV) (h0 : Hp) : aJ :=
 aQ x47 (
  aLc r n x0 x5 h0) (
  aOh r n x0 x3 x27 h0)
noncomputable def bUk (r : RT) (n : Nat) (x0 x3 x5 x27 : DV) (h0 : Hp) : aJ :=
 bnd (aD .eql x27 (aE 2) h0) fun v1 h1 =>
  zC r n x0 x3 x5 x27 v1 h1
noncomputable def aNv (r : RT) (n : Nat) (x0 x3 x5 x27 x38 : DV) (h0 : Hp) : aJ :=
 aQ x38 (
 bnd (r 43 [x0, x5] h0) fun v1 h1 =>
 bnd (aC 0 v1 h1) fun v2 h2 =>
 bnd (aC 1 v1 h2) fun v3 h3 =>
 some (v2, h3)) (
  bUk r n x0 x3 x5 x27 h0)
noncomputable def bWh (r : RT) (n : Nat) (x0 x3 x5 x27 : DV) (h0 : Hp) : aJ :=
 bnd (aD .eql x27 (aE 1) h0) fun v1 h1 =>
  aNv r n x0 x3 x5 x27 v1 h1
noncomputable def aNj (r : RT) (n : Nat) (x0 x3 x5 x27 x28 : DV) (h0 : Hp) : aJ :=
 aQ x28 (
 bnd (aB 1 x3 h0) fun v1 h1 =>
 bnd (aA v1 h1) fun v2 h2 =>
 bnd (r 42 [x0, v2] h2) fun v3 h3 =>
 bnd (aC 0 v3 h3) fun v4 h4 =>
 bnd (aC 1 v3 h4) fun v5 h5 =>
 some (v4, h5)) (
  bWh r n x0 x3 x5 x27 h0)
noncomputable def aZv (r : RT) (n : Nat) (x0 x3 x5 x27 : DV) (h0 : Hp) : aJ :=
 bnd (aD .eql x27 (aE 0) h0) fun v1 h1 =>
  aNj r n x0 x3 x5 x27 v1 h1
noncomputable def aAp (r : RT) (n : Nat) (x0 x3 x5 : DV) (h0 : Hp) : aJ :=
 bnd (aB 0 x3 h0) fun v1 h1 =>
 bnd (aA v1 h1) fun v2 h2 =>
  aZv r n x0 x3 x5 v2 h2
noncomputable def aXp (r : RT) (n : Nat) (x0 x3 x5 : DV) (h0 : Hp) : aJ :=
 bnd (dT x5 h0) fun v1 h1 =>
 bnd (aD .gtr v1 (aE 250) h1) fun v2 h2 =>
 aQ v2 (
 bnd (fD x5 none (some (aE 250)) h2) fun v3 h3 =>
  aAp r n x0 x3 v3 h3) (
  aAp r n x0 x3 x5 h2)
noncomputable def aAq (r : RT) (n : Nat) (x0 x3 : DV) (h0 : Hp) : aJ :=
 bnd (aB 2 x3 h0) fun v1 h1 =>
 bnd (aA v1 h1) fun v2 h2 =>
  aXp r n x0 x3 v2 h2
noncomputable def s14 (r : RT) (n : Nat) (x0 x1 : DV) (h0 : Hp) : aJ :=
 bnd (bS x1 h0) fun v1 h1 =>
  aAq r n x0 v1 h1
noncomputable abbrev c14 : Code := cf Tryz.f14
noncomputable abbrev aZl : Code := cR c14
noncomputable abbrev aZy : Code := cR aZl
noncomputable abbrev bBu : Code := cR aZy
noncomputable abbrev dHv : Code := cR bBu
noncomputable abbrev aNt : Code := cL bBu
noncomputable abbrev bXa : Code := cR aNt
noncomputable abbrev bAb : Code := cL bXa
noncomputable abbrev aMw : Code := cR bAb
noncomputable abbrev aNe : Code := cR aMw
noncomputable abbrev zI : Code := cR aNe
noncomputable abbrev vD : Code := cR zI
noncomputable abbrev vT : Code := cR vD
noncomputable abbrev xW : Code := cL vT
noncomputable abbrev cYv : Code := cR xW
noncomputable abbrev bPv : Code := cL xW
noncomputable abbrev zL : Code := cR vT
noncomputable abbrev zP : Code := cR zL
noncomputable abbrev zO : Code := cL zP
noncomputable abbrev aFn : Code := cR zO
noncomputable abbrev aHi : Code := cR aFn
noncomputable abbrev aGg : Code := cR aHi
noncomputable abbrev cVq : Code := cR aGg
noncomputable abbrev wC : Code := cL aGg
noncomputable abbrev aQc : Code := cR wC
noncomputable abbrev aIs : Code := cL aQc
noncomputable abbrev mO : Code := cL aIs
noncomputable abbrev cBi : Code := cL wC
noncomputable abbrev cBa : Code := cL aHi
noncomputable abbrev cBm : Code := cL aFn
noncomputable abbrev bYn : Code := cL zO
noncomputable abbrev cUi : Code := cR zP
noncomputable abbrev bKw : Code := cL zL
noncomputable abbrev bRk : Code := cL vD
noncomputable abbrev dEe : Code := cL zI
noncomputable abbrev bOg : Code := cL aNe
noncomputable abbrev cWd : Code := cL aMw
noncomputable abbrev bPy : Code := cL bAb
noncomputable abbrev bNa : Code := cL aNt
noncomputable abbrev bIn : Code := cL aZy
noncomputable abbrev bZd : Code := cL aZl
noncomputable abbrev aPe : Code := cL c14
noncomputable abbrev r14 : K := aT CF Tryz.f14
noncomputable def D14 (r : RT) (n : Nat) (c : Code) (X : Nat → K) (k : K) : K := aM CF r 124 n c X r14 k
theorem dDw : D14 r n dHv x0 r14 = (K1 (aW r n) 3) :=
 (by kernel_rfl)
theorem cOo : D14 r n cYv (xs x0 0 (K1 (aW r n) 3)) (K1 (aW r n) 3) = (K2 (qW r n) 0 5) :=
 (by kernel_rfl)
theorem bZw : D14 r n xW (xs x0 0 (K1 (aW r n) 3)) (K1 (aW r n) 3) = D14 r n bPv (xs x0 0 (K1 (aW r n) 3)) (K2 (qW r n) 0 5) :=
 congrArg (fun k => D14 r n bPv (xs x0 0 (K1 (aW r n) 3)) k) (cOo r n)
theorem cSm : D14 r n xW (xs x0 0 (K1 (aW r n) 3)) (K1 (aW r n) 3) = (K2 (aLc r n) 0 5) :=
 (bZw r n).trans
 ((by kernel_rfl))
theorem cHq : D14 r n cVq (xs x0 0 (K1 (aW r n) 3)) (K1 (aW r n) 3) = (K2 (dP r n) 0 13) :=
 (by kernel_rfl)
theorem bZv (kk21 : dQ) (q0 : TT1) (q1 : gJ) : D14 r n mO (xs (xs x0 0 (K1 q0 3)) 1 (K2 q1 0 13)) (K4 kk21 0 12 13 14) = fun (env : aY) (h : Hp) =>
 bnd (aD .rem (env 12) (aE 10) h) fun v1 h1 =>
 bnd (aD .lss (env 14) v1 h1) fun v2 h2 =>
 aQ v2 (
 bnd (aD .mul (aE 2) (env 14) h2) fun v3 h3 =>
 bnd (aD .add v3 (aE 1) h3) fun v4 h4 =>
 bnd (aL [(aE 0)] 1 [(0, 1, v4)] h4) fun v5 h5 =>
 bnd (aZ 1 8 (env 13) v5 h5) fun v6 h6 =>
 bnd (aD .add (env 14) (aE 1) h6) fun v7 h7 =>
      kk21 (env 0) (env 12) v6 v7 h7) (
      q1 (env 0) (env 13) h2) := by kernel_rfl
theorem bHo (kk21 : dQ) : (fun (env : aY) (h : Hp) =>
 bnd (aD .rem (env 12) (aE 10) h) fun v1 h1 =>
 bnd (aD .lss (env 14) v1 h1) fun v2 h2 =>
 aQ v2 (
 bnd (aD .mul (aE 2) (env 14) h2) fun v3 h3 =>
 bnd (aD .add v3 (aE 1) h3) fun v4 h4 =>
 bnd (aL [(aE 0)] 1 [(0, 1, v4)] h4) fun v5 h5 =>
 bnd (aZ 1 8 (env 13) v5 h5) fun v6 h6 =>
 bnd (aD .add (env 14) (aE 1) h6) fun v7 h7 =>
      kk21 (env 0) (env 12) v6 v7 h7) (
      dP r n (env 0) (env 13) h2)) = (K4 (kT r n kk21) 0 12 13 14) := by kernel_rfl
theorem cBs (kk21 : dQ) : D14 r n mO (xs (xs x0 0 (K1 (aW r n) 3)) 1 (K2 (dP r n) 0 13)) (K4 kk21 0 12 13 14) = (K4 (kT r n kk21) 0 12 13 14) :=
 (bZv r n kk21 (aW r n) (dP r n)).trans (bHo r n kk21)
theorem bZg (m : Nat) : aN (fun kk => D14 r n mO (xs (xs x0 0 (K1 (aW r n) 3)) 1 (K2 (dP r n) 0 13)) kk) m = (K4 (kZ r n m) 0 12 13 14) := by
 induction m with
 | zero => exact (by kernel_rfl : aN (fun kk => D14 r n mO (xs (xs x0 0 (K1 (aW r n) 3)) 1 (K2 (dP r n) 0 13)) kk) 0 = (K4 (kZ r n 0) 0 12 13 14))
 | succ m ih =>
  refine (by kernel_rfl : aN (fun kk => D14 r n mO (xs (xs x0 0 (K1 (aW r n) 3)) 1 (K2 (dP r n) 0 13)) kk) (m + 1) = D14 r n mO (xs (xs x0 0 (K1 (aW r n) 3)) 1 (K2 (dP r n) 0 13)) (aN (fun kk => D14 r n mO (xs (xs x0 0 (K1 (aW r n) 3)) 1 (K2 (dP r n) 0 13)) kk) m)).trans ?_
  rw [ih]
  exact (cBs r n (kZ r n m)).trans (by kernel_rfl)
theorem cEn : D14 r n aIs (xs (xs x0 0 (K1 (aW r n) 3)) 1 (K2 (dP r n) 0 13)) (K2 (dP r n) 0 13) = (K4 (aUq r n) 0 12 13 14) :=
 (by kernel_rfl : D14 r n aIs (xs (xs x0 0 (K1 (aW r n) 3)) 1 (K2 (dP r n) 0 13)) (K2 (dP r n) 0 13) = aN (fun kk => D14 r n mO (xs (xs x0 0 (K1 (aW r n) 3)) 1 (K2 (dP r n) 0 13)) kk) n).trans ((bZg r n n).trans (by kernel_rfl))
theorem cMu : D14 r n aQc (xs x0 0 (K1 (aW r n) 3)) (K2 (dP r n) 0 13) = (K4 (aFq r n) 0 12 13 14) :=
 (by kernel_rfl : D14 r n aQc (xs x0 0 (K1 (aW r n) 3)) (K2 (dP r n) 0 13) = D14 r n aIs (xs (xs x0 0 (K1 (aW r n) 3)) 1 (K2 (dP r n) 0 13)) (K2 (dP r n) 0 13)).trans
 ((cEn r n).trans (by kernel_rfl))
theorem bQh : D14 r n aGg (xs x0 0 (K1 (aW r n) 3)) (K1 (aW r n) 3) = D14 r n wC (xs x0 0 (K1 (aW r n) 3)) (K2 (dP r n) 0 13) :=
 congrArg (fun k => D14 r n wC (xs x0 0 (K1 (aW r n) 3)) k) (cHq r n)
theorem bOa : D14 r n wC (xs x0 0 (K1 (aW r n) 3)) (K2 (dP r n) 0 13) = D14 r n cBi (xs x0 0 (K1 (aW r n) 3)) (K4 (aFq r n) 0 12 13 14) :=
 congrArg (fun k => D14 r n cBi (xs x0 0 (K1 (aW r n) 3)) k) (cMu r n)
theorem cLa : D14 r n aGg (xs x0 0 (K1 (aW r n) 3)) (K1 (aW r n) 3) = (K3 (aBo r n) 0 12 13) :=
 (bQh r n).trans
 ((bOa r n).trans
 ((by kernel_rfl)))
theorem bQk : D14 r n aHi (xs x0 0 (K1 (aW r n) 3)) (K1 (aW r n) 3) = D14 r n cBa (xs x0 0 (K1 (aW r n) 3)) (K3 (aBo r n) 0 12 13) :=
 congrArg (fun k => D14 r n cBa (xs x0 0 (K1 (aW r n) 3)) k) (cLa r n)
theorem cCx : D14 r n aHi (xs x0 0 (K1 (aW r n) 3)) (K1 (aW r n) 3) = (K2 (qN r n) 0 12) :=
 (bQk r n).trans
 ((by kernel_rfl))
theorem bHz : D14 r n aFn (xs x0 0 (K1 (aW r n) 3)) (K1 (aW r n) 3) = D14 r n cBm (xs x0 0 (K1 (aW r n) 3)) (K2 (qN r n) 0 12) :=
 congrArg (fun k => D14 r n cBm (xs x0 0 (K1 (aW r n) 3)) k) (cCx r n)
theorem cGj : D14 r n aFn (xs x0 0 (K1 (aW r n) 3)) (K1 (aW r n) 3) = (K2 (aBz r n) 0 12) :=
 (bHz r n).trans
 ((by kernel_rfl))
theorem bLz : D14 r n zO (xs x0 0 (K1 (aW r n) 3)) (K1 (aW r n) 3) = D14 r n bYn (xs x0 0 (K1 (aW r n) 3)) (K2 (aBz r n) 0 12) :=
 congrArg (fun k => D14 r n bYn (xs x0 0 (K1 (aW r n) 3)) k) (cGj r n)
theorem cKg : D14 r n zO (xs x0 0 (K1 (aW r n) 3)) (K1 (aW r n) 3) = (K2 (aIz r n) 0 3) :=
 (bLz r n).trans
 ((by kernel_rfl))
theorem cKi : D14 r n zP (xs x0 0 (K1 (aW r n) 3)) (K1 (aW r n) 3) = (K4 (vG r n) 0 3 27 66) :=
 (by kernel_rfl : D14 r n zP (xs x0 0 (K1 (aW r n) 3)) (K1 (aW r n) 3) = (fun (env : aY) (h : Hp) => aQ (opr env (cC zP)) (D14 r n zO (xs x0 0 (K1 (aW r n) 3)) (K1 (aW r n) 3) env h) (D14 r n cUi (xs x0 0 (K1 (aW r n) 3)) (K1 (aW r n) 3) env h))).trans (by rw [cKg r n]; kernel_rfl)
theorem bXh : D14 r n zL (xs x0 0 (K1 (aW r n) 3)) (K1 (aW r n) 3) = D14 r n bKw (xs x0 0 (K1 (aW r n) 3)) (K4 (vG r n) 0 3 27 66) :=
 congrArg (fun k => D14 r n bKw (xs x0 0 (K1 (aW r n) 3)) k) (cKi r n)
theorem cPb : D14 r n zL (xs x0 0 (K1 (aW r n) 3)) (K1 (aW r n) 3) = (K3 (aOh r n) 0 3 27) :=
 (bXh r n).trans
 ((by kernel_rfl))
theorem cEm : D14 r n vT (xs x0 0 (K1 (aW r n) 3)) (K1 (aW r n) 3) = (K5 (zC r n) 0 3 5 27 47) :=
 (by kernel_rfl : D14 r n vT (xs x0 0 (K1 (aW r n) 3)) (K1 (aW r n) 3) = (fun (env : aY) (h : Hp) => aQ (opr env (cC vT)) (D14 r n xW (xs x0 0 (K1 (aW r n) 3)) (K1 (aW r n) 3) env h) (D14 r n zL (xs x0 0 (K1 (aW r n) 3)) (K1 (aW r n) 3) env h))).trans (by rw [cSm r n, cPb r n]; kernel_rfl)
theorem cRf : D14 r n vD (xs x0 0 (K1 (aW r n) 3)) (K1 (aW r n) 3) = D14 r n bRk (xs x0 0 (K1 (aW r n) 3)) (K5 (zC r n) 0 3 5 27 47) :=
 congrArg (fun k => D14 r n bRk (xs x0 0 (K1 (aW r n) 3)) k) (cEm r n)
theorem dEz : D14 r n vD (xs x0 0 (K1 (aW r n) 3)) (K1 (aW r n) 3) = (K4 (bUk r n) 0 3 5 27) :=
 (cRf r n).trans
 ((by kernel_rfl))
theorem dDc : D14 r n zI (xs x0 0 (K1 (aW r n) 3)) (K1 (aW r n) 3) = (K5 (aNv r n) 0 3 5 27 38) :=
 (by kernel_rfl : D14 r n zI (xs x0 0 (K1 (aW r n) 3)) (K1 (aW r n) 3) = (fun (env : aY) (h : Hp) => aQ (opr env (cC zI)) (D14 r n dEe (xs x0 0 (K1 (aW r n) 3)) (K1 (aW r n) 3) env h) (D14 r n vD (xs x0 0 (K1 (aW r n) 3)) (K1 (aW r n) 3) env h))).trans (by rw [dEz r n]; kernel_rfl)
theorem bIr : D14 r n aNe (xs x0 0 (K1 (aW r n) 3)) (K1 (aW r n) 3) = D14 r n bOg (xs x0 0 (K1 (aW r n) 3)) (K5 (aNv r n) 0 3 5 27 38) :=
 congrArg (fun k => D14 r n bOg (xs x0 0 (K1 (aW r n) 3)) k) (dDc r n)
theorem cUp : D14 r n aNe (xs x0 0 (K1 (aW r n) 3)) (K1 (aW r n) 3) = (K4 (bWh r n) 0 3 5 27) :=
 (bIr r n).trans
 ((by kernel_rfl))
theorem cWm : D14 r n aMw (xs x0 0 (K1 (aW r n) 3)) (K1 (aW r n) 3) = (K5 (aNj r n) 0 3 5 27 28) :=
 (by kernel_rfl : D14 r n aMw (xs x0 0 (K1 (aW r n) 3)) (K1 (aW r n) 3) = (fun (env : aY) (h : Hp) => aQ (opr env (cC aMw)) (D14 r n cWd (xs x0 0 (K1 (aW r n) 3)) (K1 (aW r n) 3) env h) (D14 r n aNe (xs x0 0 (K1 (aW r n) 3)) (K1 (aW r n) 3) env h))).trans (by rw [cUp r n]; kernel_rfl)
theorem cCl : D14 r n bAb (xs x0 0 (K1 (aW r n) 3)) (K1 (aW r n) 3) = D14 r n bPy (xs x0 0 (K1 (aW r n) 3)) (K5 (aNj r n) 0 3 5 27 28) :=
 congrArg (fun k => D14 r n bPy (xs x0 0 (K1 (aW r n) 3)) k) (cWm r n)
theorem dFk : D14 r n bXa x0 (K1 (aW r n) 3) = (K4 (aZv r n) 0 3 5 27) :=
 (by kernel_rfl : D14 r n bXa x0 (K1 (aW r n) 3) = D14 r n bAb (xs x0 0 (K1 (aW r n) 3)) (K1 (aW r n) 3)).trans
 ((cCl r n).trans
 ((by kernel_rfl)))
theorem bVw : D14 r n bBu x0 r14 = D14 r n aNt x0 (K1 (aW r n) 3) :=
 congrArg (fun k => D14 r n aNt x0 k) (dDw r n)
theorem bQb : D14 r n aNt x0 (K1 (aW r n) 3) = D14 r n bNa x0 (K4 (aZv r n) 0 3 5 27) :=
 congrArg (fun k => D14 r n bNa x0 k) (dFk r n)
theorem dDv : D14 r n bBu x0 r14 = (K3 (aAp r n) 0 3 5) :=
 (bVw r n).trans
 ((bQb r n).trans
 ((by kernel_rfl)))
theorem bIb : D14 r n aZy x0 r14 = D14 r n bIn x0 (K3 (aAp r n) 0 3 5) :=
 congrArg (fun k => D14 r n bIn x0 k) (dDv r n)
theorem cXb : D14 r n aZy x0 r14 = (K3 (aXp r n) 0 3 5) :=
 (bIb r n).trans
 ((by kernel_rfl))
theorem cCp : D14 r n aZl x0 r14 = D14 r n bZd x0 (K3 (aXp r n) 0 3 5) :=
 congrArg (fun k => D14 r n bZd x0 k) (cXb r n)
theorem dEh : D14 r n aZl x0 r14 = (K2 (aAq r n) 0 3) :=
 (cCp r n).trans
 ((by kernel_rfl))
theorem cVn : D14 r n c14 x0 r14 = D14 r n aPe x0 (K2 (aAq r n) 0 3) :=
 congrArg (fun k => D14 r n aPe x0 k) (dEh r n)
theorem dFt (q0 : gJ) : D14 r n aPe x0 (K2 q0 0 3) = fun (env : aY) (h : Hp) =>
 bnd (bS (env 1) h) fun v1 h1 =>
  q0 (env 0) v1 h1 := by kernel_rfl
theorem cHc : (fun (env : aY) (h : Hp) =>
 bnd (bS (env 1) h) fun v1 h1 =>
  aAq r n (env 0) v1 h1) = (K2 (s14 r n) 0 1) := by kernel_rfl
theorem dRs : D14 r n c14 x0 r14 = (K2 (s14 r n) 0 1) :=
 (cVn r n).trans
 ((dFt r n (aAq r n)).trans (cHc r n))
theorem cTd : aF CF r n 14 args h = s14 r n (aS args 0) (aS args 1) h :=
 (by kernel_rfl : aF CF r n 14 args h = D14 r n c14 x0 r14 (aI args) h).trans ((congrFun (congrFun (dRs r n) (aI args)) h).trans (by kernel_rfl))
noncomputable def s15 (r : RT) (n : Nat) (x0 x1 : DV) (h0 : Hp) : aJ :=
 bnd (gT [x1] h0) fun v1 h1 =>
 aQ v1 (
 bnd (jZ [x1] h1) fun v2 h2 =>
 some (.t [v2, (.b true)], h2)) (
 bnd (aR x0 h1) fun v3 h3 =>
 bnd (aB 0 v3 h3) fun v4 h4 =>
 bnd (aA v4 h4) fun v5 h5 =>
 bnd (isF [v5, x1] h5) fun v6 h6 =>
 bnd (gD v6 true (some (x0, h6)) h6) fun v7 h7 =>
 bnd (gD v6 true (aR v7 h7) h7) fun v8 h8 =>
 bnd (gD v6 true (aB 0 v8 h8) h8) fun v9 h9 =>
 bnd (gD v6 true (aA v9 h9) h9) fun v10 h10 =>
 bnd (gD v6 true (some (x1, h10)) h10) fun v11 h11 =>
 bnd (gD v6 true (iR [v10, v11] h11) h11) fun v12 h12 =>
 bnd (gD v6 true (some (x0, h12)) h12) fun v13 h13 =>
 bnd (gD v6 true (r 30 [v13, (aE 8)] h13) h13) fun v14 h14 =>
 bnd (gD v6 true (aD .eql v12 v14 h14) h14) fun v15 h15 =>
 bnd (aO v6 v15 (.b false) h15) fun v16 h16 =>
 bnd (gD v16 true (some (x0, h16)) h16) fun v17 h17 =>
 bnd (gD v16 true (aR v17 h17) h17) fun v18 h18 =>
 bnd (gD v16 true (aB 0 v18 h18) h18) fun v19 h19 =>
 bnd (gD v16 true (aA v19 h19) h19) fun v20 h20 =>
 bnd (gD v16 true (some (x1, h20)) h20) fun v21 h21 =>
 bnd (gD v16 true (jT [v20, v21] h21) h21) fun v22 h22 =>
 bnd (gD v16 true (aD .eql v22 (aE 1) h22) h22) fun v23 h23 =>
 bnd (aO v16 v23 (.b false) h23) fun v24 h24 =>
 aQ v24 (
 bnd (r 51 [x0, x1, (aE 0)] h24) fun v25 h25 =>
 some (.t [v25, (.b true)], h25)) (
 some (.t [(aE 0), (.b false)], h24)))
noncomputable abbrev c15 : Code := cf Tryz.f15
noncomputable abbrev r15 : K := aT CF Tryz.f15
noncomputable def D15 (r : RT) (n : Nat) (c : Code) (X : Nat → K) (k : K) : K := aM CF r 41 n c X r15 k
theorem dNb : D15 r n c15 x0 r15 = (K2 (s15 r n) 0 1) :=
 (by kernel_rfl)
theorem dIp : aF CF r n 15 args h = s15 r n (aS args 0) (aS args 1) h :=
 (by kernel_rfl : aF CF r n 15 args h = D15 r n c15 x0 r15 (aI args) h).trans ((congrFun (congrFun (dNb r n) (aI args)) h).trans (by kernel_rfl))
noncomputable def bC (r : RT) (n : Nat) (x12 : DV) (h0 : Hp) : aJ :=
 bnd (cU CF r x12 [] h0) fun v1 h1 =>
 bnd (aC 0 v1 h1) fun v2 h2 =>
 bnd (aC 1 v1 h2) fun v3 h3 =>
 some (.t [v2, v3], h3)
noncomputable def aIx (r : RT) (n : Nat) (x11 x12 x69 : DV) (h0 : Hp) : aJ :=
 aQ x69 (
  bC r n (.f 61 [x11] []) h0) (
  bC r n x12 h0)
noncomputable def bJi (r : RT) (n : Nat) (x11 x12 x42 : DV) (h0 : Hp) : aJ :=
 bnd (aD .eql x42 (aE 50) h0) fun v1 h1 =>
 aQ v1 (
  aIx r n x11 x12 v1 h1) (
 bnd (aD .eql x42 (aE 51) h1) fun v2 h2 =>
  aIx r n x11 x12 v2 h2)
noncomputable def aDt (r : RT) (n : Nat) (x11 x12 x42 x64 : DV) (h0 : Hp) : aJ :=
 aQ x64 (
  bC r n (.f 60 [x11] []) h0) (
  bJi r n x11 x12 x42 h0)
noncomputable def bXd (r : RT) (n : Nat) (x11 x12 x42 : DV) (h0 : Hp) : aJ :=
 bnd (aD .eql x42 (aE 40) h0) fun v1 h1 =>
 aQ v1 (
  aDt r n x11 x12 x42 v1 h1) (
 bnd (aD .eql x42 (aE 41) h1) fun v2 h2 =>
  aDt r n x11 x12 x42 v2 h2)
noncomputable def aKw (r : RT) (n : Nat) (x11 x12 x42 x59 : DV) (h0 : Hp) : aJ :=
 aQ x59 (
  bC r n (.f 59 [x11] []) h0) (
  bXd r n x11 x12 x42 h0)
noncomputable def bOx (r : RT) (n : Nat) (x11 x12 x42 : DV) (h0 : Hp) : aJ :=
 bnd (aD .eql x42 (aE 25) h0) fun v1 h1 =>
 aQ v1 (
  aKw r n x11 x12 x42 v1 h1) (
 bnd (aD .eql x42 (aE 26) h1) fun v2 h2 =>
  aKw r n x11 x12 x42 v2 h2)
noncomputable def aFm (r : RT) (n : Nat) (x11 x12 x42 x54 : DV) (h0 : Hp) : aJ :=
 aQ x54 (
  bC r n (.f 58 [x11] []) h0) (
  bOx r n x11 x12 x42 h0)
noncomputable def bKq (r : RT) (n : Nat) (x11 x12 x42 : DV) (h0 : Hp) : aJ :=
 bnd (aD .eql x42 (aE 23) h0) fun v1 h1 =>
 aQ v1 (
  aFm r n x11 x12 x42 v1 h1) (
 bnd (aD .eql x42 (aE 24) h1) fun v2 h2 =>
  aFm r n x11 x12 x42 v2 h2)
noncomputable def zQ (r : RT) (n : Nat) (x11 x12 x42 x48 : DV) (h0 : Hp) : aJ :=
 aQ x48 (
  bC r n (.f 57 [x11] []) h0) (
  bKq r n x11 x12 x42 h0)
noncomputable def cTm (r : RT) (n : Nat) (x11 x12 x42 : DV) (h0 : Hp) : aJ :=
 bnd (aD .eql x42 (aE 20) h0) fun v1 h1 =>
 aQ v1 (
  zQ r n x11 x12 x42 v1 h1) (
 bnd (aD .eql x42 (aE 21) h1) fun v2 h2 =>
 aQ v2 (
   zQ r n x11 x12 x42 v2 h2) (
 bnd (aD .eql x42 (aE 22) h2) fun v3 h3 =>
      zQ r n x11 x12 x42 v3 h3))
noncomputable def aWy (r : RT) (n : Nat) (x11 x12 x42 x43 : DV) (h0 : Hp) : aJ :=
 aQ x43 (
  bC r n (.f 56 [x11] []) h0) (
  cTm r n x11 x12 x42 h0)
noncomputable def bLn (r : RT) (n : Nat) (x11 x12 x42 : DV) (h0 : Hp) : aJ :=
 bnd (aD .eql x42 (aE 10) h0) fun v1 h1 =>
 aQ v1 (
  aWy r n x11 x12 x42 v1 h1) (
 bnd (aD .eql x42 (aE 11) h1) fun v2 h2 =>
  aWy r n x11 x12 x42 v2 h2)
noncomputable def cAy (r : RT) (n : Nat) (x1 x11 x12 : DV) (h0 : Hp) : aJ :=
 bLn r n x11 x12 x1 h0
noncomputable def nC (r : RT) (n : Nat) (x1 x11 : DV) (h0 : Hp) : aJ :=
 cAy r n x1 x11 (.f 55 [x11] []) h0
noncomputable def wA (r : RT) (n : Nat) (x0 x1 x2 x3 : DV) (h0 : Hp) : aJ :=
 bnd (bB [.p0, (aE 0), (aE 0), .l0] [(0, 1, x0), (1, 1, x1), (2, 1, x2), (3, 1, x3)] h0) fun v1 h1 =>
 bnd (bS v1 h1) fun v2 h2 =>
  nC r n x1 v2 h2
noncomputable def aAz (r : RT) (n : Nat) (x0 x1 x2 x3 x10 : DV) (h0 : Hp) : aJ :=
 bnd (r 39 [x1] h0) fun v1 h1 =>
 bnd (bX x3 h1) fun v2 h2 =>
 bnd (aD .neq v1 v2 h2) fun v3 h3 =>
 bnd (gD v3 false (aA x10 h3) h3) fun v4 h4 =>
 bnd (gD v3 false (some (x2, h4)) h4) fun v5 h5 =>
 bnd (gD v3 false (aIl [v4, v5] h5) h5) fun v6 h6 =>
 bnd (gD v3 false (gI .not v6 h6) h6) fun v7 h7 =>
 bnd (aO v3 (.b true) v7 h7) fun v8 h8 =>
 bnd (gD v8 false (some (x3, h8)) h8) fun v9 h9 =>
 bnd (gD v8 false (some ((.f 53 [] [x10]), h9)) h9) fun v10 h10 =>
 bnd (gD v8 false (r 52 [v9, v10] h10) h10) fun v11 h11 =>
 bnd (aO v8 (.b true) v11 h11) fun v12 h12 =>
 aQ v12 (
 bnd (r 54 [] h12) fun v13 h13 =>
 bnd (aC 0 v13 h13) fun v14 h14 =>
 bnd (aC 1 v13 h14) fun v15 h15 =>
 some (.t [v14, v15], h15)) (
  wA r n x0 x1 x2 x3 h12)
noncomputable def aMj (r : RT) (n : Nat) (x0 x1 x2 x3 : DV) (h0 : Hp) : aJ :=
 bnd (r 23 [x0] h0) fun v1 h1 =>
 bnd (bL [.p0] h1) fun v2 h2 =>
 bnd (aG 1 v2 v1 h2) fun _ h3 =>
  aAz r n x0 x1 x2 x3 v2 h3
noncomputable def s16 (r : RT) (n : Nat) (x0 x1 x2 x3 : DV) (h0 : Hp) : aJ :=
 aMj r n x0 x1 x2 x3 h0
noncomputable abbrev c16 : Code := cf Tryz.f16
noncomputable abbrev aYf : Code := cR c16
noncomputable abbrev aWx : Code := cR aYf
noncomputable abbrev aZq : Code := cR aWx
noncomputable abbrev aWl : Code := cR aZq
noncomputable abbrev bBc : Code := cR aWl
noncomputable abbrev dLt : Code := cR bBc
noncomputable abbrev aMz : Code := cL bBc
noncomputable abbrev bPz : Code := cR aMz
noncomputable abbrev aXf : Code := cL bPz
noncomputable abbrev yD : Code := cR aXf
noncomputable abbrev wG : Code := cR yD
noncomputable abbrev xN : Code := cR wG
noncomputable abbrev vE : Code := cR xN
noncomputable abbrev wE : Code := cR vE
noncomputable abbrev vU : Code := cR wE
noncomputable abbrev vQ : Code := cR vU
noncomputable abbrev yX : Code := cR vQ
noncomputable abbrev yU : Code := cR yX
noncomputable abbrev xB : Code := cR yU
noncomputable abbrev dBq : Code := cR xB
noncomputable abbrev cBj : Code := cL xB
noncomputable abbrev dBi : Code := cL yU
noncomputable abbrev cBe : Code := cL yX
noncomputable abbrev dDz : Code := cL vQ
noncomputable abbrev bYz : Code := cL vU
noncomputable abbrev dCa : Code := cL wE
noncomputable abbrev bKg : Code := cL vE
noncomputable abbrev cUd : Code := cL xN
noncomputable abbrev bPg : Code := cL wG
noncomputable abbrev dBt : Code := cL yD
noncomputable abbrev bQe : Code := cL aXf
noncomputable abbrev bYw : Code := cL aMz
noncomputable abbrev bOf : Code := cL aWl
noncomputable abbrev aTf : Code := cL aZq
noncomputable abbrev bNn : Code := cL aWx
noncomputable abbrev aVi : Code := cL aYf
noncomputable abbrev bLl : Code := cL c16
noncomputable abbrev r16 : K := aT CF Tryz.f16
noncomputable def D16 (r : RT) (n : Nat) (c : Code) (X : Nat → K) (k : K) : K := aM CF r 78 n c X r16 k
theorem cXx : D16 r n dLt x0 r16 = (K1 (bC r n) 12) :=
 (by kernel_rfl)
theorem cNo : D16 r n dBq (xs x0 0 (K1 (bC r n) 12)) (K1 (bC r n) 12) = (K3 (aIx r n) 11 12 69) :=
 (by kernel_rfl)
theorem bRq : D16 r n xB (xs x0 0 (K1 (bC r n) 12)) (K1 (bC r n) 12) = D16 r n cBj (xs x0 0 (K1 (bC r n) 12)) (K3 (aIx r n) 11 12 69) :=
 congrArg (fun k => D16 r n cBj (xs x0 0 (K1 (bC r n) 12)) k) (cNo r n)
theorem cHy : D16 r n xB (xs x0 0 (K1 (bC r n) 12)) (K1 (bC r n) 12) = (K3 (bJi r n) 11 12 42) :=
 (bRq r n).trans
 ((by kernel_rfl))
theorem cEh : D16 r n yU (xs x0 0 (K1 (bC r n) 12)) (K1 (bC r n) 12) = (K4 (aDt r n) 11 12 42 64) :=
 (by kernel_rfl : D16 r n yU (xs x0 0 (K1 (bC r n) 12)) (K1 (bC r n) 12) = (fun (env : aY) (h : Hp) => aQ (opr env (cC yU)) (D16 r n dBi (xs x0 0 (K1 (bC r n) 12)) (K1 (bC r n) 12) env h) (D16 r n xB (xs x0 0 (K1 (bC r n) 12)) (K1 (bC r n) 12) env h))).trans (by rw [cHy r n]; kernel_rfl)
theorem cBz : D16 r n yX (xs x0 0 (K1 (bC r n) 12)) (K1 (bC r n) 12) = D16 r n cBe (xs x0 0 (K1 (bC r n) 12)) (K4 (aDt r n) 11 12 42 64) :=
 congrArg (fun k => D16 r n cBe (xs x0 0 (K1 (bC r n) 12)) k) (cEh r n)
theorem cHo : D16 r n yX (xs x0 0 (K1 (bC r n) 12)) (K1 (bC r n) 12) = (K3 (bXd r n) 11 12 42) :=
 (cBz r n).trans
 ((by kernel_rfl))
theorem cNs : D16 r n vQ (xs x0 0 (K1 (bC r n) 12)) (K1 (bC r n) 12) = (K4 (aKw r n) 11 12 42 59) :=
 (by kernel_rfl : D16 r n vQ (xs x0 0 (K1 (bC r n) 12)) (K1 (bC r n) 12) = (fun (env : aY) (h : Hp) => aQ (opr env (cC vQ)) (D16 r n dDz (xs x0 0 (K1 (bC r n) 12)) (K1 (bC r n) 12) env h) (D16 r n yX (xs x0 0 (K1 (bC r n) 12)) (K1 (bC r n) 12) env h))).trans (by rw [cHo r n]; kernel_rfl)
theorem bNl : D16 r n vU (xs x0 0 (K1 (bC r n) 12)) (K1 (bC r n) 12) = D16 r n bYz (xs x0 0 (K1 (bC r n) 12)) (K4 (aKw r n) 11 12 42 59) :=
 congrArg (fun k => D16 r n bYz (xs x0 0 (K1 (bC r n) 12)) k) (cNs r n)
theorem cGk : D16 r n vU (xs x0 0 (K1 (bC r n) 12)) (K1 (bC r n) 12) = (K3 (bOx r n) 11 12 42) :=
 (bNl r n).trans
 ((by kernel_rfl))
theorem cNh : D16 r n wE (xs x0 0 (K1 (bC r n) 12)) (K1 (bC r n) 12) = (K4 (aFm r n) 11 12 42 54) :=
 (by kernel_rfl : D16 r n wE (xs x0 0 (K1 (bC r n) 12)) (K1 (bC r n) 12) = (fun (env : aY) (h : Hp) => aQ (opr env (cC wE)) (D16 r n dCa (xs x0 0 (K1 (bC r n) 12)) (K1 (bC r n) 12) env h) (D16 r n vU (xs x0 0 (K1 (bC r n) 12)) (K1 (bC r n) 12) env h))).trans (by rw [cGk r n]; kernel_rfl)
theorem bWk : D16 r n vE (xs x0 0 (K1 (bC r n) 12)) (K1 (bC r n) 12) = D16 r n bKg (xs x0 0 (K1 (bC r n) 12)) (K4 (aFm r n) 11 12 42 54) :=
 congrArg (fun k => D16 r n bKg (xs x0 0 (K1 (bC r n) 12)) k) (cNh r n)
theorem cDp : D16 r n vE (xs x0 0 (K1 (bC r n) 12)) (K1 (bC r n) 12) = (K3 (bKq r n) 11 12 42) :=
 (bWk r n).trans
 ((by kernel_rfl))
theorem cFe : D16 r n xN (xs x0 0 (K1 (bC r n) 12)) (K1 (bC r n) 12) = (K4 (zQ r n) 11 12 42 48) :=
 (by kernel_rfl : D16 r n xN (xs x0 0 (K1 (bC r n) 12)) (K1 (bC r n) 12) = (fun (env : aY) (h : Hp) => aQ (opr env (cC xN)) (D16 r n cUd (xs x0 0 (K1 (bC r n) 12)) (K1 (bC r n) 12) env h) (D16 r n vE (xs x0 0 (K1 (bC r n) 12)) (K1 (bC r n) 12) env h))).trans (by rw [cDp r n]; kernel_rfl)
theorem cSl : D16 r n wG (xs x0 0 (K1 (bC r n) 12)) (K1 (bC r n) 12) = D16 r n bPg (xs x0 0 (K1 (bC r n) 12)) (K4 (zQ r n) 11 12 42 48) :=
 congrArg (fun k => D16 r n bPg (xs x0 0 (K1 (bC r n) 12)) k) (cFe r n)
theorem cVc : D16 r n wG (xs x0 0 (K1 (bC r n) 12)) (K1 (bC r n) 12) = (K3 (cTm r n) 11 12 42) :=
 (cSl r n).trans
 ((by kernel_rfl))
theorem cZl : D16 r n yD (xs x0 0 (K1 (bC r n) 12)) (K1 (bC r n) 12) = (K4 (aWy r n) 11 12 42 43) :=
 (by kernel_rfl : D16 r n yD (xs x0 0 (K1 (bC r n) 12)) (K1 (bC r n) 12) = (fun (env : aY) (h : Hp) => aQ (opr env (cC yD)) (D16 r n dBt (xs x0 0 (K1 (bC r n) 12)) (K1 (bC r n) 12) env h) (D16 r n wG (xs x0 0 (K1 (bC r n) 12)) (K1 (bC r n) 12) env h))).trans (by rw [cVc r n]; kernel_rfl)
theorem cMo : D16 r n aXf (xs x0 0 (K1 (bC r n) 12)) (K1 (bC r n) 12) = D16 r n bQe (xs x0 0 (K1 (bC r n) 12)) (K4 (aWy r n) 11 12 42 43) :=
 congrArg (fun k => D16 r n bQe (xs x0 0 (K1 (bC r n) 12)) k) (cZl r n)
theorem dBh : D16 r n bPz x0 (K1 (bC r n) 12) = (K3 (bLn r n) 11 12 42) :=
 (by kernel_rfl : D16 r n bPz x0 (K1 (bC r n) 12) = D16 r n aXf (xs x0 0 (K1 (bC r n) 12)) (K1 (bC r n) 12)).trans
 ((cMo r n).trans
 ((by kernel_rfl)))
theorem cQz : D16 r n bBc x0 r16 = D16 r n aMz x0 (K1 (bC r n) 12) :=
 congrArg (fun k => D16 r n aMz x0 k) (cXx r n)
theorem cLk : D16 r n aMz x0 (K1 (bC r n) 12) = D16 r n bYw x0 (K3 (bLn r n) 11 12 42) :=
 congrArg (fun k => D16 r n bYw x0 k) (dBh r n)
theorem cWv : D16 r n bBc x0 r16 = (K3 (cAy r n) 1 11 12) :=
 (cQz r n).trans
 ((cLk r n).trans
 ((by kernel_rfl)))
theorem cMd : D16 r n aWl x0 r16 = D16 r n bOf x0 (K3 (cAy r n) 1 11 12) :=
 congrArg (fun k => D16 r n bOf x0 k) (cWv r n)
theorem cVh : D16 r n aWl x0 r16 = (K2 (nC r n) 1 11) :=
 (cMd r n).trans
 ((by kernel_rfl))
theorem bKi : D16 r n aZq x0 r16 = D16 r n aTf x0 (K2 (nC r n) 1 11) :=
 congrArg (fun k => D16 r n aTf x0 k) (cVh r n)
theorem bNh (q0 : gJ) : D16 r n aTf x0 (K2 q0 1 11) = fun (env : aY) (h : Hp) =>
 bnd (bB [.p0, (aE 0), (aE 0), .l0] [(0, 1, (env 0)), (1, 1, (env 1)), (2, 1, (env 2)), (3, 1, (env 3))] h) fun v1 h1 =>
 bnd (bS v1 h1) fun v2 h2 =>
  q0 (env 1) v2 h2 := by kernel_rfl
theorem bDz : (fun (env : aY) (h : Hp) =>
 bnd (bB [.p0, (aE 0), (aE 0), .l0] [(0, 1, (env 0)), (1, 1, (env 1)), (2, 1, (env 2)), (3, 1, (env 3))] h) fun v1 h1 =>
 bnd (bS v1 h1) fun v2 h2 =>
  nC r n (env 1) v2 h2) = (K4 (wA r n) 0 1 2 3) := by kernel_rfl
theorem dCu : D16 r n aZq x0 r16 = (K4 (wA r n) 0 1 2 3) :=
 (bKi r n).trans
 ((bNh r n (nC r n)).trans (bDz r n))
theorem bKf : D16 r n aWx x0 r16 = D16 r n bNn x0 (K4 (wA r n) 0 1 2 3) :=
 congrArg (fun k => D16 r n bNn x0 k) (dCu r n)
theorem dEp : D16 r n aWx x0 r16 = (K5 (aAz r n) 0 1 2 3 10) :=
 (bKf r n).trans
 ((by kernel_rfl))
theorem bTr : D16 r n aYf x0 r16 = D16 r n aVi x0 (K5 (aAz r n) 0 1 2 3 10) :=
 congrArg (fun k => D16 r n aVi x0 k) (dEp r n)
theorem bPw (q0 : cE) : D16 r n aVi x0 (K5 q0 0 1 2 3 10) = fun (env : aY) (h : Hp) =>
 bnd (r 23 [(env 0)] h) fun v1 h1 =>
 bnd (bL [.p0] h1) fun v2 h2 =>
 bnd (aG 1 v2 v1 h2) fun _ h3 =>
  q0 (env 0) (env 1) (env 2) (env 3) v2 h3 := by kernel_rfl
theorem bHq : (fun (env : aY) (h : Hp) =>
 bnd (r 23 [(env 0)] h) fun v1 h1 =>
 bnd (bL [.p0] h1) fun v2 h2 =>
 bnd (aG 1 v2 v1 h2) fun _ h3 =>
  aAz r n (env 0) (env 1) (env 2) (env 3) v2 h3) = (K4 (aMj r n) 0 1 2 3) := by kernel_rfl
theorem cZv : D16 r n aYf x0 r16 = (K4 (aMj r n) 0 1 2 3) :=
 (bTr r n).trans
 ((bPw r n (aAz r n)).trans (bHq r n))
theorem dBx : D16 r n c16 x0 r16 = D16 r n bLl x0 (K4 (aMj r n) 0 1 2 3) :=
 congrArg (fun k => D16 r n bLl x0 k) (cZv r n)
theorem dQq : D16 r n c16 x0 r16 = (K4 (s16 r n) 0 1 2 3) :=
 (dBx r n).trans
 ((by kernel_rfl))
theorem cSv : aF CF r n 16 args h = s16 r n (aS args 0) (aS args 1) (aS args 2) (aS args 3) h :=
 (by kernel_rfl : aF CF r n 16 args h = D16 r n c16 x0 r16 (aI args) h).trans ((congrFun (congrFun (dQq r n) (aI args)) h).trans (by kernel_rfl))
noncomputable def s17 (r : RT) (n : Nat) (x0 : DV) (h0 : Hp) : aJ :=
 aQ x0 (
 some ((aE 2), h0)) (
 some ((aE 4), h0))
noncomputable abbrev c17 : Code := cf Tryz.f17
noncomputable abbrev r17 : K := aT CF Tryz.f17
noncomputable def D17 (r : RT) (n : Nat) (c : Code) (X : Nat → K) (k : K) : K := aM CF r 4 n c X r17 k
theorem dRf : D17 r n c17 x0 r17 = (K1 (s17 r n) 0) :=
 (by kernel_rfl)
theorem dHw : aF CF r n 17 args h = s17 r n (aS args 0) h :=
 (by kernel_rfl : aF CF r n 17 args h = D17 r n c17 x0 r17 (aI args) h).trans ((congrFun (congrFun (dRf r n) (aI args)) h).trans (by kernel_rfl))
noncomputable def s23 (r : RT) (n : Nat) (x0 : DV) (h0 : Hp) : aJ :=
 bnd (aR x0 h0) fun v1 h1 =>
 bnd (aB 0 v1 h1) fun v2 h2 =>
 bnd (aA v2 h2) fun v3 h3 =>
 some (v3, h3)
noncomputable abbrev c23 : Code := cf Tryz.f23
noncomputable abbrev r23 : K := aT CF Tryz.f23
noncomputable def D23 (r : RT) (n : Nat) (c : Code) (X : Nat → K) (k : K) : K := aM CF r 7 n c X r23 k
theorem dNv : D23 r n c23 x0 r23 = (K1 (s23 r n) 0) :=
 (by kernel_rfl)
theorem cSq : aF CF r n 23 args h = s23 r n (aS args 0) h :=
 (by kernel_rfl : aF CF r n 23 args h = D23 r n c23 x0 r23 (aI args) h).trans ((congrFun (congrFun (dNv r n) (aI args)) h).trans (by kernel_rfl))
noncomputable def s25 (r : RT) (n : Nat) (x0 x1 : DV) (h0 : Hp) : aJ :=
 bnd (aR x0 h0) fun v1 h1 =>
 bnd (aB 0 v1 h1) fun v2 h2 =>
 bnd (aA v2 h2) fun v3 h3 =>
 bnd (isF [v3, x1] h3) fun v4 h4 =>
 aQ v4 (
 bnd (aR x0 h4) fun v5 h5 =>
 bnd (aB 0 v5 h5) fun v6 h6 =>
 bnd (aA v6 h6) fun v7 h7 =>
 bnd (iR [v7, x1] h7) fun v8 h8 =>
 some (v8, h8)) (
 bnd (gT [x1] h4) fun v9 h9 =>
 aQ v9 (
 bnd (r 30 [x0, (aE 7)] h9) fun v10 h10 =>
 some (v10, h10)) (
 bnd (aD .eql x1 (aE 0) h9) fun v11 h11 =>
 aQ v11 (
 bnd (r 30 [x0, (aE 2)] h11) fun v12 h12 =>
 some (v12, h12)) (
 bnd (aD .eql x1 (aE 2) h11) fun v13 h13 =>
 aQ v13 (
 bnd (r 30 [x0, (aE 4)] h13) fun v14 h14 =>
 some (v14, h14)) (
 bnd (aD .eql x1 (aE 4) h13) fun v15 h15 =>
 aQ v15 (
 bnd (r 30 [x0, (aE 5)] h15) fun v16 h16 =>
 some (v16, h16)) (
 some ((aE 0), h15))))))
noncomputable abbrev c25 : Code := cf Tryz.f25
noncomputable abbrev r25 : K := aT CF Tryz.f25
noncomputable def D25 (r : RT) (n : Nat) (c : Code) (X : Nat → K) (k : K) : K := aM CF r 38 n c X r25 k
theorem dRc : D25 r n c25 x0 r25 = (K2 (s25 r n) 0 1) :=
 (by kernel_rfl)
theorem cSs : aF CF r n 25 args h = s25 r n (aS args 0) (aS args 1) h :=
 (by kernel_rfl : aF CF r n 25 args h = D25 r n c25 x0 r25 (aI args) h).trans ((congrFun (congrFun (dRc r n) (aI args)) h).trans (by kernel_rfl))
noncomputable def s30 (r : RT) (n : Nat) (x0 x1 : DV) (h0 : Hp) : aJ :=
 bnd (aD .lss x1 (aE 0) h0) fun v1 h1 =>
 bnd (gD v1 false (some (x1, h1)) h1) fun v2 h2 =>
 bnd (gD v1 false (aD .geq v2 (aE 16) h2) h2) fun v3 h3 =>
 bnd (aO v1 (.b true) v3 h3) fun v4 h4 =>
 aQ v4 (
 some ((aE 0), h4)) (
 bnd (aR x0 h4) fun v5 h5 =>
 bnd (aB 1 v5 h5) fun v6 h6 =>
 bnd (aA v6 h6) fun v7 h7 =>
 bnd (aD .add (aE 2) x1 h7) fun v8 h8 =>
 bnd (aH 1 v7 v8 h8) fun v9 h9 =>
 bnd (aA v9 h9) fun v10 h10 =>
 some (v10, h10))
noncomputable abbrev c30 : Code := cf Tryz.f30
noncomputable abbrev r30 : K := aT CF Tryz.f30
noncomputable def D30 (r : RT) (n : Nat) (c : Code) (X : Nat → K) (k : K) : K := aM CF r 19 n c X r30 k
theorem dQt : D30 r n c30 x0 r30 = (K2 (s30 r n) 0 1) :=
 (by kernel_rfl)
theorem cCu : aF CF r n 30 args h = s30 r n (aS args 0) (aS args 1) h :=
 (by kernel_rfl : aF CF r n 30 args h = D30 r n c30 x0 r30 (aI args) h).trans ((congrFun (congrFun (dQt r n) (aI args)) h).trans (by kernel_rfl))
noncomputable def s32 (r : RT) (n : Nat) (x0 x1 : DV) (h0 : Hp) : aJ :=
 bnd (r 67 [x0, x1] h0) fun v1 h1 =>
 bnd (gI .not v1 h1) fun v2 h2 =>
 aQ v2 (
 some ((.i .i64 (Int.negSucc 0)), h2)) (
 bnd (r 51 [x0, x1, (aE 5)] h2) fun v3 h3 =>
 bnd (jZ [v3] h3) fun v4 h4 =>
 some (v4, h4))
noncomputable abbrev c32 : Code := cf Tryz.f32
noncomputable abbrev r32 : K := aT CF Tryz.f32
noncomputable def D32 (r : RT) (n : Nat) (c : Code) (X : Nat → K) (k : K) : K := aM CF r 13 n c X r32 k
theorem dNl : D32 r n c32 x0 r32 = (K2 (s32 r n) 0 1) :=
 (by kernel_rfl)
theorem cTj : aF CF r n 32 args h = s32 r n (aS args 0) (aS args 1) h :=
 (by kernel_rfl : aF CF r n 32 args h = D32 r n c32 x0 r32 (aI args) h).trans ((congrFun (congrFun (dNl r n) (aI args)) h).trans (by kernel_rfl))
noncomputable def fQ (r : RT) (n : Nat) (x7 : DV) (h0 : Hp) : aJ :=
 bnd (fT x7 h0) fun v1 h1 =>
 some (.t [v1, (.b true)], h1)
noncomputable def oB (r : RT) (n : Nat) (kk7 : cE) (x0 x1 x7 x48 x49 : DV) (h0 : Hp) : aJ :=
 bnd (aD .lss x49 x48 h0) fun v1 h1 =>
 aQ v1 (
 bnd (r 51 [x0, x1, x49] h1) fun v2 h2 =>
 bnd (dU .u8 v2 h2) fun v3 h3 =>
 bnd (aL [(.i .u8 (Int.ofNat 0))] 1 [(0, 1, v3)] h3) fun v4 h4 =>
 bnd (aZ 1 1 x7 v4 h4) fun v5 h5 =>
 bnd (aD .add x49 (aE 1) h5) fun v6 h6 =>
      kk7 x0 x1 v5 x48 v6 h6) (
      fQ r n x7 h1)
noncomputable def nT (r : RT) (n : Nat) (m : Nat) : cE :=
 Nat.rec (motive := fun _ => cE) (fun _ _ _ _ _ _ => none) (fun _ ih => oB r n ih) m
noncomputable def bPc (r : RT) (n : Nat) : cE := nT r n n
noncomputable def aVl (r : RT) (n : Nat) (x0 x1 x7 x48 x49 : DV) (h0 : Hp) : aJ :=
 bPc r n x0 x1 x7 x48 x49 h0
noncomputable def bBy (r : RT) (n : Nat) (x0 x1 x7 : DV) (h0 : Hp) : aJ :=
 bnd (aR x0 h0) fun v1 h1 =>
 bnd (aB 0 v1 h1) fun v2 h2 =>
 bnd (aA v2 h2) fun v3 h3 =>
 bnd (gO [v3, x1] h3) fun v4 h4 =>
  aVl r n x0 x1 x7 v4 (aE 0) h4
noncomputable def aOa (r : RT) (n : Nat) (x0 x1 : DV) (h0 : Hp) : aJ :=
 bBy r n x0 x1 .l0 h0
noncomputable def bCk (r : RT) (n : Nat) (x0 x1 x6 : DV) (h0 : Hp) : aJ :=
 bnd (aR x0 h0) fun v1 h1 =>
 bnd (aB 0 v1 h1) fun v2 h2 =>
 bnd (aA v2 h2) fun v3 h3 =>
 bnd (isF [v3, x1] h3) fun v4 h4 =>
 bnd (gI .not v4 h4) fun v5 h5 =>
 bnd (gD v5 false (some (x6, h5)) h5) fun v6 h6 =>
 bnd (gD v5 false (some (x0, h6)) h6) fun v7 h7 =>
 bnd (gD v5 false (r 30 [v7, (aE 10)] h7) h7) fun v8 h8 =>
 bnd (gD v5 false (aD .neq v6 v8 h8) h8) fun v9 h9 =>
 bnd (gD v5 false (some (v9, h9)) h9) fun v10 h10 =>
 bnd (gD v10 true (some (x6, h10)) h10) fun v11 h11 =>
 bnd (gD v10 true (some (x0, h11)) h11) fun v12 h12 =>
 bnd (gD v10 true (r 30 [v12, (aE 11)] h12) h12) fun v13 h13 =>
 bnd (gD v10 true (aD .neq v11 v13 h13) h13) fun v14 h14 =>
 bnd (gD v5 false (aO v10 v14 (.b false) h14) h14) fun v15 h15 =>
 bnd (aO v5 (.b true) v15 h15) fun v16 h16 =>
 bnd (gD v16 false (some (x0, h16)) h16) fun v17 h17 =>
 bnd (gD v16 false (aR v17 h17) h17) fun v18 h18 =>
 bnd (gD v16 false (aB 0 v18 h18) h18) fun v19 h19 =>
 bnd (gD v16 false (aA v19 h19) h19) fun v20 h20 =>
 bnd (gD v16 false (some (x1, h20)) h20) fun v21 h21 =>
 bnd (gD v16 false (jT [v20, v21] h21) h21) fun v22 h22 =>
 bnd (gD v16 false (aD .neq v22 (aE 2) h22) h22) fun v23 h23 =>
 bnd (aO v16 (.b true) v23 h23) fun v24 h24 =>
 aQ v24 (
 some (.t [(.s []), (.b false)], h24)) (
  aOa r n x0 x1 h24)
noncomputable def bCa (r : RT) (n : Nat) (x0 x1 : DV) (h0 : Hp) : aJ :=
 bnd (aR x0 h0) fun v1 h1 =>
 bnd (aB 0 v1 h1) fun v2 h2 =>
 bnd (aA v2 h2) fun v3 h3 =>
 bnd (iR [v3, x1] h3) fun v4 h4 =>
  bCk r n x0 x1 v4 h4
noncomputable def s33 (r : RT) (n : Nat) (x0 x1 : DV) (h0 : Hp) : aJ :=
 bCa r n x0 x1 h0
noncomputable abbrev c33 : Code := cf Tryz.f33
noncomputable abbrev aXl : Code := cR c33
noncomputable abbrev aZs : Code := cR aXl
noncomputable abbrev aYb : Code := cR aZs
noncomputable abbrev aYp : Code := cR aYb
noncomputable abbrev dJu : Code := cR aYp
noncomputable abbrev aNp : Code := cL aYp
noncomputable abbrev bNb : Code := cR aNp
noncomputable abbrev bAh : Code := cL bNb
noncomputable abbrev rP : Code := cL bAh
noncomputable abbrev cAx : Code := cL aNp
noncomputable abbrev cCo : Code := cL aYb
noncomputable abbrev bOt : Code := cL aZs
noncomputable abbrev bSw : Code := cL aXl
noncomputable abbrev bYi : Code := cL c33
noncomputable abbrev r33 : K := aT CF Tryz.f33
noncomputable def D33 (r : RT) (n : Nat) (c : Code) (X : Nat → K) (k : K) : K := aM CF r 63 n c X r33 k
theorem cXv : D33 r n dJu x0 r33 = (K1 (fQ r n) 7) :=
 (by kernel_rfl)
theorem cQu (kk7 : cE) (q0 : TT1) : D33 r n rP (xs x0 0 (K1 q0 7)) (K5 kk7 0 1 7 48 49) = fun (env : aY) (h : Hp) =>
 bnd (aD .lss (env 49) (env 48) h) fun v1 h1 =>
 aQ v1 (
 bnd (r 51 [(env 0), (env 1), (env 49)] h1) fun v2 h2 =>
 bnd (dU .u8 v2 h2) fun v3 h3 =>
 bnd (aL [(.i .u8 (Int.ofNat 0))] 1 [(0, 1, v3)] h3) fun v4 h4 =>
 bnd (aZ 1 1 (env 7) v4 h4) fun v5 h5 =>
 bnd (aD .add (env 49) (aE 1) h5) fun v6 h6 =>
      kk7 (env 0) (env 1) v5 (env 48) v6 h6) (
      q0 (env 7) h1) := by kernel_rfl
theorem bTw (kk7 : cE) : (fun (env : aY) (h : Hp) =>
 bnd (aD .lss (env 49) (env 48) h) fun v1 h1 =>
 aQ v1 (
 bnd (r 51 [(env 0), (env 1), (env 49)] h1) fun v2 h2 =>
 bnd (dU .u8 v2 h2) fun v3 h3 =>
 bnd (aL [(.i .u8 (Int.ofNat 0))] 1 [(0, 1, v3)] h3) fun v4 h4 =>
 bnd (aZ 1 1 (env 7) v4 h4) fun v5 h5 =>
 bnd (aD .add (env 49) (aE 1) h5) fun v6 h6 =>
      kk7 (env 0) (env 1) v5 (env 48) v6 h6) (
      fQ r n (env 7) h1)) = (K5 (oB r n kk7) 0 1 7 48 49) := by kernel_rfl
theorem cQn (kk7 : cE) : D33 r n rP (xs x0 0 (K1 (fQ r n) 7)) (K5 kk7 0 1 7 48 49) = (K5 (oB r n kk7) 0 1 7 48 49) :=
 (cQu r n kk7 (fQ r n)).trans (bTw r n kk7)
theorem cJk (m : Nat) : aN (fun kk => D33 r n rP (xs x0 0 (K1 (fQ r n) 7)) kk) m = (K5 (nT r n m) 0 1 7 48 49) := by
 induction m with
 | zero => exact (by kernel_rfl : aN (fun kk => D33 r n rP (xs x0 0 (K1 (fQ r n) 7)) kk) 0 = (K5 (nT r n 0) 0 1 7 48 49))
 | succ m ih =>
  refine (by kernel_rfl : aN (fun kk => D33 r n rP (xs x0 0 (K1 (fQ r n) 7)) kk) (m + 1) = D33 r n rP (xs x0 0 (K1 (fQ r n) 7)) (aN (fun kk => D33 r n rP (xs x0 0 (K1 (fQ r n) 7)) kk) m)).trans ?_
  rw [ih]
  exact (cQn r n (nT r n m)).trans (by kernel_rfl)
theorem dCc : D33 r n bAh (xs x0 0 (K1 (fQ r n) 7)) (K1 (fQ r n) 7) = (K5 (bPc r n) 0 1 7 48 49) :=
 (by kernel_rfl : D33 r n bAh (xs x0 0 (K1 (fQ r n) 7)) (K1 (fQ r n) 7) = aN (fun kk => D33 r n rP (xs x0 0 (K1 (fQ r n) 7)) kk) n).trans ((cJk r n n).trans (by kernel_rfl))
theorem dDn : D33 r n bNb x0 (K1 (fQ r n) 7) = (K5 (aVl r n) 0 1 7 48 49) :=
 (by kernel_rfl : D33 r n bNb x0 (K1 (fQ r n) 7) = D33 r n bAh (xs x0 0 (K1 (fQ r n) 7)) (K1 (fQ r n) 7)).trans
 ((dCc r n).trans (by kernel_rfl))
theorem cPx : D33 r n aYp x0 r33 = D33 r n aNp x0 (K1 (fQ r n) 7) :=
 congrArg (fun k => D33 r n aNp x0 k) (cXv r n)
theorem cQe : D33 r n aNp x0 (K1 (fQ r n) 7) = D33 r n cAx x0 (K5 (aVl r n) 0 1 7 48 49) :=
 congrArg (fun k => D33 r n cAx x0 k) (dDn r n)
theorem dDp : D33 r n aYp x0 r33 = (K3 (bBy r n) 0 1 7) :=
 (cPx r n).trans
 ((cQe r n).trans
 ((by kernel_rfl)))
theorem cOf : D33 r n aYb x0 r33 = D33 r n cCo x0 (K3 (bBy r n) 0 1 7) :=
 congrArg (fun k => D33 r n cCo x0 k) (dDp r n)
theorem dCz : D33 r n aYb x0 r33 = (K2 (aOa r n) 0 1) :=
 (cOf r n).trans
 ((by kernel_rfl))
theorem cFf : D33 r n aZs x0 r33 = D33 r n bOt x0 (K2 (aOa r n) 0 1) :=
 congrArg (fun k => D33 r n bOt x0 k) (dCz r n)
theorem cUv : D33 r n aZs x0 r33 = (K3 (bCk r n) 0 1 6) :=
 (cFf r n).trans
 ((by kernel_rfl))
theorem cCy : D33 r n aXl x0 r33 = D33 r n bSw x0 (K3 (bCk r n) 0 1 6) :=
 congrArg (fun k => D33 r n bSw x0 k) (cUv r n)
theorem cYt : D33 r n aXl x0 r33 = (K2 (bCa r n) 0 1) :=
 (cCy r n).trans
 ((by kernel_rfl))
theorem dHm : D33 r n c33 x0 r33 = D33 r n bYi x0 (K2 (bCa r n) 0 1) :=
 congrArg (fun k => D33 r n bYi x0 k) (cYt r n)
theorem dQb : D33 r n c33 x0 r33 = (K2 (s33 r n) 0 1) :=
 (dHm r n).trans
 ((by kernel_rfl))
theorem cTn : aF CF r n 33 args h = s33 r n (aS args 0) (aS args 1) h :=
 (by kernel_rfl : aF CF r n 33 args h = D33 r n c33 x0 r33 (aI args) h).trans ((congrFun (congrFun (dQb r n) (aI args)) h).trans (by kernel_rfl))
noncomputable def s34 (r : RT) (n : Nat) (x0 x1 : DV) (h0 : Hp) : aJ :=
 bnd (r 67 [x0, x1] h0) fun v1 h1 =>
 bnd (gI .not v1 h1) fun v2 h2 =>
 aQ v2 (
 some ((.s []), h2)) (
 bnd (r 51 [x0, x1, (aE 0)] h2) fun v3 h3 =>
 bnd (r 33 [x0, v3] h3) fun v4 h4 =>
 bnd (aC 0 v4 h4) fun v5 h5 =>
 bnd (aC 1 v4 h5) fun v6 h6 =>
 some (v5, h6))
noncomputable abbrev c34 : Code := cf Tryz.f34
noncomputable abbrev r34 : K := aT CF Tryz.f34
noncomputable def D34 (r : RT) (n : Nat) (c : Code) (X : Nat → K) (k : K) : K := aM CF r 20 n c X r34 k
theorem dPu : D34 r n c34 x0 r34 = (K2 (s34 r n) 0 1) :=
 (by kernel_rfl)
theorem cTb : aF CF r n 34 args h = s34 r n (aS args 0) (aS args 1) h :=
 (by kernel_rfl : aF CF r n 34 args h = D34 r n c34 x0 r34 (aI args) h).trans ((congrFun (congrFun (dPu r n) (aI args)) h).trans (by kernel_rfl))
noncomputable def s35 (r : RT) (n : Nat) (x0 x1 : DV) (h0 : Hp) : aJ :=
 bnd (r 67 [x0, x1] h0) fun v1 h1 =>
 bnd (gI .not v1 h1) fun v2 h2 =>
 aQ v2 (
 some ((aE 0), h2)) (
 bnd (r 51 [x0, x1, (aE 1)] h2) fun v3 h3 =>
 some (v3, h3))
noncomputable abbrev c35 : Code := cf Tryz.f35
noncomputable abbrev r35 : K := aT CF Tryz.f35
noncomputable def D35 (r : RT) (n : Nat) (c : Code) (X : Nat → K) (k : K) : K := aM CF r 12 n c X r35 k
theorem dNi : D35 r n c35 x0 r35 = (K2 (s35 r n) 0 1) :=
 (by kernel_rfl)
theorem cSx : aF CF r n 35 args h = s35 r n (aS args 0) (aS args 1) h :=
 (by kernel_rfl : aF CF r n 35 args h = D35 r n c35 x0 r35 (aI args) h).trans ((congrFun (congrFun (dNi r n) (aI args)) h).trans (by kernel_rfl))
end Go.Dd

namespace Go.Dd
open Go.Proofs
variable (r : RT) (n : Nat) (args : List DV) (h : Hp)
noncomputable def s37 (r : RT) (n : Nat) (x0 x1 : DV) (h0 : Hp) : aJ :=
 bnd (r 67 [x0, x1] h0) fun v1 h1 =>
 bnd (gI .not v1 h1) fun v2 h2 =>
 aQ v2 (
 some ((aE 0), h2)) (
 bnd (r 51 [x0, x1, (aE 2)] h2) fun v3 h3 =>
 bnd (jZ [v3] h3) fun v4 h4 =>
 some (v4, h4))
noncomputable abbrev c37 : Code := cf Tryz.f37
noncomputable abbrev r37 : K := aT CF Tryz.f37
noncomputable def D37 (r : RT) (n : Nat) (c : Code) (X : Nat → K) (k : K) : K := aM CF r 13 n c X r37 k
theorem dQj : D37 r n c37 x0 r37 = (K2 (s37 r n) 0 1) :=
 (by kernel_rfl)
theorem dGw : aF CF r n 37 args h = s37 r n (aS args 0) (aS args 1) h :=
 (by kernel_rfl : aF CF r n 37 args h = D37 r n c37 x0 r37 (aI args) h).trans ((congrFun (congrFun (dQj r n) (aI args)) h).trans (by kernel_rfl))
noncomputable def cP (r : RT) (n : Nat) (h0 : Hp) : aJ :=
 some ((.i .i64 (Int.negSucc 0)), h0)
noncomputable def aNc (r : RT) (n : Nat) (x24 : DV) (h0 : Hp) : aJ :=
 aQ x24 (
 some ((aE 2), h0)) (
  cP r n h0)
noncomputable def cBt (r : RT) (n : Nat) (x3 : DV) (h0 : Hp) : aJ :=
 bnd (aD .eql x3 (aE 21) h0) fun v1 h1 =>
 aQ v1 (
  aNc r n v1 h1) (
 bnd (aD .eql x3 (aE 51) h1) fun v2 h2 =>
  aNc r n v2 h2)
noncomputable def iT (r : RT) (n : Nat) (x3 x10 : DV) (h0 : Hp) : aJ :=
 aQ x10 (
 some ((aE 1), h0)) (
  cBt r n x3 h0)
noncomputable def bTx (r : RT) (n : Nat) (x3 : DV) (h0 : Hp) : aJ :=
 bnd (aD .eql x3 (aE 1) h0) fun v1 h1 =>
 aQ v1 (
  iT r n x3 v1 h1) (
 bnd (aD .eql x3 (aE 2) h1) fun v2 h2 =>
 aQ v2 (
   iT r n x3 v2 h2) (
 bnd (aD .eql x3 (aE 3) h2) fun v3 h3 =>
 aQ v3 (
    iT r n x3 v3 h3) (
 bnd (aD .eql x3 (aE 4) h3) fun v4 h4 =>
 aQ v4 (
     iT r n x3 v4 h4) (
 bnd (aD .eql x3 (aE 5) h4) fun v5 h5 =>
 aQ v5 (
      iT r n x3 v5 h5) (
 bnd (aD .eql x3 (aE 6) h5) fun v6 h6 =>
 aQ v6 (
       iT r n x3 v6 h6) (
 bnd (aD .eql x3 (aE 7) h6) fun v7 h7 =>
 aQ v7 (
        iT r n x3 v7 h7) (
 bnd (aD .eql x3 (aE 10) h7) fun v8 h8 =>
 aQ v8 (
         iT r n x3 v8 h8) (
 bnd (aD .eql x3 (aE 20) h8) fun v9 h9 =>
 aQ v9 (
          iT r n x3 v9 h9) (
 bnd (aD .eql x3 (aE 24) h9) fun v10 h10 =>
 aQ v10 (
           iT r n x3 v10 h10) (
 bnd (aD .eql x3 (aE 25) h10) fun v11 h11 =>
 aQ v11 (
            iT r n x3 v11 h11) (
 bnd (aD .eql x3 (aE 26) h11) fun v12 h12 =>
 aQ v12 (
             iT r n x3 v12 h12) (
 bnd (aD .eql x3 (aE 50) h12) fun v13 h13 =>
             iT r n x3 v13 h13))))))))))))
noncomputable def rW (r : RT) (n : Nat) (x3 x4 : DV) (h0 : Hp) : aJ :=
 aQ x4 (
 some ((aE 0), h0)) (
  bTx r n x3 h0)
noncomputable def bBn (r : RT) (n : Nat) (x3 : DV) (h0 : Hp) : aJ :=
 bnd (aD .eql x3 (aE 11) h0) fun v1 h1 =>
 aQ v1 (
  rW r n x3 v1 h1) (
 bnd (aD .eql x3 (aE 22) h1) fun v2 h2 =>
 aQ v2 (
   rW r n x3 v2 h2) (
 bnd (aD .eql x3 (aE 23) h2) fun v3 h3 =>
 aQ v3 (
    rW r n x3 v3 h3) (
 bnd (aD .eql x3 (aE 40) h3) fun v4 h4 =>
 aQ v4 (
     rW r n x3 v4 h4) (
 bnd (aD .eql x3 (aE 41) h4) fun v5 h5 =>
     rW r n x3 v5 h5))))
noncomputable def aYh (r : RT) (n : Nat) (x0 : DV) (h0 : Hp) : aJ :=
 bBn r n x0 h0
noncomputable def s39 (r : RT) (n : Nat) (x0 : DV) (h0 : Hp) : aJ :=
 aYh r n x0 h0
noncomputable abbrev c39 : Code := cf Tryz.f39
noncomputable abbrev bCq : Code := cR c39
noncomputable abbrev dGr : Code := cR bCq
noncomputable abbrev aLn : Code := cL bCq
noncomputable abbrev bSa : Code := cR aLn
noncomputable abbrev aXn : Code := cL bSa
noncomputable abbrev aNm : Code := cR aXn
noncomputable abbrev aMn : Code := cR aNm
noncomputable abbrev aMp : Code := cR aMn
noncomputable abbrev aLp : Code := cR aMp
noncomputable abbrev cVa : Code := cR aLp
noncomputable abbrev bWj : Code := cL aLp
noncomputable abbrev cYn : Code := cL aMp
noncomputable abbrev bXf : Code := cL aMn
noncomputable abbrev cWc : Code := cL aNm
noncomputable abbrev bWe : Code := cL aXn
noncomputable abbrev cAe : Code := cL aLn
noncomputable abbrev bLq : Code := cL c39
noncomputable abbrev r39 : K := aT CF Tryz.f39
noncomputable def D39 (r : RT) (n : Nat) (c : Code) (X : Nat → K) (k : K) : K := aM CF r 27 n c X r39 k
theorem dAo : D39 r n dGr x0 r39 = (K0 (cP r n)) :=
 (by kernel_rfl)
theorem cWy : D39 r n cVa (xs x0 0 (K0 (cP r n))) (K0 (cP r n)) = (K1 (aNc r n) 24) :=
 (by kernel_rfl)
theorem cSh : D39 r n aLp (xs x0 0 (K0 (cP r n))) (K0 (cP r n)) = D39 r n bWj (xs x0 0 (K0 (cP r n))) (K1 (aNc r n) 24) :=
 congrArg (fun k => D39 r n bWj (xs x0 0 (K0 (cP r n))) k) (cWy r n)
theorem dAp : D39 r n aLp (xs x0 0 (K0 (cP r n))) (K0 (cP r n)) = (K1 (cBt r n) 3) :=
 (cSh r n).trans
 ((by kernel_rfl))
theorem cWk : D39 r n aMp (xs x0 0 (K0 (cP r n))) (K0 (cP r n)) = (K2 (iT r n) 3 10) :=
 (by kernel_rfl : D39 r n aMp (xs x0 0 (K0 (cP r n))) (K0 (cP r n)) = (fun (env : aY) (h : Hp) => aQ (opr env (cC aMp)) (D39 r n cYn (xs x0 0 (K0 (cP r n))) (K0 (cP r n)) env h) (D39 r n aLp (xs x0 0 (K0 (cP r n))) (K0 (cP r n)) env h))).trans (by rw [dAp r n]; kernel_rfl)
theorem cLw : D39 r n aMn (xs x0 0 (K0 (cP r n))) (K0 (cP r n)) = D39 r n bXf (xs x0 0 (K0 (cP r n))) (K2 (iT r n) 3 10) :=
 congrArg (fun k => D39 r n bXf (xs x0 0 (K0 (cP r n))) k) (cWk r n)
theorem dEr : D39 r n aMn (xs x0 0 (K0 (cP r n))) (K0 (cP r n)) = (K1 (bTx r n) 3) :=
 (cLw r n).trans
 ((by kernel_rfl))
theorem dAj : D39 r n aNm (xs x0 0 (K0 (cP r n))) (K0 (cP r n)) = (K2 (rW r n) 3 4) :=
 (by kernel_rfl : D39 r n aNm (xs x0 0 (K0 (cP r n))) (K0 (cP r n)) = (fun (env : aY) (h : Hp) => aQ (opr env (cC aNm)) (D39 r n cWc (xs x0 0 (K0 (cP r n))) (K0 (cP r n)) env h) (D39 r n aMn (xs x0 0 (K0 (cP r n))) (K0 (cP r n)) env h))).trans (by rw [dEr r n]; kernel_rfl)
theorem cHz : D39 r n aXn (xs x0 0 (K0 (cP r n))) (K0 (cP r n)) = D39 r n bWe (xs x0 0 (K0 (cP r n))) (K2 (rW r n) 3 4) :=
 congrArg (fun k => D39 r n bWe (xs x0 0 (K0 (cP r n))) k) (dAj r n)
theorem dFf : D39 r n bSa x0 (K0 (cP r n)) = (K1 (bBn r n) 3) :=
 (by kernel_rfl : D39 r n bSa x0 (K0 (cP r n)) = D39 r n aXn (xs x0 0 (K0 (cP r n))) (K0 (cP r n))).trans
 ((cHz r n).trans
 ((by kernel_rfl)))
theorem cGs : D39 r n bCq x0 r39 = D39 r n aLn x0 (K0 (cP r n)) :=
 congrArg (fun k => D39 r n aLn x0 k) (dAo r n)
theorem cRz : D39 r n aLn x0 (K0 (cP r n)) = D39 r n cAe x0 (K1 (bBn r n) 3) :=
 congrArg (fun k => D39 r n cAe x0 k) (dFf r n)
theorem dDh : D39 r n bCq x0 r39 = (K1 (aYh r n) 0) :=
 (cGs r n).trans
 ((cRz r n).trans
 ((by kernel_rfl)))
theorem dJh : D39 r n c39 x0 r39 = D39 r n bLq x0 (K1 (aYh r n) 0) :=
 congrArg (fun k => D39 r n bLq x0 k) (dDh r n)
theorem dQk : D39 r n c39 x0 r39 = (K1 (s39 r n) 0) :=
 (dJh r n).trans
 ((by kernel_rfl))
theorem cTf : aF CF r n 39 args h = s39 r n (aS args 0) h :=
 (by kernel_rfl : aF CF r n 39 args h = D39 r n c39 x0 r39 (aI args) h).trans ((congrFun (congrFun (dQk r n) (aI args)) h).trans (by kernel_rfl))
noncomputable def eW (r : RT) (n : Nat) (x5 : DV) (h0 : Hp) : aJ :=
 some (.t [x5, (aE 0)], h0)
noncomputable def jU (r : RT) (n : Nat) (kk9 : dQ) (x5 x155 x156 x157 : DV) (h0 : Hp) : aJ :=
 bnd (aD .lss x157 x156 h0) fun v1 h1 =>
 aQ v1 (
 bnd (aH 1 x155 x157 h1) fun v2 h2 =>
 bnd (aA v2 h2) fun v3 h3 =>
 bnd (aH 1 v3 (aE 0) h3) fun v4 h4 =>
 bnd (aA v4 h4) fun v5 h5 =>
 bnd (aH 1 v3 (aE 1) h5) fun v6 h6 =>
 bnd (aA v6 h6) fun v7 h7 =>
 bnd (r 75 [x5, v5, v7] h7) fun v8 h8 =>
 bnd (aC 0 v8 h8) fun v9 h9 =>
 bnd (aC 1 v8 h9) fun v10 h10 =>
 bnd (aC 2 v8 h10) fun v11 h11 =>
 bnd (aC 3 v8 h11) fun v12 h12 =>
 bnd (aD .neq v12 (aE 0) h12) fun v13 h13 =>
 aQ v13 (
 some (.t [.p0, v12], h13)) (
 bnd (aD .add x157 (aE 1) h13) fun v14 h14 =>
    kk9 x5 x155 x156 v14 h14)) (
      eW r n x5 h1)
noncomputable def jY (r : RT) (n : Nat) (m : Nat) : dQ :=
 Nat.rec (motive := fun _ => dQ) (fun _ _ _ _ _ => none) (fun _ ih => jU r n ih) m
noncomputable def bBv (r : RT) (n : Nat) : dQ := jY r n n
noncomputable def bLb (r : RT) (n : Nat) (x5 x155 x156 x157 : DV) (h0 : Hp) : aJ :=
 bBv r n x5 x155 x156 x157 h0
noncomputable def bF (r : RT) (n : Nat) (x5 : DV) (h0 : Hp) : aJ :=
 bnd (r 74 [] h0) fun v1 h1 =>
 bnd (bX v1 h1) fun v2 h2 =>
  bLb r n x5 v1 v2 (aE 0) h2
noncomputable def bA (r : RT) (n : Nat) (kk11 : cE) (x4 x5 x59 x60 x61 : DV) (h0 : Hp) : aJ :=
 bnd (aD .add x61 (aE 1) h0) fun v1 h1 =>
  kk11 x4 x5 x59 x60 v1 h1
noncomputable def eU (r : RT) (n : Nat) (kk11 : cE) (x4 x5 x8 x9 x59 x60 x61 : DV) (h0 : Hp) : aJ :=
 bnd (aR x5 h0) fun v1 h1 =>
 bnd (aB 1 v1 h1) fun v2 h2 =>
 bnd (aA v2 h2) fun v3 h3 =>
 bnd (aR x5 h3) fun v4 h4 =>
 bnd (aB 1 v4 h4) fun v5 h5 =>
 bnd (aA v5 h5) fun v6 h6 =>
 bnd (aH 1 v6 (aE 1) h6) fun v7 h7 =>
 bnd (aA v7 h7) fun v8 h8 =>
 bnd (r 73 [x5, x9, v8] h8) fun v9 h9 =>
 cnd (bK (aA v2 h9) v3 && true) (
 bnd (aC 0 v9 h9) fun v10 h10 =>
 bnd (aC 1 v9 h10) fun v11 h11 =>
 bnd (aH 1 v3 (aE 1) h11) fun v12 h12 =>
 bnd (aG 1 v12 v10 h12) fun v13 h13 =>
 bnd (aR x5 h13) fun v14 h14 =>
 bnd (aB 3 v14 h14) fun v15 h15 =>
 bnd (aA v15 h15) fun v16 h16 =>
 bnd (aB 0 x8 h16) fun v17 h17 =>
 bnd (aA v17 h17) fun v18 h18 =>
 bnd (gA .string v16 v18 x9 h18) fun v19 h19 =>
  bA r n kk11 x4 x5 x59 x60 x61 h19)
noncomputable def aXy (r : RT) (n : Nat) (kk11 : cE) (kk25 : aSk) (x4 x5 x8 x9 x59 x60 x61 x117 x118 x119 : DV) (h0 : Hp) : aJ :=
 bnd (aD .lss x119 x118 h0) fun v1 h1 =>
 aQ v1 (
 bnd (aH 1 x117 x119 h1) fun v2 h2 =>
 bnd (aA v2 h2) fun v3 h3 =>
 bnd (aAc [x4, x9, x119, v3] h3) fun v4 h4 =>
 bnd (aD .add x119 (aE 1) h4) fun v5 h5 =>
      kk25 x4 x5 x8 x9 x59 x60 x61 x117 x118 v5 h5) (
      eU r n kk11 x4 x5 x8 x9 x59 x60 x61 h1)
noncomputable def uZ (r : RT) (n : Nat) (kk11 : cE) (m : Nat) : aSk :=
 Nat.rec (motive := fun _ => aSk) (fun _ _ _ _ _ _ _ _ _ _ _ => none) (fun _ ih => aXy r n kk11 ih) m
noncomputable def bZh (r : RT) (n : Nat) (kk11 : cE) : aSk := uZ r n kk11 n
noncomputable def wQ (r : RT) (n : Nat) (kk11 : cE) (x4 x5 x8 x9 x59 x60 x61 x117 x118 x119 : DV) (h0 : Hp) : aJ :=
 bZh r n kk11 x4 x5 x8 x9 x59 x60 x61 x117 x118 x119 h0
noncomputable def aIn (r : RT) (n : Nat) (kk11 : cE) (x4 x5 x8 x9 x10 x12 x13 x19 x59 x60 x61 : DV) (h0 : Hp) : aJ :=
 bnd (r 71 [x13] (resv 1 h0)) fun v1 h1 =>
 bnd (aB 2 x8 h1) fun v2 h2 =>
 bnd (aA v2 h2) fun v3 h3 =>
 cnd (bK (aA v2 (resv 1 h0)) v3 && true) (
 bnd (r 71 [v3] h3) fun v4 h4 =>
 bnd (bJ (bY 0 h0.next) [(aE 0), (aE 0), (aE 0), (aE 0), (aE 0), (aE 0)] 6 [(0, 1, x10), (1, 1, x12), (2, 1, v1), (3, 1, x19), (4, 1, (aE 0)), (5, 1, v4)] h4) fun v5 h5 =>
 bnd (bX v5 h5) fun v6 h6 =>
  wQ r n kk11 x4 x5 x8 x9 x59 x60 x61 v5 v6 (aE 0) h6)
noncomputable def oP (r : RT) (n : Nat) (kk11 : cE) (x4 x5 x8 x9 x10 x12 x13 x14 x59 x60 x61 : DV) (h0 : Hp) : aJ :=
 bnd (r 46 [x5, x14] h0) fun v1 h1 =>
 bnd (aC 0 v1 h1) fun v2 h2 =>
 bnd (aC 1 v1 h2) fun v3 h3 =>
  aIn r n kk11 x4 x5 x8 x9 x10 x12 x13 v2 x59 x60 x61 h3
noncomputable def vR (r : RT) (n : Nat) (kk11 : cE) (x4 x5 x7 x8 x9 x10 x12 x13 x14 x59 x60 x61 : DV) (h0 : Hp) : aJ :=
 bnd (aD .eql x7 (aE 15) h0) fun v1 h1 =>
 aQ v1 (
 bnd (r 44 [x5, (.s [115, 101, 108, 101, 99, 116, 111, 114])] h1) fun v2 h2 =>
 bnd (aC 0 v2 h2) fun v3 h3 =>
 bnd (aC 1 v2 h3) fun v4 h4 =>
 bnd (r 44 [x5, (.s [97, 114, 103, 117, 109, 101, 110, 116, 115])] h4) fun v5 h5 =>
 bnd (aC 0 v5 h5) fun v6 h6 =>
 bnd (aC 1 v5 h6) fun v7 h7 =>
 bnd (aL [(aE 0), (aE 0)] 2 [(0, 1, v3), (1, 1, v6)] h7) fun v8 h8 =>
  oP r n kk11 x4 x5 x8 x9 x10 x12 (aE 2) v8 x59 x60 x61 h8) (
  oP r n kk11 x4 x5 x8 x9 x10 x12 x13 x14 x59 x60 x61 h1)
noncomputable def aSa (r : RT) (n : Nat) (kk11 : cE) (x4 x5 x7 x8 x9 x10 x12 x13 x14 x59 x60 x61 : DV) (h0 : Hp) : aJ :=
 bnd (aB 1 x8 h0) fun v1 h1 =>
 bnd (aA v1 h1) fun v2 h2 =>
 bnd (aD .geq v2 (aE 0) h2) fun v3 h3 =>
 aQ v3 (
 bnd (aB 1 x8 h3) fun v4 h4 =>
 bnd (aA v4 h4) fun v5 h5 =>
 bnd (r 30 [x5, v5] h5) fun v6 h6 =>
  vR r n kk11 x4 x5 x7 x8 x9 x10 v6 x13 x14 x59 x60 x61 h6) (
  vR r n kk11 x4 x5 x7 x8 x9 x10 x12 x13 x14 x59 x60 x61 h3)
noncomputable def aSp (r : RT) (n : Nat) (kk11 : cE) (x4 x5 x7 x8 x9 x10 x59 x60 x61 : DV) (h0 : Hp) : aJ :=
 aSa r n kk11 x4 x5 x7 x8 x9 x10 (aE 0) (aE 0) .l0 x59 x60 x61 h0
noncomputable def aTc (r : RT) (n : Nat) (kk11 : cE) (x4 x5 x7 x8 x9 x59 x60 x61 : DV) (h0 : Hp) : aJ :=
 bnd (aB 0 x8 h0) fun v1 h1 =>
 bnd (aA v1 h1) fun v2 h2 =>
 bnd (r 44 [x5, v2] h2) fun v3 h3 =>
 bnd (aC 0 v3 h3) fun v4 h4 =>
 bnd (aC 1 v3 h4) fun v5 h5 =>
  aSp r n kk11 x4 x5 x7 x8 x9 v4 x59 x60 x61 h5
noncomputable def aQh (r : RT) (n : Nat) (kk11 : cE) (x4 x5 x7 x8 x9 x59 x60 x61 : DV) (h0 : Hp) : aJ :=
 bnd (r 30 [x5, (aE 1)] h0) fun v1 h1 =>
 bnd (kG [x4, x9, v1] h1) fun v2 h2 =>
  aTc r n kk11 x4 x5 x7 x8 x9 x59 x60 x61 h2
noncomputable def xR (r : RT) (n : Nat) (kk11 : cE) (x4 x5 x7 x8 x59 x60 x61 : DV) (h0 : Hp) : aJ :=
 bnd (r 30 [x5, x7] h0) fun v1 h1 =>
  aQh r n kk11 x4 x5 x7 x8 v1 x59 x60 x61 h1
noncomputable def aFb (r : RT) (n : Nat) (kk11 : cE) (x4 x5 x59 x60 x61 : DV) (h0 : Hp) : aJ :=
 bnd (aH 3 x59 x61 h0) fun v1 h1 =>
 bnd (aK 3 v1 h1) fun v2 h2 =>
 bnd (bL [(.s []), (aE 0), (aE 0)] h2) fun v3 h3 =>
 bnd (aG 3 v3 v2 h3) fun _ h4 =>
  xR r n kk11 x4 x5 x61 v3 x59 x60 x61 h4
noncomputable def aPx (r : RT) (n : Nat) (kk11 : cE) (x4 x5 x59 x60 x61 x62 : DV) (h0 : Hp) : aJ :=
 aQ x62 (
  aFb r n kk11 x4 x5 x59 x60 x61 h0) (
  bF r n x5 h0)
noncomputable def aYq (r : RT) (n : Nat) (kk11 : cE) (x4 x5 x59 x60 x61 : DV) (h0 : Hp) : aJ :=
 bnd (aD .lss x61 x60 h0) fun v1 h1 =>
  aPx r n kk11 x4 x5 x59 x60 x61 v1 h1
noncomputable def tB (r : RT) (n : Nat) (m : Nat) : cE :=
 Nat.rec (motive := fun _ => cE) (fun _ _ _ _ _ _ => none) (fun _ ih => aYq r n ih) m
noncomputable def cAk (r : RT) (n : Nat) : cE := tB r n n
noncomputable def aQw (r : RT) (n : Nat) (x4 x5 x59 x60 x61 : DV) (h0 : Hp) : aJ :=
 cAk r n x4 x5 x59 x60 x61 h0
noncomputable def gN (r : RT) (n : Nat) (x4 x5 : DV) (h0 : Hp) : aJ :=
 bnd (r 69 [] h0) fun v1 h1 =>
 bnd (bX v1 h1) fun v2 h2 =>
  aQw r n x4 x5 v1 v2 (aE 0) h2
noncomputable def aZf (r : RT) (n : Nat) (kk27 : mP) (x4 x5 x43 : DV) (h0 : Hp) : aJ :=
 bnd (aD .lss x43 (aE 16) h0) fun v1 h1 =>
 aQ v1 (
 bnd (aR x5 h1) fun v2 h2 =>
 bnd (aB 1 v2 h2) fun v3 h3 =>
 bnd (aA v3 h3) fun v4 h4 =>
 bnd (aD .add (aE 2) x43 h4) fun v5 h5 =>
 bnd (kL [x4, (aE 0), (aE 0), (aE 6)] h5) fun v6 h6 =>
 cnd (bK (aA v3 h6) v4 && true) (
 bnd (aC 0 v6 h6) fun v7 h7 =>
 bnd (aC 1 v6 h7) fun v8 h8 =>
 bnd (aH 1 v4 v5 h8) fun v9 h9 =>
 bnd (aG 1 v9 v7 h9) fun v10 h10 =>
 bnd (aD .add x43 (aE 1) h10) fun v11 h11 =>
      kk27 x4 x5 v11 h11)) (
      gN r n x4 x5 h1)
noncomputable def uT (r : RT) (n : Nat) (m : Nat) : mP :=
 Nat.rec (motive := fun _ => mP) (fun _ _ _ _ => none) (fun _ ih => aZf r n ih) m
noncomputable def cBu (r : RT) (n : Nat) : mP := uT r n n
noncomputable def aUt (r : RT) (n : Nat) (x4 x5 x43 : DV) (h0 : Hp) : aJ :=
 cBu r n x4 x5 x43 h0
noncomputable def aLz (r : RT) (n : Nat) (x4 x5 : DV) (h0 : Hp) : aJ :=
 aUt r n x4 x5 (aE 0) h0
noncomputable def aXv (r : RT) (n : Nat) (x4 : DV) (h0 : Hp) : aJ :=
 bnd (cI 1 8 [(aE 0)] (aE 18) (aE 18) h0) fun v1 h1 =>
 bnd (dV h1) fun v2 h2 =>
 bnd (dV h2) fun v3 h3 =>
 bnd (bB [.p0, .l0, .m0, .m0] [(0, 1, x4), (1, 1, v1), (2, 1, v2), (3, 1, v3)] h3) fun v4 h4 =>
 bnd (bS v4 h4) fun v5 h5 =>
  aLz r n x4 v5 h5
noncomputable def bPn (r : RT) (n : Nat) (x0 x4 : DV) (h0 : Hp) : aJ :=
 bnd (pEq (.pointer 73) true x4 .p0 h0) fun v1 h1 =>
 aQ v1 (
 some (.t [.p0, (aE 1)], h1)) (
 bnd (aD .lss x0 (aE 16384) h1) fun v2 h2 =>
 aQ v2 (
 some (.t [.p0, (aE 4)], h2)) (
   aXv r n x4 h2))
noncomputable def bNi (r : RT) (n : Nat) (x0 : DV) (h0 : Hp) : aJ :=
 bnd (aPd [x0] h0) fun v1 h1 =>
  bPn r n x0 v1 h1
noncomputable def s40 (r : RT) (n : Nat) (x0 : DV) (h0 : Hp) : aJ :=
 bNi r n x0 h0
noncomputable abbrev c40 : Code := cf Tryz.f40
noncomputable abbrev bAk : Code := cR c40
noncomputable abbrev bBs : Code := cR bAk
noncomputable abbrev aYz : Code := cR bBs
noncomputable abbrev aYs : Code := cR aYz
noncomputable abbrev aYc : Code := cR aYs
noncomputable abbrev aXj : Code := cR aYc
noncomputable abbrev dLo : Code := cR aXj
noncomputable abbrev aNk : Code := cL aXj
noncomputable abbrev bIw : Code := cR aNk
noncomputable abbrev aDc : Code := cL bIw
noncomputable abbrev nW : Code := cL aDc
noncomputable abbrev bSu : Code := cL aNk
noncomputable abbrev yS : Code := cL aYc
noncomputable abbrev aQb : Code := cR yS
noncomputable abbrev aHe : Code := cL aQb
noncomputable abbrev jW : Code := cL aHe
noncomputable abbrev aHa : Code := cR jW
noncomputable abbrev aJh : Code := cR aHa
noncomputable abbrev cXg : Code := cR aJh
noncomputable abbrev aLe : Code := cL aJh
noncomputable abbrev aKt : Code := cL aLe
noncomputable abbrev aFl : Code := cR aKt
noncomputable abbrev aGj : Code := cR aFl
noncomputable abbrev aDh : Code := cR aGj
noncomputable abbrev aFi : Code := cR aDh
noncomputable abbrev aCh : Code := cR aFi
noncomputable abbrev aBi : Code := cR aCh
noncomputable abbrev aEx : Code := cR aBi
noncomputable abbrev aHo : Code := cR aEx
noncomputable abbrev dDl : Code := cR aHo
noncomputable abbrev vV : Code := cL aHo
noncomputable abbrev aPc : Code := cR vV
noncomputable abbrev aDz : Code := cL aPc
noncomputable abbrev nO : Code := cL aDz
noncomputable abbrev aPb : Code := cL vV
noncomputable abbrev bXp : Code := cL aEx
noncomputable abbrev aRc : Code := cL aBi
noncomputable abbrev bJe : Code := cL aCh
noncomputable abbrev bTj : Code := cL aFi
noncomputable abbrev bQn : Code := cL aDh
noncomputable abbrev bZu : Code := cL aGj
noncomputable abbrev bLm : Code := cL aFl
noncomputable abbrev aRx : Code := cL aKt
noncomputable abbrev bNm : Code := cL aHa
noncomputable abbrev bOu : Code := cL jW
noncomputable abbrev bRi : Code := cL yS
noncomputable abbrev vX : Code := cL aYs
noncomputable abbrev aSb : Code := cR vX
noncomputable abbrev aKb : Code := cL aSb
noncomputable abbrev oA : Code := cL aKb
noncomputable abbrev bNz : Code := cL vX
noncomputable abbrev aPm : Code := cL aYz
noncomputable abbrev bMd : Code := cL bBs
noncomputable abbrev cAd : Code := cL bAk
noncomputable abbrev bKt : Code := cL c40
noncomputable abbrev r40 : K := aT CF Tryz.f40
noncomputable def D40 (r : RT) (n : Nat) (c : Code) (X : Nat → K) (k : K) : K := aM CF r 179 n c X r40 k
theorem bWs : D40 r n dLo x0 r40 = (K1 (eW r n) 5) :=
 (by kernel_rfl)
theorem aWu (kk9 : dQ) : D40 r n nW (xs x0 7 (K1 (eW r n) 5)) (K4 kk9 5 155 156 157) = (K4 (jU r n kk9) 5 155 156 157) :=
 (by kernel_rfl)
theorem cJh (m : Nat) : aN (fun kk => D40 r n nW (xs x0 7 (K1 (eW r n) 5)) kk) m = (K4 (jY r n m) 5 155 156 157) := by
 induction m with
 | zero => exact (by kernel_rfl : aN (fun kk => D40 r n nW (xs x0 7 (K1 (eW r n) 5)) kk) 0 = (K4 (jY r n 0) 5 155 156 157))
 | succ m ih =>
  refine (by kernel_rfl : aN (fun kk => D40 r n nW (xs x0 7 (K1 (eW r n) 5)) kk) (m + 1) = D40 r n nW (xs x0 7 (K1 (eW r n) 5)) (aN (fun kk => D40 r n nW (xs x0 7 (K1 (eW r n) 5)) kk) m)).trans ?_
  rw [ih]
  exact (aWu r n (jY r n m)).trans (by kernel_rfl)
theorem bKv : D40 r n aDc (xs x0 7 (K1 (eW r n) 5)) (K1 (eW r n) 5) = (K4 (bBv r n) 5 155 156 157) :=
 (by kernel_rfl : D40 r n aDc (xs x0 7 (K1 (eW r n) 5)) (K1 (eW r n) 5) = aN (fun kk => D40 r n nW (xs x0 7 (K1 (eW r n) 5)) kk) n).trans ((cJh r n n).trans (by kernel_rfl))
theorem dCw : D40 r n bIw x0 (K1 (eW r n) 5) = (K4 (bLb r n) 5 155 156 157) :=
 (by kernel_rfl : D40 r n bIw x0 (K1 (eW r n) 5) = D40 r n aDc (xs x0 7 (K1 (eW r n) 5)) (K1 (eW r n) 5)).trans
 ((bKv r n).trans (by kernel_rfl))
theorem cFt : D40 r n aXj x0 r40 = D40 r n aNk x0 (K1 (eW r n) 5) :=
 congrArg (fun k => D40 r n aNk x0 k) (bWs r n)
theorem cIe : D40 r n aNk x0 (K1 (eW r n) 5) = D40 r n bSu x0 (K4 (bLb r n) 5 155 156 157) :=
 congrArg (fun k => D40 r n bSu x0 k) (dCw r n)
theorem dDd : D40 r n aXj x0 r40 = (K1 (bF r n) 5) :=
 (cFt r n).trans
 ((cIe r n).trans
 ((by kernel_rfl)))
theorem cJq (kk11 : cE) : D40 r n cXg (xs x0 3 (K1 (bF r n) 5)) (K5 kk11 4 5 59 60 61) = (K5 (bA r n kk11) 4 5 59 60 61) :=
 (by kernel_rfl)
theorem cJx (kk11 : cE) : D40 r n dDl (xs (xs x0 3 (K1 (bF r n) 5)) 4 (K5 (bA r n kk11) 4 5 59 60 61)) (K5 (bA r n kk11) 4 5 59 60 61) = (K7 (eU r n kk11) 4 5 8 9 59 60 61) :=
 (by kernel_rfl)
theorem bMb (kk11 : cE) (kk25 : aSk) : D40 r n nO (xs (xs (xs x0 3 (K1 (bF r n) 5)) 4 (K5 (bA r n kk11) 4 5 59 60 61)) 5 (K7 (eU r n kk11) 4 5 8 9 59 60 61)) (K10 kk25 4 5 8 9 59 60 61 117 118 119) = (K10 (aXy r n kk11 kk25) 4 5 8 9 59 60 61 117 118 119) :=
 (by kernel_rfl)
theorem bTk (kk11 : cE) (m : Nat) : aN (fun kk => D40 r n nO (xs (xs (xs x0 3 (K1 (bF r n) 5)) 4 (K5 (bA r n kk11) 4 5 59 60 61)) 5 (K7 (eU r n kk11) 4 5 8 9 59 60 61)) kk) m = (K10 (uZ r n kk11 m) 4 5 8 9 59 60 61 117 118 119) := by
 induction m with
 | zero => exact (by kernel_rfl : aN (fun kk => D40 r n nO (xs (xs (xs x0 3 (K1 (bF r n) 5)) 4 (K5 (bA r n kk11) 4 5 59 60 61)) 5 (K7 (eU r n kk11) 4 5 8 9 59 60 61)) kk) 0 = (K10 (uZ r n kk11 0) 4 5 8 9 59 60 61 117 118 119))
 | succ m ih =>
  refine (by kernel_rfl : aN (fun kk => D40 r n nO (xs (xs (xs x0 3 (K1 (bF r n) 5)) 4 (K5 (bA r n kk11) 4 5 59 60 61)) 5 (K7 (eU r n kk11) 4 5 8 9 59 60 61)) kk) (m + 1) = D40 r n nO (xs (xs (xs x0 3 (K1 (bF r n) 5)) 4 (K5 (bA r n kk11) 4 5 59 60 61)) 5 (K7 (eU r n kk11) 4 5 8 9 59 60 61)) (aN (fun kk => D40 r n nO (xs (xs (xs x0 3 (K1 (bF r n) 5)) 4 (K5 (bA r n kk11) 4 5 59 60 61)) 5 (K7 (eU r n kk11) 4 5 8 9 59 60 61)) kk) m)).trans ?_
  rw [ih]
  exact (bMb r n kk11 (uZ r n kk11 m)).trans (by kernel_rfl)
theorem cMf (kk11 : cE) : D40 r n aDz (xs (xs (xs x0 3 (K1 (bF r n) 5)) 4 (K5 (bA r n kk11) 4 5 59 60 61)) 5 (K7 (eU r n kk11) 4 5 8 9 59 60 61)) (K7 (eU r n kk11) 4 5 8 9 59 60 61) = (K10 (bZh r n kk11) 4 5 8 9 59 60 61 117 118 119) :=
 (by kernel_rfl : D40 r n aDz (xs (xs (xs x0 3 (K1 (bF r n) 5)) 4 (K5 (bA r n kk11) 4 5 59 60 61)) 5 (K7 (eU r n kk11) 4 5 8 9 59 60 61)) (K7 (eU r n kk11) 4 5 8 9 59 60 61) = aN (fun kk => D40 r n nO (xs (xs (xs x0 3 (K1 (bF r n) 5)) 4 (K5 (bA r n kk11) 4 5 59 60 61)) 5 (K7 (eU r n kk11) 4 5 8 9 59 60 61)) kk) n).trans ((bTk r n kk11 n).trans (by kernel_rfl))
theorem cSc (kk11 : cE) : D40 r n aPc (xs (xs x0 3 (K1 (bF r n) 5)) 4 (K5 (bA r n kk11) 4 5 59 60 61)) (K7 (eU r n kk11) 4 5 8 9 59 60 61) = (K10 (wQ r n kk11) 4 5 8 9 59 60 61 117 118 119) :=
 (by kernel_rfl : D40 r n aPc (xs (xs x0 3 (K1 (bF r n) 5)) 4 (K5 (bA r n kk11) 4 5 59 60 61)) (K7 (eU r n kk11) 4 5 8 9 59 60 61) = D40 r n aDz (xs (xs (xs x0 3 (K1 (bF r n) 5)) 4 (K5 (bA r n kk11) 4 5 59 60 61)) 5 (K7 (eU r n kk11) 4 5 8 9 59 60 61)) (K7 (eU r n kk11) 4 5 8 9 59 60 61)).trans
 ((cMf r n kk11).trans (by kernel_rfl))
theorem bPb (kk11 : cE) : D40 r n aHo (xs (xs x0 3 (K1 (bF r n) 5)) 4 (K5 (bA r n kk11) 4 5 59 60 61)) (K5 (bA r n kk11) 4 5 59 60 61) = D40 r n vV (xs (xs x0 3 (K1 (bF r n) 5)) 4 (K5 (bA r n kk11) 4 5 59 60 61)) (K7 (eU r n kk11) 4 5 8 9 59 60 61) :=
 congrArg (fun k => D40 r n vV (xs (xs x0 3 (K1 (bF r n) 5)) 4 (K5 (bA r n kk11) 4 5 59 60 61)) k) (cJx r n kk11)
theorem bSc (kk11 : cE) : D40 r n vV (xs (xs x0 3 (K1 (bF r n) 5)) 4 (K5 (bA r n kk11) 4 5 59 60 61)) (K7 (eU r n kk11) 4 5 8 9 59 60 61) = D40 r n aPb (xs (xs x0 3 (K1 (bF r n) 5)) 4 (K5 (bA r n kk11) 4 5 59 60 61)) (K10 (wQ r n kk11) 4 5 8 9 59 60 61 117 118 119) :=
 congrArg (fun k => D40 r n aPb (xs (xs x0 3 (K1 (bF r n) 5)) 4 (K5 (bA r n kk11) 4 5 59 60 61)) k) (cSc r n kk11)
theorem bYs (kk11 : cE) (q0 : aSk) (q1 : TT1) (q2 : cE) : D40 r n aPb (xs (xs x0 3 (K1 q1 5)) 4 (K5 q2 4 5 59 60 61)) (K10 q0 4 5 8 9 59 60 61 117 118 119) = fun (env : aY) (h : Hp) =>
 bnd (r 71 [(env 13)] (resv 1 h)) fun v1 h1 =>
 bnd (aB 2 (env 8) h1) fun v2 h2 =>
 bnd (aA v2 h2) fun v3 h3 =>
 cnd (bK (aA v2 (resv 1 h)) v3 && true) (
 bnd (r 71 [v3] h3) fun v4 h4 =>
 bnd (bJ (bY 0 h.next) [(aE 0), (aE 0), (aE 0), (aE 0), (aE 0), (aE 0)] 6 [(0, 1, (env 10)), (1, 1, (env 12)), (2, 1, v1), (3, 1, (env 19)), (4, 1, (aE 0)), (5, 1, v4)] h4) fun v5 h5 =>
 bnd (bX v5 h5) fun v6 h6 =>
  q0 (env 4) (env 5) (env 8) (env 9) (env 59) (env 60) (env 61) v5 v6 (aE 0) h6) := by kernel_rfl
theorem bEv (kk11 : cE) : (fun (env : aY) (h : Hp) =>
 bnd (r 71 [(env 13)] (resv 1 h)) fun v1 h1 =>
 bnd (aB 2 (env 8) h1) fun v2 h2 =>
 bnd (aA v2 h2) fun v3 h3 =>
 cnd (bK (aA v2 (resv 1 h)) v3 && true) (
 bnd (r 71 [v3] h3) fun v4 h4 =>
 bnd (bJ (bY 0 h.next) [(aE 0), (aE 0), (aE 0), (aE 0), (aE 0), (aE 0)] 6 [(0, 1, (env 10)), (1, 1, (env 12)), (2, 1, v1), (3, 1, (env 19)), (4, 1, (aE 0)), (5, 1, v4)] h4) fun v5 h5 =>
 bnd (bX v5 h5) fun v6 h6 =>
  wQ r n kk11 (env 4) (env 5) (env 8) (env 9) (env 59) (env 60) (env 61) v5 v6 (aE 0) h6)) = (K11 (aIn r n kk11) 4 5 8 9 10 12 13 19 59 60 61) := by kernel_rfl
theorem cKt (kk11 : cE) : D40 r n aHo (xs (xs x0 3 (K1 (bF r n) 5)) 4 (K5 (bA r n kk11) 4 5 59 60 61)) (K5 (bA r n kk11) 4 5 59 60 61) = (K11 (aIn r n kk11) 4 5 8 9 10 12 13 19 59 60 61) :=
 (bPb r n kk11).trans
 ((bSc r n kk11).trans
 ((bYs r n kk11 (wQ r n kk11) (bF r n) (bA r n kk11)).trans (bEv r n kk11)))
theorem bLp (kk11 : cE) : D40 r n aEx (xs (xs x0 3 (K1 (bF r n) 5)) 4 (K5 (bA r n kk11) 4 5 59 60 61)) (K5 (bA r n kk11) 4 5 59 60 61) = D40 r n bXp (xs (xs x0 3 (K1 (bF r n) 5)) 4 (K5 (bA r n kk11) 4 5 59 60 61)) (K11 (aIn r n kk11) 4 5 8 9 10 12 13 19 59 60 61) :=
 congrArg (fun k => D40 r n bXp (xs (xs x0 3 (K1 (bF r n) 5)) 4 (K5 (bA r n kk11) 4 5 59 60 61)) k) (cKt r n kk11)
theorem cIf (kk11 : cE) : D40 r n aEx (xs (xs x0 3 (K1 (bF r n) 5)) 4 (K5 (bA r n kk11) 4 5 59 60 61)) (K5 (bA r n kk11) 4 5 59 60 61) = (K11 (oP r n kk11) 4 5 8 9 10 12 13 14 59 60 61) :=
 (bLp r n kk11).trans
 ((by kernel_rfl))
theorem bJq (kk11 : cE) : D40 r n aBi (xs (xs x0 3 (K1 (bF r n) 5)) 4 (K5 (bA r n kk11) 4 5 59 60 61)) (K5 (bA r n kk11) 4 5 59 60 61) = D40 r n aRc (xs (xs x0 3 (K1 (bF r n) 5)) 4 (K5 (bA r n kk11) 4 5 59 60 61)) (K11 (oP r n kk11) 4 5 8 9 10 12 13 14 59 60 61) :=
 congrArg (fun k => D40 r n aRc (xs (xs x0 3 (K1 (bF r n) 5)) 4 (K5 (bA r n kk11) 4 5 59 60 61)) k) (cIf r n kk11)
theorem bWr (kk11 : cE) (q0 : dGj) (q1 : TT1) (q2 : cE) : D40 r n aRc (xs (xs x0 3 (K1 q1 5)) 4 (K5 q2 4 5 59 60 61)) (K11 q0 4 5 8 9 10 12 13 14 59 60 61) = fun (env : aY) (h : Hp) =>
 bnd (aD .eql (env 7) (aE 15) h) fun v1 h1 =>
 aQ v1 (
 bnd (r 44 [(env 5), (.s [115, 101, 108, 101, 99, 116, 111, 114])] h1) fun v2 h2 =>
 bnd (aC 0 v2 h2) fun v3 h3 =>
 bnd (aC 1 v2 h3) fun v4 h4 =>
 bnd (r 44 [(env 5), (.s [97, 114, 103, 117, 109, 101, 110, 116, 115])] h4) fun v5 h5 =>
 bnd (aC 0 v5 h5) fun v6 h6 =>
 bnd (aC 1 v5 h6) fun v7 h7 =>
 bnd (aL [(aE 0), (aE 0)] 2 [(0, 1, v3), (1, 1, v6)] h7) fun v8 h8 =>
      q0 (env 4) (env 5) (env 8) (env 9) (env 10) (env 12) (aE 2) v8 (env 59) (env 60) (env 61) h8) (
      q0 (env 4) (env 5) (env 8) (env 9) (env 10) (env 12) (env 13) (env 14) (env 59) (env 60) (env 61) h1) := by kernel_rfl
theorem bDp (kk11 : cE) : (fun (env : aY) (h : Hp) =>
 bnd (aD .eql (env 7) (aE 15) h) fun v1 h1 =>
 aQ v1 (
 bnd (r 44 [(env 5), (.s [115, 101, 108, 101, 99, 116, 111, 114])] h1) fun v2 h2 =>
 bnd (aC 0 v2 h2) fun v3 h3 =>
 bnd (aC 1 v2 h3) fun v4 h4 =>
 bnd (r 44 [(env 5), (.s [97, 114, 103, 117, 109, 101, 110, 116, 115])] h4) fun v5 h5 =>
 bnd (aC 0 v5 h5) fun v6 h6 =>
 bnd (aC 1 v5 h6) fun v7 h7 =>
 bnd (aL [(aE 0), (aE 0)] 2 [(0, 1, v3), (1, 1, v6)] h7) fun v8 h8 =>
      oP r n kk11 (env 4) (env 5) (env 8) (env 9) (env 10) (env 12) (aE 2) v8 (env 59) (env 60) (env 61) h8) (
      oP r n kk11 (env 4) (env 5) (env 8) (env 9) (env 10) (env 12) (env 13) (env 14) (env 59) (env 60) (env 61) h1)) = (K12 (vR r n kk11) 4 5 7 8 9 10 12 13 14 59 60 61) := by kernel_rfl
theorem cOs (kk11 : cE) : D40 r n aBi (xs (xs x0 3 (K1 (bF r n) 5)) 4 (K5 (bA r n kk11) 4 5 59 60 61)) (K5 (bA r n kk11) 4 5 59 60 61) = (K12 (vR r n kk11) 4 5 7 8 9 10 12 13 14 59 60 61) :=
 (bJq r n kk11).trans
 ((bWr r n kk11 (oP r n kk11) (bF r n) (bA r n kk11)).trans (bDp r n kk11))
theorem bQr (kk11 : cE) : D40 r n aCh (xs (xs x0 3 (K1 (bF r n) 5)) 4 (K5 (bA r n kk11) 4 5 59 60 61)) (K5 (bA r n kk11) 4 5 59 60 61) = D40 r n bJe (xs (xs x0 3 (K1 (bF r n) 5)) 4 (K5 (bA r n kk11) 4 5 59 60 61)) (K12 (vR r n kk11) 4 5 7 8 9 10 12 13 14 59 60 61) :=
 congrArg (fun k => D40 r n bJe (xs (xs x0 3 (K1 (bF r n) 5)) 4 (K5 (bA r n kk11) 4 5 59 60 61)) k) (cOs r n kk11)
theorem cFw (kk11 : cE) : D40 r n aCh (xs (xs x0 3 (K1 (bF r n) 5)) 4 (K5 (bA r n kk11) 4 5 59 60 61)) (K5 (bA r n kk11) 4 5 59 60 61) = (K12 (aSa r n kk11) 4 5 7 8 9 10 12 13 14 59 60 61) :=
 (bQr r n kk11).trans
 ((by kernel_rfl))
theorem bHg (kk11 : cE) : D40 r n aFi (xs (xs x0 3 (K1 (bF r n) 5)) 4 (K5 (bA r n kk11) 4 5 59 60 61)) (K5 (bA r n kk11) 4 5 59 60 61) = D40 r n bTj (xs (xs x0 3 (K1 (bF r n) 5)) 4 (K5 (bA r n kk11) 4 5 59 60 61)) (K12 (aSa r n kk11) 4 5 7 8 9 10 12 13 14 59 60 61) :=
 congrArg (fun k => D40 r n bTj (xs (xs x0 3 (K1 (bF r n) 5)) 4 (K5 (bA r n kk11) 4 5 59 60 61)) k) (cFw r n kk11)
theorem cSe (kk11 : cE) : D40 r n aFi (xs (xs x0 3 (K1 (bF r n) 5)) 4 (K5 (bA r n kk11) 4 5 59 60 61)) (K5 (bA r n kk11) 4 5 59 60 61) = (K9 (aSp r n kk11) 4 5 7 8 9 10 59 60 61) :=
 (bHg r n kk11).trans
 ((by kernel_rfl))
theorem bFr (kk11 : cE) : D40 r n aDh (xs (xs x0 3 (K1 (bF r n) 5)) 4 (K5 (bA r n kk11) 4 5 59 60 61)) (K5 (bA r n kk11) 4 5 59 60 61) = D40 r n bQn (xs (xs x0 3 (K1 (bF r n) 5)) 4 (K5 (bA r n kk11) 4 5 59 60 61)) (K9 (aSp r n kk11) 4 5 7 8 9 10 59 60 61) :=
 congrArg (fun k => D40 r n bQn (xs (xs x0 3 (K1 (bF r n) 5)) 4 (K5 (bA r n kk11) 4 5 59 60 61)) k) (cSe r n kk11)
theorem cGa (kk11 : cE) : D40 r n aDh (xs (xs x0 3 (K1 (bF r n) 5)) 4 (K5 (bA r n kk11) 4 5 59 60 61)) (K5 (bA r n kk11) 4 5 59 60 61) = (K8 (aTc r n kk11) 4 5 7 8 9 59 60 61) :=
 (bFr r n kk11).trans
 ((by kernel_rfl))
theorem bFk (kk11 : cE) : D40 r n aGj (xs (xs x0 3 (K1 (bF r n) 5)) 4 (K5 (bA r n kk11) 4 5 59 60 61)) (K5 (bA r n kk11) 4 5 59 60 61) = D40 r n bZu (xs (xs x0 3 (K1 (bF r n) 5)) 4 (K5 (bA r n kk11) 4 5 59 60 61)) (K8 (aTc r n kk11) 4 5 7 8 9 59 60 61) :=
 congrArg (fun k => D40 r n bZu (xs (xs x0 3 (K1 (bF r n) 5)) 4 (K5 (bA r n kk11) 4 5 59 60 61)) k) (cGa r n kk11)
theorem cFp (kk11 : cE) : D40 r n aGj (xs (xs x0 3 (K1 (bF r n) 5)) 4 (K5 (bA r n kk11) 4 5 59 60 61)) (K5 (bA r n kk11) 4 5 59 60 61) = (K8 (aQh r n kk11) 4 5 7 8 9 59 60 61) :=
 (bFk r n kk11).trans
 ((by kernel_rfl))
theorem bHp (kk11 : cE) : D40 r n aFl (xs (xs x0 3 (K1 (bF r n) 5)) 4 (K5 (bA r n kk11) 4 5 59 60 61)) (K5 (bA r n kk11) 4 5 59 60 61) = D40 r n bLm (xs (xs x0 3 (K1 (bF r n) 5)) 4 (K5 (bA r n kk11) 4 5 59 60 61)) (K8 (aQh r n kk11) 4 5 7 8 9 59 60 61) :=
 congrArg (fun k => D40 r n bLm (xs (xs x0 3 (K1 (bF r n) 5)) 4 (K5 (bA r n kk11) 4 5 59 60 61)) k) (cFp r n kk11)
theorem cSf (kk11 : cE) : D40 r n aFl (xs (xs x0 3 (K1 (bF r n) 5)) 4 (K5 (bA r n kk11) 4 5 59 60 61)) (K5 (bA r n kk11) 4 5 59 60 61) = (K7 (xR r n kk11) 4 5 7 8 59 60 61) :=
 (bHp r n kk11).trans
 ((by kernel_rfl))
theorem bDo (kk11 : cE) : D40 r n aJh (xs x0 3 (K1 (bF r n) 5)) (K5 kk11 4 5 59 60 61) = D40 r n aLe (xs x0 3 (K1 (bF r n) 5)) (K5 (bA r n kk11) 4 5 59 60 61) :=
 congrArg (fun k => D40 r n aLe (xs x0 3 (K1 (bF r n) 5)) k) (cJq r n kk11)
theorem bDv (kk11 : cE) : D40 r n aKt (xs (xs x0 3 (K1 (bF r n) 5)) 4 (K5 (bA r n kk11) 4 5 59 60 61)) (K5 (bA r n kk11) 4 5 59 60 61) = D40 r n aRx (xs (xs x0 3 (K1 (bF r n) 5)) 4 (K5 (bA r n kk11) 4 5 59 60 61)) (K7 (xR r n kk11) 4 5 7 8 59 60 61) :=
 congrArg (fun k => D40 r n aRx (xs (xs x0 3 (K1 (bF r n) 5)) 4 (K5 (bA r n kk11) 4 5 59 60 61)) k) (cSf r n kk11)
theorem bEb (kk11 : cE) (q0 : TT7) (q1 : TT1) (q2 : cE) : D40 r n aRx (xs (xs x0 3 (K1 q1 5)) 4 (K5 q2 4 5 59 60 61)) (K7 q0 4 5 7 8 59 60 61) = fun (env : aY) (h : Hp) =>
 bnd (aH 3 (env 59) (env 61) h) fun v1 h1 =>
 bnd (aK 3 v1 h1) fun v2 h2 =>
 bnd (bL [(.s []), (aE 0), (aE 0)] h2) fun v3 h3 =>
 bnd (aG 3 v3 v2 h3) fun _ h4 =>
  q0 (env 4) (env 5) (env 61) v3 (env 59) (env 60) (env 61) h4 := by kernel_rfl
theorem aQj (kk11 : cE) : (fun (env : aY) (h : Hp) =>
 bnd (aH 3 (env 59) (env 61) h) fun v1 h1 =>
 bnd (aK 3 v1 h1) fun v2 h2 =>
 bnd (bL [(.s []), (aE 0), (aE 0)] h2) fun v3 h3 =>
 bnd (aG 3 v3 v2 h3) fun _ h4 =>
  xR r n kk11 (env 4) (env 5) (env 61) v3 (env 59) (env 60) (env 61) h4) = (K5 (aFb r n kk11) 4 5 59 60 61) := by kernel_rfl
theorem cJf (kk11 : cE) : D40 r n aJh (xs x0 3 (K1 (bF r n) 5)) (K5 kk11 4 5 59 60 61) = (K5 (aFb r n kk11) 4 5 59 60 61) :=
 (bDo r n kk11).trans
 ((by kernel_rfl : D40 r n aLe (xs x0 3 (K1 (bF r n) 5)) (K5 (bA r n kk11) 4 5 59 60 61) = D40 r n aKt (xs (xs x0 3 (K1 (bF r n) 5)) 4 (K5 (bA r n kk11) 4 5 59 60 61)) (K5 (bA r n kk11) 4 5 59 60 61)).trans
 ((bDv r n kk11).trans
 ((bEb r n kk11 (xR r n kk11) (bF r n) (bA r n kk11)).trans (aQj r n kk11))))
theorem bDt (kk11 : cE) : D40 r n aHa (xs x0 3 (K1 (bF r n) 5)) (K5 kk11 4 5 59 60 61) = D40 r n bNm (xs x0 3 (K1 (bF r n) 5)) (K5 (aFb r n kk11) 4 5 59 60 61) :=
 congrArg (fun k => D40 r n bNm (xs x0 3 (K1 (bF r n) 5)) k) (cJf r n kk11)
theorem cNx (kk11 : cE) : D40 r n aHa (xs x0 3 (K1 (bF r n) 5)) (K5 kk11 4 5 59 60 61) = (K6 (aPx r n kk11) 4 5 59 60 61 62) :=
 (bDt r n kk11).trans
 ((by kernel_rfl))
theorem bEl (kk11 : cE) : D40 r n jW (xs x0 3 (K1 (bF r n) 5)) (K5 kk11 4 5 59 60 61) = D40 r n bOu (xs x0 3 (K1 (bF r n) 5)) (K6 (aPx r n kk11) 4 5 59 60 61 62) :=
 congrArg (fun k => D40 r n bOu (xs x0 3 (K1 (bF r n) 5)) k) (cNx r n kk11)
theorem bPq (kk11 : cE) : D40 r n jW (xs x0 3 (K1 (bF r n) 5)) (K5 kk11 4 5 59 60 61) = (K5 (aYq r n kk11) 4 5 59 60 61) :=
 (bEl r n kk11).trans
 ((by kernel_rfl))
theorem bMq (m : Nat) : aN (fun kk => D40 r n jW (xs x0 3 (K1 (bF r n) 5)) kk) m = (K5 (tB r n m) 4 5 59 60 61) := by
 induction m with
 | zero => exact (by kernel_rfl : aN (fun kk => D40 r n jW (xs x0 3 (K1 (bF r n) 5)) kk) 0 = (K5 (tB r n 0) 4 5 59 60 61))
 | succ m ih =>
  refine (by kernel_rfl : aN (fun kk => D40 r n jW (xs x0 3 (K1 (bF r n) 5)) kk) (m + 1) = D40 r n jW (xs x0 3 (K1 (bF r n) 5)) (aN (fun kk => D40 r n jW (xs x0 3 (K1 (bF r n) 5)) kk) m)).trans ?_
  rw [ih]
  exact (bPq r n (tB r n m)).trans (by kernel_rfl)
theorem cDx : D40 r n aHe (xs x0 3 (K1 (bF r n) 5)) (K1 (bF r n) 5) = (K5 (cAk r n) 4 5 59 60 61) :=
 (by kernel_rfl : D40 r n aHe (xs x0 3 (K1 (bF r n) 5)) (K1 (bF r n) 5) = aN (fun kk => D40 r n jW (xs x0 3 (K1 (bF r n) 5)) kk) n).trans ((bMq r n n).trans (by kernel_rfl))
theorem cOe : D40 r n aQb x0 (K1 (bF r n) 5) = (K5 (aQw r n) 4 5 59 60 61) :=
 (by kernel_rfl : D40 r n aQb x0 (K1 (bF r n) 5) = D40 r n aHe (xs x0 3 (K1 (bF r n) 5)) (K1 (bF r n) 5)).trans
 ((cDx r n).trans (by kernel_rfl))
theorem bSe : D40 r n aYc x0 r40 = D40 r n yS x0 (K1 (bF r n) 5) :=
 congrArg (fun k => D40 r n yS x0 k) (dDd r n)
theorem bTh : D40 r n yS x0 (K1 (bF r n) 5) = D40 r n bRi x0 (K5 (aQw r n) 4 5 59 60 61) :=
 congrArg (fun k => D40 r n bRi x0 k) (cOe r n)
theorem dCl : D40 r n aYc x0 r40 = (K2 (gN r n) 4 5) :=
 (bSe r n).trans
 ((bTh r n).trans
 ((by kernel_rfl)))
theorem bZx (kk27 : mP) : D40 r n oA (xs x0 1 (K2 (gN r n) 4 5)) (K3 kk27 4 5 43) = (K3 (aZf r n kk27) 4 5 43) :=
 (by kernel_rfl)
theorem cCr (m : Nat) : aN (fun kk => D40 r n oA (xs x0 1 (K2 (gN r n) 4 5)) kk) m = (K3 (uT r n m) 4 5 43) := by
 induction m with
 | zero => exact (by kernel_rfl : aN (fun kk => D40 r n oA (xs x0 1 (K2 (gN r n) 4 5)) kk) 0 = (K3 (uT r n 0) 4 5 43))
 | succ m ih =>
  refine (by kernel_rfl : aN (fun kk => D40 r n oA (xs x0 1 (K2 (gN r n) 4 5)) kk) (m + 1) = D40 r n oA (xs x0 1 (K2 (gN r n) 4 5)) (aN (fun kk => D40 r n oA (xs x0 1 (K2 (gN r n) 4 5)) kk) m)).trans ?_
  rw [ih]
  exact (bZx r n (uT r n m)).trans (by kernel_rfl)
theorem cFj : D40 r n aKb (xs x0 1 (K2 (gN r n) 4 5)) (K2 (gN r n) 4 5) = (K3 (cBu r n) 4 5 43) :=
 (by kernel_rfl : D40 r n aKb (xs x0 1 (K2 (gN r n) 4 5)) (K2 (gN r n) 4 5) = aN (fun kk => D40 r n oA (xs x0 1 (K2 (gN r n) 4 5)) kk) n).trans ((cCr r n n).trans (by kernel_rfl))
theorem cQy : D40 r n aSb x0 (K2 (gN r n) 4 5) = (K3 (aUt r n) 4 5 43) :=
 (by kernel_rfl : D40 r n aSb x0 (K2 (gN r n) 4 5) = D40 r n aKb (xs x0 1 (K2 (gN r n) 4 5)) (K2 (gN r n) 4 5)).trans
 ((cFj r n).trans (by kernel_rfl))
theorem bMh : D40 r n aYs x0 r40 = D40 r n vX x0 (K2 (gN r n) 4 5) :=
 congrArg (fun k => D40 r n vX x0 k) (dCl r n)
theorem bYf : D40 r n vX x0 (K2 (gN r n) 4 5) = D40 r n bNz x0 (K3 (aUt r n) 4 5 43) :=
 congrArg (fun k => D40 r n bNz x0 k) (cQy r n)
theorem cVj : D40 r n aYs x0 r40 = (K2 (aLz r n) 4 5) :=
 (bMh r n).trans
 ((bYf r n).trans
 ((by kernel_rfl)))
theorem bMl : D40 r n aYz x0 r40 = D40 r n aPm x0 (K2 (aLz r n) 4 5) :=
 congrArg (fun k => D40 r n aPm x0 k) (cVj r n)
theorem bNg (q0 : gJ) : D40 r n aPm x0 (K2 q0 4 5) = fun (env : aY) (h : Hp) =>
 bnd (cI 1 8 [(aE 0)] (aE 18) (aE 18) h) fun v1 h1 =>
 bnd (dV h1) fun v2 h2 =>
 bnd (dV h2) fun v3 h3 =>
 bnd (bB [.p0, .l0, .m0, .m0] [(0, 1, (env 4)), (1, 1, v1), (2, 1, v2), (3, 1, v3)] h3) fun v4 h4 =>
 bnd (bS v4 h4) fun v5 h5 =>
  q0 (env 4) v5 h5 := by kernel_rfl
theorem bFs : (fun (env : aY) (h : Hp) =>
 bnd (cI 1 8 [(aE 0)] (aE 18) (aE 18) h) fun v1 h1 =>
 bnd (dV h1) fun v2 h2 =>
 bnd (dV h2) fun v3 h3 =>
 bnd (bB [.p0, .l0, .m0, .m0] [(0, 1, (env 4)), (1, 1, v1), (2, 1, v2), (3, 1, v3)] h3) fun v4 h4 =>
 bnd (bS v4 h4) fun v5 h5 =>
  aLz r n (env 4) v5 h5) = (K1 (aXv r n) 4) := by kernel_rfl
theorem dBr : D40 r n aYz x0 r40 = (K1 (aXv r n) 4) :=
 (bMl r n).trans
 ((bNg r n (aLz r n)).trans (bFs r n))
theorem cAu : D40 r n bBs x0 r40 = D40 r n bMd x0 (K1 (aXv r n) 4) :=
 congrArg (fun k => D40 r n bMd x0 k) (dBr r n)
theorem dBm : D40 r n bBs x0 r40 = (K2 (bPn r n) 0 4) :=
 (cAu r n).trans
 ((by kernel_rfl))
theorem bVf : D40 r n bAk x0 r40 = D40 r n cAd x0 (K2 (bPn r n) 0 4) :=
 congrArg (fun k => D40 r n cAd x0 k) (dBm r n)
theorem dAh : D40 r n bAk x0 r40 = (K1 (bNi r n) 0) :=
 (bVf r n).trans
 ((by kernel_rfl))
theorem dFh : D40 r n c40 x0 r40 = D40 r n bKt x0 (K1 (bNi r n) 0) :=
 congrArg (fun k => D40 r n bKt x0 k) (dAh r n)
theorem dRx : D40 r n c40 x0 r40 = (K1 (s40 r n) 0) :=
 (dFh r n).trans
 ((by kernel_rfl))
theorem dJv : aF CF r n 40 args h = s40 r n (aS args 0) h :=
 (by kernel_rfl : aF CF r n 40 args h = D40 r n c40 x0 r40 (aI args) h).trans ((congrFun (congrFun (dRx r n) (aI args)) h).trans (by kernel_rfl))
noncomputable def s42 (r : RT) (n : Nat) (x0 x1 : DV) (h0 : Hp) : aJ :=
 bnd (aD .lss x1 (.i .i64 (Int.negSucc 1152921504606846975)) h0) fun v1 h1 =>
 bnd (gD v1 false (some (x1, h1)) h1) fun v2 h2 =>
 bnd (gD v1 false (aD .gtr v2 (aE 1152921504606846976) h2) h2) fun v3 h3 =>
 bnd (aO v1 (.b true) v3 h3) fun v4 h4 =>
 aQ v4 (
 some (.t [(aE 0), (aE 2)], h4)) (
 bnd (gS [x1] h4) fun v5 h5 =>
 bnd (aC 0 v5 h5) fun v6 h6 =>
 bnd (aC 1 v5 h6) fun v7 h7 =>
 aQ v7 (
 some (.t [v6, (aE 0)], h7)) (
 bnd (r 30 [x0, (aE 8)] h7) fun v8 h8 =>
 bnd (aL [(aE 0)] 1 [(0, 1, x1)] h8) fun v9 h9 =>
 bnd (r 82 [x0, v8, (aE 1), v9] h9) fun v10 h10 =>
 bnd (aC 0 v10 h10) fun v11 h11 =>
 bnd (aC 1 v10 h11) fun v12 h12 =>
 some (.t [v11, v12], h12)))
noncomputable abbrev c42 : Code := cf Tryz.f42
noncomputable abbrev r42 : K := aT CF Tryz.f42
noncomputable def D42 (r : RT) (n : Nat) (c : Code) (X : Nat → K) (k : K) : K := aM CF r 29 n c X r42 k
theorem dSb : D42 r n c42 x0 r42 = (K2 (s42 r n) 0 1) :=
 (by kernel_rfl)
theorem cSp : aF CF r n 42 args h = s42 r n (aS args 0) (aS args 1) h :=
 (by kernel_rfl : aF CF r n 42 args h = D42 r n c42 x0 r42 (aI args) h).trans ((congrFun (congrFun (dSb r n) (aI args)) h).trans (by kernel_rfl))
noncomputable def s43 (r : RT) (n : Nat) (x0 x1 : DV) (h0 : Hp) : aJ :=
 bnd (dT x1 h0) fun v1 h1 =>
 bnd (aD .gtr v1 (aE 250) h1) fun v2 h2 =>
 aQ v2 (
 some (.t [(aE 0), (aE 1)], h2)) (
 bnd (r 30 [x0, (aE 10)] h2) fun v3 h3 =>
 bnd (r 83 [x0, v3, x1] h3) fun v4 h4 =>
 bnd (aC 0 v4 h4) fun v5 h5 =>
 bnd (aC 1 v4 h5) fun v6 h6 =>
 some (.t [v5, v6], h6))
noncomputable abbrev c43 : Code := cf Tryz.f43
noncomputable abbrev r43 : K := aT CF Tryz.f43
noncomputable def D43 (r : RT) (n : Nat) (c : Code) (X : Nat → K) (k : K) : K := aM CF r 16 n c X r43 k
theorem dNw : D43 r n c43 x0 r43 = (K2 (s43 r n) 0 1) :=
 (by kernel_rfl)
theorem cSr : aF CF r n 43 args h = s43 r n (aS args 0) (aS args 1) h :=
 (by kernel_rfl : aF CF r n 43 args h = D43 r n c43 x0 r43 (aI args) h).trans ((congrFun (congrFun (dNw r n) (aI args)) h).trans (by kernel_rfl))
noncomputable def s44 (r : RT) (n : Nat) (x0 x1 : DV) (h0 : Hp) : aJ :=
 bnd (dT x1 h0) fun v1 h1 =>
 bnd (aD .lss v1 (aE 1) h1) fun v2 h2 =>
 bnd (gD v2 false (some (x1, h2)) h2) fun v3 h3 =>
 bnd (gD v2 false (dT v3 h3) h3) fun v4 h4 =>
 bnd (gD v2 false (aD .gtr v4 (aE 60) h4) h4) fun v5 h5 =>
 bnd (aO v2 (.b true) v5 h5) fun v6 h6 =>
 aQ v6 (
 some (.t [(aE 0), (aE 1)], h6)) (
 bnd (aR x0 h6) fun v7 h7 =>
 bnd (aB 2 v7 h7) fun v8 h8 =>
 bnd (aA v8 h8) fun v9 h9 =>
 bnd (dN .string (aE 0) false v9 x1 h9) fun v10 h10 =>
 bnd (aD .neq v10 (aE 0) h10) fun v11 h11 =>
 aQ v11 (
 some (.t [v10, (aE 0)], h11)) (
 bnd (r 30 [x0, (aE 11)] h11) fun v12 h12 =>
 bnd (r 83 [x0, v12, x1] h12) fun v13 h13 =>
 bnd (aC 0 v13 h13) fun v14 h14 =>
 bnd (aC 1 v13 h14) fun v15 h15 =>
 bnd (aD .neq v15 (aE 0) h15) fun v16 h16 =>
 aQ v16 (
 some (.t [(aE 0), v15], h16)) (
 bnd (aR x0 h16) fun v17 h17 =>
 bnd (aB 1 v17 h17) fun v18 h18 =>
 bnd (aA v18 h18) fun v19 h19 =>
 bnd (aH 1 v19 (aE 0) h19) fun v20 h20 =>
 bnd (aA v20 h20) fun v21 h21 =>
 bnd (r 73 [x0, v14, v21] h21) fun v22 h22 =>
 bnd (aC 0 v22 h22) fun v23 h23 =>
 bnd (aC 1 v22 h23) fun v24 h24 =>
 bnd (aD .neq v24 (aE 0) h24) fun v25 h25 =>
 aQ v25 (
 some (.t [(aE 0), v24], h25)) (
 bnd (aR x0 h25) fun v26 h26 =>
 bnd (aB 1 v26 h26) fun v27 h27 =>
 bnd (aA v27 h27) fun v28 h28 =>
 bnd (aR x0 h28) fun v29 h29 =>
 bnd (aB 2 v29 h29) fun v30 h30 =>
 bnd (aA v30 h30) fun v31 h31 =>
 bnd (aH 1 v28 (aE 0) h31) fun v32 h32 =>
 bnd (aG 1 v32 v23 h32) fun v33 h33 =>
 bnd (fP .string (aE 0) v31 x1 h33) fun v34 h34 =>
 bnd (aC 1 v34 h34) fun v35 h35 =>
 bnd (dY v31 v35 v14 h35) fun v36 h36 =>
 some (.t [v14, (aE 0)], h36)))))
noncomputable abbrev c44 : Code := cf Tryz.f44
noncomputable abbrev r44 : K := aT CF Tryz.f44
noncomputable def D44 (r : RT) (n : Nat) (c : Code) (X : Nat → K) (k : K) : K := aM CF r 68 n c X r44 k
theorem dNx : D44 r n c44 x0 r44 = (K2 (s44 r n) 0 1) :=
 (by kernel_rfl)
theorem cTa : aF CF r n 44 args h = s44 r n (aS args 0) (aS args 1) h :=
 (by kernel_rfl : aF CF r n 44 args h = D44 r n c44 x0 r44 (aI args) h).trans ((congrFun (congrFun (dNx r n) (aI args)) h).trans (by kernel_rfl))
noncomputable def s45 (r : RT) (n : Nat) (x0 x1 : DV) (h0 : Hp) : aJ :=
 bnd (aR x0 h0) fun v1 h1 =>
 bnd (aB 3 v1 h1) fun v2 h2 =>
 bnd (aA v2 h2) fun v3 h3 =>
 bnd (dN .string (aE 0) false v3 x1 h3) fun v4 h4 =>
 some (v4, h4)
noncomputable abbrev c45 : Code := cf Tryz.f45
noncomputable abbrev r45 : K := aT CF Tryz.f45
noncomputable def D45 (r : RT) (n : Nat) (c : Code) (X : Nat → K) (k : K) : K := aM CF r 11 n c X r45 k
theorem dOc : D45 r n c45 x0 r45 = (K2 (s45 r n) 0 1) :=
 (by kernel_rfl)
theorem cSy : aF CF r n 45 args h = s45 r n (aS args 0) (aS args 1) h :=
 (by kernel_rfl : aF CF r n 45 args h = D45 r n c45 x0 r45 (aI args) h).trans ((congrFun (congrFun (dOc r n) (aI args)) h).trans (by kernel_rfl))
noncomputable def s46 (r : RT) (n : Nat) (x0 x1 : DV) (h0 : Hp) : aJ :=
 bnd (bS x0 h0) fun v1 h1 =>
 bnd (bX x1 h1) fun v2 h2 =>
 bnd (aD .gtr v2 (aE 250) h2) fun v3 h3 =>
 bnd (gD v3 false (some (x1, h3)) h3) fun v4 h4 =>
 bnd (gD v3 false (some ((.f 84 [] [v1]), h4)) h4) fun v5 h5 =>
 bnd (gD v3 false (r 52 [v4, v5] h5) h5) fun v6 h6 =>
 bnd (aO v3 (.b true) v6 h6) fun v7 h7 =>
 aQ v7 (
 some (.t [(aE 0), (aE 1)], h7)) (
 bnd (aA v1 h7) fun v8 h8 =>
 bnd (aA v1 h8) fun v9 h9 =>
 bnd (r 30 [v9, (aE 9)] h9) fun v10 h10 =>
 cnd (bK (aA v1 h10) v8 && true) (
 bnd (r 82 [v8, v10, (aE 0), x1] h10) fun v11 h11 =>
 bnd (aC 0 v11 h11) fun v12 h12 =>
 bnd (aC 1 v11 h12) fun v13 h13 =>
 some (.t [v12, v13], h13)))
noncomputable abbrev c46 : Code := cf Tryz.f46
noncomputable abbrev r46 : K := aT CF Tryz.f46
noncomputable def D46 (r : RT) (n : Nat) (c : Code) (X : Nat → K) (k : K) : K := aM CF r 21 n c X r46 k
theorem dNc : D46 r n c46 x0 r46 = (K2 (s46 r n) 0 1) :=
 (by kernel_rfl)
theorem cSt : aF CF r n 46 args h = s46 r n (aS args 0) (aS args 1) h :=
 (by kernel_rfl : aF CF r n 46 args h = D46 r n c46 x0 r46 (aI args) h).trans ((congrFun (congrFun (dNc r n) (aI args)) h).trans (by kernel_rfl))
noncomputable def s51 (r : RT) (n : Nat) (x0 x1 x2 : DV) (h0 : Hp) : aJ :=
 bnd (aR x0 h0) fun v1 h1 =>
 bnd (aB 0 v1 h1) fun v2 h2 =>
 bnd (aA v2 h2) fun v3 h3 =>
 bnd (yG [v3, x1, x2] h3) fun v4 h4 =>
 bnd (aC 0 v4 h4) fun v5 h5 =>
 bnd (aC 1 v4 h5) fun v6 h6 =>
 some (v5, h6)
noncomputable abbrev c51 : Code := cf Tryz.f51
noncomputable abbrev r51 : K := aT CF Tryz.f51
noncomputable def D51 (r : RT) (n : Nat) (c : Code) (X : Nat → K) (k : K) : K := aM CF r 20 n c X r51 k
theorem dRw : D51 r n c51 x0 r51 = (K3 (s51 r n) 0 1 2) :=
 (by kernel_rfl)
theorem bNx : aF CF r n 51 args h = s51 r n (aS args 0) (aS args 1) (aS args 2) h :=
 (by kernel_rfl : aF CF r n 51 args h = D51 r n c51 x0 r51 (aI args) h).trans ((congrFun (congrFun (dRw r n) (aI args)) h).trans (by kernel_rfl))
noncomputable def s52 (r : RT) (n : Nat) (x0 x1 : DV) (h0 : Hp) : aJ :=
 bnd (r 89 [x0, x1] h0) fun v1 h1 =>
 bnd (aD .geq v1 (aE 0) h1) fun v2 h2 =>
 some (v2, h2)
noncomputable abbrev c52 : Code := cf Tryz.f52
noncomputable abbrev r52 : K := aT CF Tryz.f52
noncomputable def D52 (r : RT) (n : Nat) (c : Code) (X : Nat → K) (k : K) : K := aM CF r 9 n c X r52 k
theorem dRz : D52 r n c52 x0 r52 = (K2 (s52 r n) 0 1) :=
 (by kernel_rfl)
theorem bWu : aF CF r n 52 args h = s52 r n (aS args 0) (aS args 1) h :=
 (by kernel_rfl : aF CF r n 52 args h = D52 r n c52 x0 r52 (aI args) h).trans ((congrFun (congrFun (dRz r n) (aI args)) h).trans (by kernel_rfl))
noncomputable def s53 (r : RT) (n : Nat) (x0 x1 : DV) (h0 : Hp) : aJ :=
 bnd (aA x1 h0) fun v1 h1 =>
 bnd (aIl [v1, x0] h1) fun v2 h2 =>
 bnd (gI .not v2 h2) fun v3 h3 =>
 some (v3, h3)
noncomputable abbrev c53 : Code := cf Tryz.f53
noncomputable abbrev r53 : K := aT CF Tryz.f53
noncomputable def D53 (r : RT) (n : Nat) (c : Code) (X : Nat → K) (k : K) : K := aM CF r 8 n c X r53 k
theorem dPj : D53 r n c53 x0 r53 = (K2 (s53 r n) 0 1) :=
 (by kernel_rfl)
theorem cSw : aF CF r n 53 args h = s53 r n (aS args 0) (aS args 1) h :=
 (by kernel_rfl : aF CF r n 53 args h = D53 r n c53 x0 r53 (aI args) h).trans ((congrFun (congrFun (dPj r n) (aI args)) h).trans (by kernel_rfl))
noncomputable def s54 (r : RT) (n : Nat) (h0 : Hp) : aJ :=
 some (.t [(aE 0), (aE 20)], h0)
noncomputable abbrev c54 : Code := cf Tryz.f54
noncomputable abbrev r54 : K := aT CF Tryz.f54
noncomputable def D54 (r : RT) (n : Nat) (c : Code) (X : Nat → K) (k : K) : K := aM CF r 2 n c X r54 k
theorem dQv : D54 r n c54 x0 r54 = (K0 (s54 r n)) :=
 (by kernel_rfl)
theorem bOm : aF CF r n 54 args h = s54 r n h :=
 (by kernel_rfl : aF CF r n 54 args h = D54 r n c54 x0 r54 (aI args) h).trans ((congrFun (congrFun (dQv r n) (aI args)) h).trans (by kernel_rfl))
noncomputable def s56 (r : RT) (n : Nat) (x0 : DV) (h0 : Hp) : aJ :=
 bnd (aR x0 h0) fun v1 h1 =>
 bnd (aB 1 v1 h1) fun v2 h2 =>
 bnd (aA v2 h2) fun v3 h3 =>
 bnd (aD .eql v3 (.i .i64 (Int.ofNat 10)) h3) fun v4 h4 =>
 aQ v4 (
 bnd (aR x0 h4) fun v5 h5 =>
 bnd (aB 2 v5 h5) fun v6 h6 =>
 bnd (aA v6 h6) fun v7 h7 =>
 bnd (aR x0 h7) fun v8 h8 =>
 bnd (aB 3 v8 h8) fun v9 h9 =>
 bnd (aA v9 h9) fun v10 h10 =>
 bnd (aH 1 v10 (.i .i64 (Int.ofNat 0)) h10) fun v11 h11 =>
 bnd (aA v11 h11) fun v12 h12 =>
 bnd (aD .eql v7 v12 h12) fun v13 h13 =>
 bnd (r 95 [v13] h13) fun v14 h14 =>
 bnd (aC 0 v14 h14) fun v15 h15 =>
 bnd (aC 1 v14 h15) fun v16 h16 =>
 some (.t [v15, v16], h16)) (
 bnd (aR x0 h4) fun v17 h17 =>
 bnd (aB 0 v17 h17) fun v18 h18 =>
 bnd (aA v18 h18) fun v19 h19 =>
 bnd (aR x0 h19) fun v20 h20 =>
 bnd (aB 2 v20 h20) fun v21 h21 =>
 bnd (aA v21 h21) fun v22 h22 =>
 bnd (r 25 [v19, v22] h22) fun v23 h23 =>
 some (.t [v23, (.i .i64 (Int.ofNat 0))], h23))
noncomputable abbrev c56 : Code := cf Tryz.f56
noncomputable abbrev r56 : K := aT CF Tryz.f56
noncomputable def D56 (r : RT) (n : Nat) (c : Code) (X : Nat → K) (k : K) : K := aM CF r 32 n c X r56 k
theorem dPe : D56 r n c56 x0 r56 = (K1 (s56 r n) 0) :=
 (by kernel_rfl)
theorem dGg : aF CF r n 56 args h = s56 r n (aS args 0) h :=
 (by kernel_rfl : aF CF r n 56 args h = D56 r n c56 x0 r56 (aI args) h).trans ((congrFun (congrFun (dPe r n) (aI args)) h).trans (by kernel_rfl))
end Go.Dd

namespace Go.Dd
open Go.Proofs
variable (r : RT) (n : Nat) (args : List DV) (h : Hp)
noncomputable def s60 (r : RT) (n : Nat) (x0 : DV) (h0 : Hp) : aJ :=
 bnd (aR x0 h0) fun v1 h1 =>
 bnd (aB 0 v1 h1) fun v2 h2 =>
 bnd (aA v2 h2) fun v3 h3 =>
 bnd (aR x0 h3) fun v4 h4 =>
 bnd (aB 2 v4 h4) fun v5 h5 =>
 bnd (aA v5 h5) fun v6 h6 =>
 bnd (r 32 [v3, v6] h6) fun v7 h7 =>
 bnd (aD .lss v7 (.i .i64 (Int.ofNat 0)) h7) fun v8 h8 =>
 aQ v8 (
 bnd (r 54 [] h8) fun v9 h9 =>
 bnd (aC 0 v9 h9) fun v10 h10 =>
 bnd (aC 1 v9 h10) fun v11 h11 =>
 some (.t [v10, v11], h11)) (
 bnd (aR x0 h8) fun v12 h12 =>
 bnd (aB 1 v12 h12) fun v13 h13 =>
 bnd (aA v13 h13) fun v14 h14 =>
 bnd (aD .eql v14 (.i .i64 (Int.ofNat 41)) h14) fun v15 h15 =>
 aQ v15 (
 bnd (aR x0 h15) fun v16 h16 =>
 bnd (aB 0 v16 h16) fun v17 h17 =>
 bnd (aA v17 h17) fun v18 h18 =>
 bnd (aR x0 h18) fun v19 h19 =>
 bnd (aB 2 v19 h19) fun v20 h20 =>
 bnd (aA v20 h20) fun v21 h21 =>
 bnd (r 35 [v18, v21] h21) fun v22 h22 =>
 some (.t [v22, (.i .i64 (Int.ofNat 0))], h22)) (
 bnd (aR x0 h15) fun v23 h23 =>
 bnd (aB 0 v23 h23) fun v24 h24 =>
 bnd (aA v24 h24) fun v25 h25 =>
 bnd (aR x0 h25) fun v26 h26 =>
 bnd (aB 0 v26 h26) fun v27 h27 =>
 bnd (aA v27 h27) fun v28 h28 =>
 bnd (aR x0 h28) fun v29 h29 =>
 bnd (aB 2 v29 h29) fun v30 h30 =>
 bnd (aA v30 h30) fun v31 h31 =>
 bnd (r 34 [v28, v31] h31) fun v32 h32 =>
 cnd (bK (aA v24 h32) v25 && true) (
 bnd (r 44 [v25, v32] h32) fun v33 h33 =>
 bnd (aC 0 v33 h33) fun v34 h34 =>
 bnd (aC 1 v33 h34) fun v35 h35 =>
 some (.t [v34, v35], h35))))
noncomputable abbrev c60 : Code := cf Tryz.f60
noncomputable abbrev r60 : K := aT CF Tryz.f60
noncomputable def D60 (r : RT) (n : Nat) (c : Code) (X : Nat → K) (k : K) : K := aM CF r 49 n c X r60 k
theorem dQg : D60 r n c60 x0 r60 = (K1 (s60 r n) 0) :=
 (by kernel_rfl)
theorem cTg : aF CF r n 60 args h = s60 r n (aS args 0) h :=
 (by kernel_rfl : aF CF r n 60 args h = D60 r n c60 x0 r60 (aI args) h).trans ((congrFun (congrFun (dQg r n) (aI args)) h).trans (by kernel_rfl))
noncomputable def s67 (r : RT) (n : Nat) (x0 x1 : DV) (h0 : Hp) : aJ :=
 bnd (aR x0 h0) fun v1 h1 =>
 bnd (aB 0 v1 h1) fun v2 h2 =>
 bnd (aA v2 h2) fun v3 h3 =>
 bnd (isF [v3, x1] h3) fun v4 h4 =>
 bnd (gD v4 true (some (x0, h4)) h4) fun v5 h5 =>
 bnd (gD v4 true (aR v5 h5) h5) fun v6 h6 =>
 bnd (gD v4 true (aB 0 v6 h6) h6) fun v7 h7 =>
 bnd (gD v4 true (aA v7 h7) h7) fun v8 h8 =>
 bnd (gD v4 true (some (x1, h8)) h8) fun v9 h9 =>
 bnd (gD v4 true (iR [v8, v9] h9) h9) fun v10 h10 =>
 bnd (gD v4 true (some (x0, h10)) h10) fun v11 h11 =>
 bnd (gD v4 true (r 30 [v11, (aE 1)] h11) h11) fun v12 h12 =>
 bnd (gD v4 true (aD .eql v10 v12 h12) h12) fun v13 h13 =>
 bnd (aO v4 v13 (.b false) h13) fun v14 h14 =>
 bnd (gD v14 true (some (x0, h14)) h14) fun v15 h15 =>
 bnd (gD v14 true (aR v15 h15) h15) fun v16 h16 =>
 bnd (gD v14 true (aB 0 v16 h16) h16) fun v17 h17 =>
 bnd (gD v14 true (aA v17 h17) h17) fun v18 h18 =>
 bnd (gD v14 true (some (x1, h18)) h18) fun v19 h19 =>
 bnd (gD v14 true (gO [v18, v19] h19) h19) fun v20 h20 =>
 bnd (gD v14 true (aD .eql v20 (aE 6) h20) h20) fun v21 h21 =>
 bnd (aO v14 v21 (.b false) h21) fun v22 h22 =>
 some (v22, h22)
noncomputable abbrev c67 : Code := cf Tryz.f67
noncomputable abbrev r67 : K := aT CF Tryz.f67
noncomputable def D67 (r : RT) (n : Nat) (c : Code) (X : Nat → K) (k : K) : K := aM CF r 31 n c X r67 k
theorem dOb : D67 r n c67 x0 r67 = (K2 (s67 r n) 0 1) :=
 (by kernel_rfl)
theorem cTv : aF CF r n 67 args h = s67 r n (aS args 0) (aS args 1) h :=
 (by kernel_rfl : aF CF r n 67 args h = D67 r n c67 x0 r67 (aI args) h).trans ((congrFun (congrFun (dOb r n) (aI args)) h).trans (by kernel_rfl))
noncomputable def s71 (r : RT) (n : Nat) (x0 : DV) (h0 : Hp) : aJ :=
 bnd (gS [x0] h0) fun v1 h1 =>
 bnd (aC 0 v1 h1) fun v2 h2 =>
 bnd (aC 1 v1 h2) fun v3 h3 =>
 some (v2, h3)
noncomputable abbrev c71 : Code := cf Tryz.f71
noncomputable abbrev r71 : K := aT CF Tryz.f71
noncomputable def D71 (r : RT) (n : Nat) (c : Code) (X : Nat → K) (k : K) : K := aM CF r 11 n c X r71 k
theorem dOe : D71 r n c71 x0 r71 = (K1 (s71 r n) 0) :=
 (by kernel_rfl)
theorem dIi : aF CF r n 71 args h = s71 r n (aS args 0) h :=
 (by kernel_rfl : aF CF r n 71 args h = D71 r n c71 x0 r71 (aI args) h).trans ((congrFun (congrFun (dOe r n) (aI args)) h).trans (by kernel_rfl))
noncomputable def s73 (r : RT) (n : Nat) (x0 x1 x2 : DV) (h0 : Hp) : aJ :=
 bnd (r 30 [x0, (aE 9)] h0) fun v1 h1 =>
 bnd (aL [(aE 0), (aE 0)] 2 [(0, 1, x1), (1, 1, x2)] h1) fun v2 h2 =>
 bnd (r 82 [x0, v1, (aE 0), v2] h2) fun v3 h3 =>
 bnd (aC 0 v3 h3) fun v4 h4 =>
 bnd (aC 1 v3 h4) fun v5 h5 =>
 some (.t [v4, v5], h5)
noncomputable abbrev c73 : Code := cf Tryz.f73
noncomputable abbrev r73 : K := aT CF Tryz.f73
noncomputable def D73 (r : RT) (n : Nat) (c : Code) (X : Nat → K) (k : K) : K := aM CF r 17 n c X r73 k
theorem dPl : D73 r n c73 x0 r73 = (K3 (s73 r n) 0 1 2) :=
 (by kernel_rfl)
theorem cTw : aF CF r n 73 args h = s73 r n (aS args 0) (aS args 1) (aS args 2) h :=
 (by kernel_rfl : aF CF r n 73 args h = D73 r n c73 x0 r73 (aI args) h).trans ((congrFun (congrFun (dPl r n) (aI args)) h).trans (by kernel_rfl))
noncomputable def s75 (r : RT) (n : Nat) (x0 x1 x2 : DV) (h0 : Hp) : aJ :=
 bnd (r 45 [x0, x1] h0) fun v1 h1 =>
 bnd (aD .eql v1 (aE 0) h1) fun v2 h2 =>
 aQ v2 (
 some (.t [(aE 0), (aE 0), (.s []), (aE 24)], h2)) (
 bnd (r 99 [x2] h2) fun v3 h3 =>
 bnd (aC 0 v3 h3) fun v4 h4 =>
 bnd (aC 1 v3 h4) fun v5 h5 =>
 bnd (aC 2 v3 h5) fun v6 h6 =>
 bnd (bL gY h6) fun v7 h7 =>
 bnd (aG 6 v7 v4 h7) fun _ h8 =>
 bnd (aD .neq v6 (aE 0) h8) fun v9 h9 =>
 aQ v9 (
 some (.t [(aE 0), v5, (.s []), v6], h9)) (
 bnd (aK 6 v7 (resv 1 h9)) fun v10 h10 =>
 bnd (r 77 [x0, v1] h10) fun v11 h11 =>
 cnd (bK (aK 6 v7 h11) v10 && true) (
 bnd (r 100 [v10, v11] h11) fun v12 h12 =>
 bnd (aC 0 v12 h12) fun v13 h13 =>
 bnd (aC 1 v12 h13) fun v14 h14 =>
 bnd (aC 2 v12 h14) fun v15 h15 =>
 bnd (lH (bY 0 h9.next) [(.s []), (aE 0), (aE 0), (aE 0), .l0, .l0] h15) fun v16 h16 =>
 bnd (aG 6 v16 v13 h16) fun v17 h17 =>
 bnd (aD .neq v15 (aE 0) h17) fun v18 h18 =>
 aQ v18 (
 some (.t [(aE 0), (aE 0), v14, v15], h18)) (
 bnd (aK 6 v16 h18) fun v19 h19 =>
 bnd (r 101 [x0, v1, v19] h19) fun v20 h20 =>
 bnd (aC 0 v20 h20) fun v21 h21 =>
 bnd (aC 1 v20 h21) fun v22 h22 =>
 bnd (aD .neq v22 (aE 0) h22) fun v23 h23 =>
 aQ v23 (
 some (.t [(aE 0), (aE 0), (.s []), v22], h23)) (
 some (.t [v21, (aE 0), (.s []), (aE 0)], h23))))))
noncomputable abbrev c75 : Code := cf Tryz.f75
noncomputable abbrev r75 : K := aT CF Tryz.f75
noncomputable def D75 (r : RT) (n : Nat) (c : Code) (X : Nat → K) (k : K) : K := aM CF r 56 n c X r75 k
theorem dSd : D75 r n c75 x0 r75 = (K3 (s75 r n) 0 1 2) :=
 (by kernel_rfl)
theorem dMd : aF CF r n 75 args h = s75 r n (aS args 0) (aS args 1) (aS args 2) h :=
 (by kernel_rfl : aF CF r n 75 args h = D75 r n c75 x0 r75 (aI args) h).trans ((congrFun (congrFun (dSd r n) (aI args)) h).trans (by kernel_rfl))
noncomputable def bZ (r : RT) (n : Nat) (x5 : DV) (h0 : Hp) : aJ :=
 some (x5, h0)
noncomputable def cV (r : RT) (n : Nat) (kk5 : dQ) (x0 x1 x5 x6 : DV) (h0 : Hp) : aJ :=
 bnd (aD .sub x6 (aE 1) h0) fun v1 h1 =>
  kk5 x0 x1 x5 v1 h1
noncomputable def eA (r : RT) (n : Nat) (kk5 : dQ) (x0 x1 x5 x6 x7 : DV) (h0 : Hp) : aJ :=
 bnd (aZ 1 16 x7 x5 h0) fun v1 h1 =>
 bnd (r 35 [x0, x1] h1) fun v2 h2 =>
  cV r n kk5 x0 v2 v1 x6 h2
noncomputable def aHv (r : RT) (n : Nat) (kk5 : dQ) (kk12 : TT8) (x0 x1 x5 x6 x7 x8 x34 x35 : DV) (h0 : Hp) : aJ :=
 bnd (aD .lss x35 x34 h0) fun v1 h1 =>
 aQ v1 (
 bnd (r 51 [x0, x8, x35] h1) fun v2 h2 =>
 bnd (r 33 [x0, v2] h2) fun v3 h3 =>
 bnd (aC 0 v3 h3) fun v4 h4 =>
 bnd (aC 1 v3 h4) fun v5 h5 =>
 bnd (aL [(.s [])] 1 [(0, 1, v4)] h5) fun v6 h6 =>
 bnd (aZ 1 16 x7 v6 h6) fun v7 h7 =>
 bnd (aD .add x35 (aE 1) h7) fun v8 h8 =>
      kk12 x0 x1 x5 x6 v7 x8 x34 v8 h8) (
      eA r n kk5 x0 x1 x5 x6 x7 h1)
noncomputable def uR (r : RT) (n : Nat) (kk5 : dQ) (m : Nat) : TT8 :=
 Nat.rec (motive := fun _ => TT8) (fun _ _ _ _ _ _ _ _ _ => none) (fun _ ih => aHv r n kk5 ih) m
noncomputable def bSj (r : RT) (n : Nat) (kk5 : dQ) : TT8 := uR r n kk5 n
noncomputable def aSt (r : RT) (n : Nat) (kk5 : dQ) (x0 x1 x5 x6 x7 x8 x34 x35 : DV) (h0 : Hp) : aJ :=
 bSj r n kk5 x0 x1 x5 x6 x7 x8 x34 x35 h0
noncomputable def bPp (r : RT) (n : Nat) (kk5 : dQ) (x0 x1 x5 x6 x7 x8 : DV) (h0 : Hp) : aJ :=
 bnd (aR x0 h0) fun v1 h1 =>
 bnd (aB 0 v1 h1) fun v2 h2 =>
 bnd (aA v2 h2) fun v3 h3 =>
 bnd (gO [v3, x8] h3) fun v4 h4 =>
  aSt r n kk5 x0 x1 x5 x6 x7 x8 v4 (aE 0) h4
noncomputable def bTb (r : RT) (n : Nat) (kk5 : dQ) (x0 x1 x5 x6 x7 : DV) (h0 : Hp) : aJ :=
 bnd (r 51 [x0, x1, (aE 3)] h0) fun v1 h1 =>
  bPp r n kk5 x0 x1 x5 x6 x7 v1 h1
noncomputable def bVp (r : RT) (n : Nat) (kk5 : dQ) (x0 x1 x5 x6 : DV) (h0 : Hp) : aJ :=
 bTb r n kk5 x0 x1 x5 x6 .l0 h0
noncomputable def cCv (r : RT) (n : Nat) (kk5 : dQ) (x0 x1 x5 x6 : DV) (h0 : Hp) : aJ :=
 bnd (aD .gtr x6 (aE 0) h0) fun v1 h1 =>
 bnd (gD v1 true (some (x0, h1)) h1) fun v2 h2 =>
 bnd (gD v1 true (some (x1, h2)) h2) fun v3 h3 =>
 bnd (gD v1 true (r 67 [v2, v3] h3) h3) fun v4 h4 =>
 bnd (aO v1 v4 (.b false) h4) fun v5 h5 =>
 aQ v5 (
   bVp r n kk5 x0 x1 x5 x6 h5) (
   bZ r n x5 h5)
noncomputable def aFe (r : RT) (n : Nat) (m : Nat) : dQ :=
 Nat.rec (motive := fun _ => dQ) (fun _ _ _ _ _ => none) (fun _ ih => cCv r n ih) m
noncomputable def cTr (r : RT) (n : Nat) : dQ := aFe r n n
noncomputable def bNy (r : RT) (n : Nat) (x0 x1 x5 x6 : DV) (h0 : Hp) : aJ :=
 cTr r n x0 x1 x5 x6 h0
noncomputable def bRj (r : RT) (n : Nat) (x0 x1 x5 : DV) (h0 : Hp) : aJ :=
 bnd (aR x0 h0) fun v1 h1 =>
 bnd (aB 0 v1 h1) fun v2 h2 =>
 bnd (aA v2 h2) fun v3 h3 =>
 bnd (aAi [v3] h3) fun v4 h4 =>
  bNy r n x0 x1 x5 v4 h4
noncomputable def bYq (r : RT) (n : Nat) (x0 x1 : DV) (h0 : Hp) : aJ :=
 bRj r n x0 x1 .l0 h0
noncomputable def s77 (r : RT) (n : Nat) (x0 x1 : DV) (h0 : Hp) : aJ :=
 bYq r n x0 x1 h0
noncomputable abbrev c77 : Code := cf Tryz.f77
noncomputable abbrev aXe : Code := cR c77
noncomputable abbrev aWk : Code := cR aXe
noncomputable abbrev dJm : Code := cR aWk
noncomputable abbrev aNi : Code := cL aWk
noncomputable abbrev bMa : Code := cR aNi
noncomputable abbrev aXq : Code := cL bMa
noncomputable abbrev nD : Code := cL aXq
noncomputable abbrev bCx : Code := cR nD
noncomputable abbrev dKd : Code := cR bCx
noncomputable abbrev aDs : Code := cL bCx
noncomputable abbrev aKn : Code := cL aDs
noncomputable abbrev aJn : Code := cR aKn
noncomputable abbrev aDi : Code := cR aJn
noncomputable abbrev cUk : Code := cR aDi
noncomputable abbrev yL : Code := cL aDi
noncomputable abbrev aTk : Code := cR yL
noncomputable abbrev aCo : Code := cL aTk
noncomputable abbrev lT : Code := cL aCo
noncomputable abbrev bYe : Code := cL yL
noncomputable abbrev cBb : Code := cL aJn
noncomputable abbrev bTv : Code := cL aKn
noncomputable abbrev bTc : Code := cL nD
noncomputable abbrev bSg : Code := cL aNi
noncomputable abbrev bQs : Code := cL aXe
noncomputable abbrev bUu : Code := cL c77
noncomputable abbrev r77 : K := aT CF Tryz.f77
noncomputable def D77 (r : RT) (n : Nat) (c : Code) (X : Nat → K) (k : K) : K := aM CF r 59 n c X r77 k
theorem dFo : D77 r n dJm x0 r77 = (K1 (bZ r n) 5) :=
 (by kernel_rfl)
theorem dEm (kk5 : dQ) : D77 r n dKd (xs x0 0 (K1 (bZ r n) 5)) (K4 kk5 0 1 5 6) = (K4 (cV r n kk5) 0 1 5 6) :=
 (by kernel_rfl)
theorem cIv (kk5 : dQ) : D77 r n cUk (xs (xs x0 0 (K1 (bZ r n) 5)) 1 (K4 (cV r n kk5) 0 1 5 6)) (K4 (cV r n kk5) 0 1 5 6) = (K5 (eA r n kk5) 0 1 5 6 7) :=
 (by kernel_rfl)
theorem bVs (kk5 : dQ) (kk12 : TT8) (q0 : TT1) (q1 : dQ) (q2 : cE) : D77 r n lT (xs (xs (xs x0 0 (K1 q0 5)) 1 (K4 q1 0 1 5 6)) 2 (K5 q2 0 1 5 6 7)) (K8 kk12 0 1 5 6 7 8 34 35) = fun (env : aY) (h : Hp) =>
 bnd (aD .lss (env 35) (env 34) h) fun v1 h1 =>
 aQ v1 (
 bnd (r 51 [(env 0), (env 8), (env 35)] h1) fun v2 h2 =>
 bnd (r 33 [(env 0), v2] h2) fun v3 h3 =>
 bnd (aC 0 v3 h3) fun v4 h4 =>
 bnd (aC 1 v3 h4) fun v5 h5 =>
 bnd (aL [(.s [])] 1 [(0, 1, v4)] h5) fun v6 h6 =>
 bnd (aZ 1 16 (env 7) v6 h6) fun v7 h7 =>
 bnd (aD .add (env 35) (aE 1) h7) fun v8 h8 =>
      kk12 (env 0) (env 1) (env 5) (env 6) v7 (env 8) (env 34) v8 h8) (
      q2 (env 0) (env 1) (env 5) (env 6) (env 7) h1) := by kernel_rfl
theorem bEj (kk5 : dQ) (kk12 : TT8) : (fun (env : aY) (h : Hp) =>
 bnd (aD .lss (env 35) (env 34) h) fun v1 h1 =>
 aQ v1 (
 bnd (r 51 [(env 0), (env 8), (env 35)] h1) fun v2 h2 =>
 bnd (r 33 [(env 0), v2] h2) fun v3 h3 =>
 bnd (aC 0 v3 h3) fun v4 h4 =>
 bnd (aC 1 v3 h4) fun v5 h5 =>
 bnd (aL [(.s [])] 1 [(0, 1, v4)] h5) fun v6 h6 =>
 bnd (aZ 1 16 (env 7) v6 h6) fun v7 h7 =>
 bnd (aD .add (env 35) (aE 1) h7) fun v8 h8 =>
      kk12 (env 0) (env 1) (env 5) (env 6) v7 (env 8) (env 34) v8 h8) (
      eA r n kk5 (env 0) (env 1) (env 5) (env 6) (env 7) h1)) = (K8 (aHv r n kk5 kk12) 0 1 5 6 7 8 34 35) := by kernel_rfl
theorem bTt (kk5 : dQ) (kk12 : TT8) : D77 r n lT (xs (xs (xs x0 0 (K1 (bZ r n) 5)) 1 (K4 (cV r n kk5) 0 1 5 6)) 2 (K5 (eA r n kk5) 0 1 5 6 7)) (K8 kk12 0 1 5 6 7 8 34 35) = (K8 (aHv r n kk5 kk12) 0 1 5 6 7 8 34 35) :=
 (bVs r n kk5 kk12 (bZ r n) (cV r n kk5) (eA r n kk5)).trans (bEj r n kk5 kk12)
theorem bQy (kk5 : dQ) (m : Nat) : aN (fun kk => D77 r n lT (xs (xs (xs x0 0 (K1 (bZ r n) 5)) 1 (K4 (cV r n kk5) 0 1 5 6)) 2 (K5 (eA r n kk5) 0 1 5 6 7)) kk) m = (K8 (uR r n kk5 m) 0 1 5 6 7 8 34 35) := by
 induction m with
 | zero => exact (by kernel_rfl : aN (fun kk => D77 r n lT (xs (xs (xs x0 0 (K1 (bZ r n) 5)) 1 (K4 (cV r n kk5) 0 1 5 6)) 2 (K5 (eA r n kk5) 0 1 5 6 7)) kk) 0 = (K8 (uR r n kk5 0) 0 1 5 6 7 8 34 35))
 | succ m ih =>
  refine (by kernel_rfl : aN (fun kk => D77 r n lT (xs (xs (xs x0 0 (K1 (bZ r n) 5)) 1 (K4 (cV r n kk5) 0 1 5 6)) 2 (K5 (eA r n kk5) 0 1 5 6 7)) kk) (m + 1) = D77 r n lT (xs (xs (xs x0 0 (K1 (bZ r n) 5)) 1 (K4 (cV r n kk5) 0 1 5 6)) 2 (K5 (eA r n kk5) 0 1 5 6 7)) (aN (fun kk => D77 r n lT (xs (xs (xs x0 0 (K1 (bZ r n) 5)) 1 (K4 (cV r n kk5) 0 1 5 6)) 2 (K5 (eA r n kk5) 0 1 5 6 7)) kk) m)).trans ?_
  rw [ih]
  exact (bTt r n kk5 (uR r n kk5 m)).trans (by kernel_rfl)
theorem cLt (kk5 : dQ) : D77 r n aCo (xs (xs (xs x0 0 (K1 (bZ r n) 5)) 1 (K4 (cV r n kk5) 0 1 5 6)) 2 (K5 (eA r n kk5) 0 1 5 6 7)) (K5 (eA r n kk5) 0 1 5 6 7) = (K8 (bSj r n kk5) 0 1 5 6 7 8 34 35) :=
 (by kernel_rfl : D77 r n aCo (xs (xs (xs x0 0 (K1 (bZ r n) 5)) 1 (K4 (cV r n kk5) 0 1 5 6)) 2 (K5 (eA r n kk5) 0 1 5 6 7)) (K5 (eA r n kk5) 0 1 5 6 7) = aN (fun kk => D77 r n lT (xs (xs (xs x0 0 (K1 (bZ r n) 5)) 1 (K4 (cV r n kk5) 0 1 5 6)) 2 (K5 (eA r n kk5) 0 1 5 6 7)) kk) n).trans ((bQy r n kk5 n).trans (by kernel_rfl))
theorem cGo (kk5 : dQ) : D77 r n aTk (xs (xs x0 0 (K1 (bZ r n) 5)) 1 (K4 (cV r n kk5) 0 1 5 6)) (K5 (eA r n kk5) 0 1 5 6 7) = (K8 (aSt r n kk5) 0 1 5 6 7 8 34 35) :=
 (by kernel_rfl : D77 r n aTk (xs (xs x0 0 (K1 (bZ r n) 5)) 1 (K4 (cV r n kk5) 0 1 5 6)) (K5 (eA r n kk5) 0 1 5 6 7) = D77 r n aCo (xs (xs (xs x0 0 (K1 (bZ r n) 5)) 1 (K4 (cV r n kk5) 0 1 5 6)) 2 (K5 (eA r n kk5) 0 1 5 6 7)) (K5 (eA r n kk5) 0 1 5 6 7)).trans
 ((cLt r n kk5).trans (by kernel_rfl))
theorem cOp (kk5 : dQ) : D77 r n aDi (xs (xs x0 0 (K1 (bZ r n) 5)) 1 (K4 (cV r n kk5) 0 1 5 6)) (K4 (cV r n kk5) 0 1 5 6) = D77 r n yL (xs (xs x0 0 (K1 (bZ r n) 5)) 1 (K4 (cV r n kk5) 0 1 5 6)) (K5 (eA r n kk5) 0 1 5 6 7) :=
 congrArg (fun k => D77 r n yL (xs (xs x0 0 (K1 (bZ r n) 5)) 1 (K4 (cV r n kk5) 0 1 5 6)) k) (cIv r n kk5)
theorem cKq (kk5 : dQ) : D77 r n yL (xs (xs x0 0 (K1 (bZ r n) 5)) 1 (K4 (cV r n kk5) 0 1 5 6)) (K5 (eA r n kk5) 0 1 5 6 7) = D77 r n bYe (xs (xs x0 0 (K1 (bZ r n) 5)) 1 (K4 (cV r n kk5) 0 1 5 6)) (K8 (aSt r n kk5) 0 1 5 6 7 8 34 35) :=
 congrArg (fun k => D77 r n bYe (xs (xs x0 0 (K1 (bZ r n) 5)) 1 (K4 (cV r n kk5) 0 1 5 6)) k) (cGo r n kk5)
theorem dAc (kk5 : dQ) : D77 r n aDi (xs (xs x0 0 (K1 (bZ r n) 5)) 1 (K4 (cV r n kk5) 0 1 5 6)) (K4 (cV r n kk5) 0 1 5 6) = (K6 (bPp r n kk5) 0 1 5 6 7 8) :=
 (cOp r n kk5).trans
 ((cKq r n kk5).trans
 ((by kernel_rfl)))
theorem cLl (kk5 : dQ) : D77 r n aJn (xs (xs x0 0 (K1 (bZ r n) 5)) 1 (K4 (cV r n kk5) 0 1 5 6)) (K4 (cV r n kk5) 0 1 5 6) = D77 r n cBb (xs (xs x0 0 (K1 (bZ r n) 5)) 1 (K4 (cV r n kk5) 0 1 5 6)) (K6 (bPp r n kk5) 0 1 5 6 7 8) :=
 congrArg (fun k => D77 r n cBb (xs (xs x0 0 (K1 (bZ r n) 5)) 1 (K4 (cV r n kk5) 0 1 5 6)) k) (dAc r n kk5)
theorem cYg (kk5 : dQ) : D77 r n aJn (xs (xs x0 0 (K1 (bZ r n) 5)) 1 (K4 (cV r n kk5) 0 1 5 6)) (K4 (cV r n kk5) 0 1 5 6) = (K5 (bTb r n kk5) 0 1 5 6 7) :=
 (cLl r n kk5).trans
 ((by kernel_rfl))
theorem cHt (kk5 : dQ) : D77 r n bCx (xs x0 0 (K1 (bZ r n) 5)) (K4 kk5 0 1 5 6) = D77 r n aDs (xs x0 0 (K1 (bZ r n) 5)) (K4 (cV r n kk5) 0 1 5 6) :=
 congrArg (fun k => D77 r n aDs (xs x0 0 (K1 (bZ r n) 5)) k) (dEm r n kk5)
theorem cIr (kk5 : dQ) : D77 r n aKn (xs (xs x0 0 (K1 (bZ r n) 5)) 1 (K4 (cV r n kk5) 0 1 5 6)) (K4 (cV r n kk5) 0 1 5 6) = D77 r n bTv (xs (xs x0 0 (K1 (bZ r n) 5)) 1 (K4 (cV r n kk5) 0 1 5 6)) (K5 (bTb r n kk5) 0 1 5 6 7) :=
 congrArg (fun k => D77 r n bTv (xs (xs x0 0 (K1 (bZ r n) 5)) 1 (K4 (cV r n kk5) 0 1 5 6)) k) (cYg r n kk5)
theorem dFe (kk5 : dQ) : D77 r n bCx (xs x0 0 (K1 (bZ r n) 5)) (K4 kk5 0 1 5 6) = (K4 (bVp r n kk5) 0 1 5 6) :=
 (cHt r n kk5).trans
 ((by kernel_rfl : D77 r n aDs (xs x0 0 (K1 (bZ r n) 5)) (K4 (cV r n kk5) 0 1 5 6) = D77 r n aKn (xs (xs x0 0 (K1 (bZ r n) 5)) 1 (K4 (cV r n kk5) 0 1 5 6)) (K4 (cV r n kk5) 0 1 5 6)).trans
 ((cIr r n kk5).trans
 ((by kernel_rfl))))
theorem cJz (kk5 : dQ) : D77 r n nD (xs x0 0 (K1 (bZ r n) 5)) (K4 kk5 0 1 5 6) = D77 r n bTc (xs x0 0 (K1 (bZ r n) 5)) (K4 (bVp r n kk5) 0 1 5 6) :=
 congrArg (fun k => D77 r n bTc (xs x0 0 (K1 (bZ r n) 5)) k) (dFe r n kk5)
theorem cQx (kk5 : dQ) : D77 r n nD (xs x0 0 (K1 (bZ r n) 5)) (K4 kk5 0 1 5 6) = (K4 (cCv r n kk5) 0 1 5 6) :=
 (cJz r n kk5).trans
 ((by kernel_rfl))
theorem cHd (m : Nat) : aN (fun kk => D77 r n nD (xs x0 0 (K1 (bZ r n) 5)) kk) m = (K4 (aFe r n m) 0 1 5 6) := by
 induction m with
 | zero => exact (by kernel_rfl : aN (fun kk => D77 r n nD (xs x0 0 (K1 (bZ r n) 5)) kk) 0 = (K4 (aFe r n 0) 0 1 5 6))
 | succ m ih =>
  refine (by kernel_rfl : aN (fun kk => D77 r n nD (xs x0 0 (K1 (bZ r n) 5)) kk) (m + 1) = D77 r n nD (xs x0 0 (K1 (bZ r n) 5)) (aN (fun kk => D77 r n nD (xs x0 0 (K1 (bZ r n) 5)) kk) m)).trans ?_
  rw [ih]
  exact (cQx r n (aFe r n m)).trans (by kernel_rfl)
theorem cUw : D77 r n aXq (xs x0 0 (K1 (bZ r n) 5)) (K1 (bZ r n) 5) = (K4 (cTr r n) 0 1 5 6) :=
 (by kernel_rfl : D77 r n aXq (xs x0 0 (K1 (bZ r n) 5)) (K1 (bZ r n) 5) = aN (fun kk => D77 r n nD (xs x0 0 (K1 (bZ r n) 5)) kk) n).trans ((cHd r n n).trans (by kernel_rfl))
theorem cVp : D77 r n bMa x0 (K1 (bZ r n) 5) = (K4 (bNy r n) 0 1 5 6) :=
 (by kernel_rfl : D77 r n bMa x0 (K1 (bZ r n) 5) = D77 r n aXq (xs x0 0 (K1 (bZ r n) 5)) (K1 (bZ r n) 5)).trans
 ((cUw r n).trans (by kernel_rfl))
theorem cHv : D77 r n aWk x0 r77 = D77 r n aNi x0 (K1 (bZ r n) 5) :=
 congrArg (fun k => D77 r n aNi x0 k) (dFo r n)
theorem cRj : D77 r n aNi x0 (K1 (bZ r n) 5) = D77 r n bSg x0 (K4 (bNy r n) 0 1 5 6) :=
 congrArg (fun k => D77 r n bSg x0 k) (cVp r n)
theorem cVo : D77 r n aWk x0 r77 = (K3 (bRj r n) 0 1 5) :=
 (cHv r n).trans
 ((cRj r n).trans
 ((by kernel_rfl)))
theorem bNr : D77 r n aXe x0 r77 = D77 r n bQs x0 (K3 (bRj r n) 0 1 5) :=
 congrArg (fun k => D77 r n bQs x0 k) (cVo r n)
theorem cVd : D77 r n aXe x0 r77 = (K2 (bYq r n) 0 1) :=
 (bNr r n).trans
 ((by kernel_rfl))
theorem dCg : D77 r n c77 x0 r77 = D77 r n bUu x0 (K2 (bYq r n) 0 1) :=
 congrArg (fun k => D77 r n bUu x0 k) (cVd r n)
theorem dRh : D77 r n c77 x0 r77 = (K2 (s77 r n) 0 1) :=
 (dCg r n).trans
 ((by kernel_rfl))
theorem dJc : aF CF r n 77 args h = s77 r n (aS args 0) (aS args 1) h :=
 (by kernel_rfl : aF CF r n 77 args h = D77 r n c77 x0 r77 (aI args) h).trans ((congrFun (congrFun (dRh r n) (aI args)) h).trans (by kernel_rfl))
noncomputable def gV (r : RT) (n : Nat) (x10 : DV) (h0 : Hp) : aJ :=
 some (.t [x10, (aE 0)], h0)
noncomputable def qB (r : RT) (n : Nat) (kk6 : cE) (x0 x10 x29 x30 x31 : DV) (h0 : Hp) : aJ :=
 bnd (aD .lss x31 x30 h0) fun v1 h1 =>
 aQ v1 (
 bnd (aH 1 x29 x31 h1) fun v2 h2 =>
 bnd (aA v2 h2) fun v3 h3 =>
 bnd (aR x0 h3) fun v4 h4 =>
 bnd (aB 0 v4 h4) fun v5 h5 =>
 bnd (aA v5 h5) fun v6 h6 =>
 bnd (aAc [v6, x10, x31, v3] h6) fun v7 h7 =>
 bnd (aD .add x31 (aE 1) h7) fun v8 h8 =>
      kk6 x0 x10 x29 x30 v8 h8) (
      gV r n x10 h1)
noncomputable def oD (r : RT) (n : Nat) (m : Nat) : cE :=
 Nat.rec (motive := fun _ => cE) (fun _ _ _ _ _ _ => none) (fun _ ih => qB r n ih) m
noncomputable def bKp (r : RT) (n : Nat) : cE := oD r n n
noncomputable def bCm (r : RT) (n : Nat) (x0 x10 x29 x30 x31 : DV) (h0 : Hp) : aJ :=
 bKp r n x0 x10 x29 x30 x31 h0
noncomputable def aZo (r : RT) (n : Nat) (x0 x3 x10 : DV) (h0 : Hp) : aJ :=
 bnd (bX x3 h0) fun v1 h1 =>
  bCm r n x0 x10 x3 v1 (aE 0) h1
noncomputable def aZn (r : RT) (n : Nat) (x0 x3 x10 x11 : DV) (h0 : Hp) : aJ :=
 bnd (aD .neq x11 (aE 0) h0) fun v1 h1 =>
 aQ v1 (
 some (.t [(aE 0), x11], h1)) (
  aZo r n x0 x3 x10 h1)
noncomputable def aXw (r : RT) (n : Nat) (x0 x1 x2 x3 : DV) (h0 : Hp) : aJ :=
 bnd (aR x0 h0) fun v1 h1 =>
 bnd (aB 0 v1 h1) fun v2 h2 =>
 bnd (aA v2 h2) fun v3 h3 =>
 bnd (bX x3 h3) fun v4 h4 =>
 bnd (kL [v3, x1, x2, v4] h4) fun v5 h5 =>
 bnd (aC 0 v5 h5) fun v6 h6 =>
 bnd (aC 1 v5 h6) fun v7 h7 =>
  aZn r n x0 x3 v6 v7 h7
noncomputable def s82 (r : RT) (n : Nat) (x0 x1 x2 x3 : DV) (h0 : Hp) : aJ :=
 aXw r n x0 x1 x2 x3 h0
noncomputable abbrev c82 : Code := cf Tryz.f82
noncomputable abbrev bCl : Code := cR c82
noncomputable abbrev bDh : Code := cR bCl
noncomputable abbrev aYg : Code := cR bDh
noncomputable abbrev dMo : Code := cR aYg
noncomputable abbrev aMc : Code := cL aYg
noncomputable abbrev cAc : Code := cR aMc
noncomputable abbrev aYj : Code := cL cAc
noncomputable abbrev wZ : Code := cL aYj
noncomputable abbrev cTk : Code := cL aMc
noncomputable abbrev bVe : Code := cL bDh
noncomputable abbrev bVz : Code := cL bCl
noncomputable abbrev bZo : Code := cL c82
noncomputable abbrev r82 : K := aT CF Tryz.f82
noncomputable def D82 (r : RT) (n : Nat) (c : Code) (X : Nat → K) (k : K) : K := aM CF r 46 n c X r82 k
theorem dBd : D82 r n dMo x0 r82 = (K1 (gV r n) 10) :=
 (by kernel_rfl)
theorem cOx (kk6 : cE) : D82 r n wZ (xs x0 0 (K1 (gV r n) 10)) (K5 kk6 0 10 29 30 31) = (K5 (qB r n kk6) 0 10 29 30 31) :=
 (by kernel_rfl)
theorem cIx (m : Nat) : aN (fun kk => D82 r n wZ (xs x0 0 (K1 (gV r n) 10)) kk) m = (K5 (oD r n m) 0 10 29 30 31) := by
 induction m with
 | zero => exact (by kernel_rfl : aN (fun kk => D82 r n wZ (xs x0 0 (K1 (gV r n) 10)) kk) 0 = (K5 (oD r n 0) 0 10 29 30 31))
 | succ m ih =>
  refine (by kernel_rfl : aN (fun kk => D82 r n wZ (xs x0 0 (K1 (gV r n) 10)) kk) (m + 1) = D82 r n wZ (xs x0 0 (K1 (gV r n) 10)) (aN (fun kk => D82 r n wZ (xs x0 0 (K1 (gV r n) 10)) kk) m)).trans ?_
  rw [ih]
  exact (cOx r n (oD r n m)).trans (by kernel_rfl)
theorem cYw : D82 r n aYj (xs x0 0 (K1 (gV r n) 10)) (K1 (gV r n) 10) = (K5 (bKp r n) 0 10 29 30 31) :=
 (by kernel_rfl : D82 r n aYj (xs x0 0 (K1 (gV r n) 10)) (K1 (gV r n) 10) = aN (fun kk => D82 r n wZ (xs x0 0 (K1 (gV r n) 10)) kk) n).trans ((cIx r n n).trans (by kernel_rfl))
theorem cZw : D82 r n cAc x0 (K1 (gV r n) 10) = (K5 (bCm r n) 0 10 29 30 31) :=
 (by kernel_rfl : D82 r n cAc x0 (K1 (gV r n) 10) = D82 r n aYj (xs x0 0 (K1 (gV r n) 10)) (K1 (gV r n) 10)).trans
 ((cYw r n).trans (by kernel_rfl))
theorem cKa : D82 r n aYg x0 r82 = D82 r n aMc x0 (K1 (gV r n) 10) :=
 congrArg (fun k => D82 r n aMc x0 k) (dBd r n)
theorem cMb : D82 r n aMc x0 (K1 (gV r n) 10) = D82 r n cTk x0 (K5 (bCm r n) 0 10 29 30 31) :=
 congrArg (fun k => D82 r n cTk x0 k) (cZw r n)
theorem cXu : D82 r n aYg x0 r82 = (K3 (aZo r n) 0 3 10) :=
 (cKa r n).trans
 ((cMb r n).trans
 ((by kernel_rfl)))
theorem cEw : D82 r n bDh x0 r82 = D82 r n bVe x0 (K3 (aZo r n) 0 3 10) :=
 congrArg (fun k => D82 r n bVe x0 k) (cXu r n)
theorem cZt : D82 r n bDh x0 r82 = (K4 (aZn r n) 0 3 10 11) :=
 (cEw r n).trans
 ((by kernel_rfl))
theorem cRm : D82 r n bCl x0 r82 = D82 r n bVz x0 (K4 (aZn r n) 0 3 10 11) :=
 congrArg (fun k => D82 r n bVz x0 k) (cZt r n)
theorem cXo : D82 r n bCl x0 r82 = (K4 (aXw r n) 0 1 2 3) :=
 (cRm r n).trans
 ((by kernel_rfl))
theorem dMv : D82 r n c82 x0 r82 = D82 r n bZo x0 (K4 (aXw r n) 0 1 2 3) :=
 congrArg (fun k => D82 r n bZo x0 k) (cXo r n)
theorem dPn : D82 r n c82 x0 r82 = (K4 (s82 r n) 0 1 2 3) :=
 (dMv r n).trans
 ((by kernel_rfl))
theorem cSz : aF CF r n 82 args h = s82 r n (aS args 0) (aS args 1) (aS args 2) (aS args 3) h :=
 (by kernel_rfl : aF CF r n 82 args h = D82 r n c82 x0 r82 (aI args) h).trans ((congrFun (congrFun (dPn r n) (aI args)) h).trans (by kernel_rfl))
noncomputable def fJ (r : RT) (n : Nat) (x0 x1 x8 : DV) (h0 : Hp) : aJ :=
 bnd (r 82 [x0, x1, (aE 2), x8] h0) fun v1 h1 =>
 bnd (aC 0 v1 h1) fun v2 h2 =>
 bnd (aC 1 v1 h2) fun v3 h3 =>
 some (.t [v2, v3], h3)
noncomputable def nU (r : RT) (n : Nat) (kk5 : fF) (x0 x1 x2 x8 x11 x12 : DV) (h0 : Hp) : aJ :=
 bnd (aD .lss x12 x11 h0) fun v1 h1 =>
 aQ v1 (
 bnd (fG x2 x12 h1) fun v2 h2 =>
 bnd (dU .i64 v2 h2) fun v3 h3 =>
 bnd (aL [(aE 0)] 1 [(0, 1, v3)] h3) fun v4 h4 =>
 bnd (aZ 1 8 x8 v4 h4) fun v5 h5 =>
 bnd (aD .add x12 (aE 1) h5) fun v6 h6 =>
      kk5 x0 x1 x2 v5 x11 v6 h6) (
      fJ r n x0 x1 x8 h1)
noncomputable def nL (r : RT) (n : Nat) (m : Nat) : fF :=
 Nat.rec (motive := fun _ => fF) (fun _ _ _ _ _ _ _ => none) (fun _ ih => nU r n ih) m
noncomputable def bIl (r : RT) (n : Nat) : fF := nL r n n
noncomputable def aXu (r : RT) (n : Nat) (x0 x1 x2 x8 x11 x12 : DV) (h0 : Hp) : aJ :=
 bIl r n x0 x1 x2 x8 x11 x12 h0
noncomputable def bBz (r : RT) (n : Nat) (x0 x1 x2 x8 : DV) (h0 : Hp) : aJ :=
 bnd (dT x2 h0) fun v1 h1 =>
  aXu r n x0 x1 x2 x8 v1 (aE 0) h1
noncomputable def aYi (r : RT) (n : Nat) (x0 x1 x2 : DV) (h0 : Hp) : aJ :=
 bBz r n x0 x1 x2 .l0 h0
noncomputable def s83 (r : RT) (n : Nat) (x0 x1 x2 : DV) (h0 : Hp) : aJ :=
 aYi r n x0 x1 x2 h0
noncomputable abbrev c83 : Code := cf Tryz.f83
noncomputable abbrev bCf : Code := cR c83
noncomputable abbrev aVy : Code := cR bCf
noncomputable abbrev dIn : Code := cR aVy
noncomputable abbrev aLw : Code := cL aVy
noncomputable abbrev bMp : Code := cR aLw
noncomputable abbrev aWn : Code := cL bMp
noncomputable abbrev rM : Code := cL aWn
noncomputable abbrev cTh : Code := cL aLw
noncomputable abbrev cTz : Code := cL bCf
noncomputable abbrev bOp : Code := cL c83
noncomputable abbrev r83 : K := aT CF Tryz.f83
noncomputable def D83 (r : RT) (n : Nat) (c : Code) (X : Nat → K) (k : K) : K := aM CF r 29 n c X r83 k
theorem cVi : D83 r n dIn x0 r83 = (K3 (fJ r n) 0 1 8) :=
 (by kernel_rfl)
theorem cRo (kk5 : fF) (q0 : mP) : D83 r n rM (xs x0 0 (K3 q0 0 1 8)) (K6 kk5 0 1 2 8 11 12) = fun (env : aY) (h : Hp) =>
 bnd (aD .lss (env 12) (env 11) h) fun v1 h1 =>
 aQ v1 (
 bnd (fG (env 2) (env 12) h1) fun v2 h2 =>
 bnd (dU .i64 v2 h2) fun v3 h3 =>
 bnd (aL [(aE 0)] 1 [(0, 1, v3)] h3) fun v4 h4 =>
 bnd (aZ 1 8 (env 8) v4 h4) fun v5 h5 =>
 bnd (aD .add (env 12) (aE 1) h5) fun v6 h6 =>
      kk5 (env 0) (env 1) (env 2) v5 (env 11) v6 h6) (
      q0 (env 0) (env 1) (env 8) h1) := by kernel_rfl
theorem bTp (kk5 : fF) : (fun (env : aY) (h : Hp) =>
 bnd (aD .lss (env 12) (env 11) h) fun v1 h1 =>
 aQ v1 (
 bnd (fG (env 2) (env 12) h1) fun v2 h2 =>
 bnd (dU .i64 v2 h2) fun v3 h3 =>
 bnd (aL [(aE 0)] 1 [(0, 1, v3)] h3) fun v4 h4 =>
 bnd (aZ 1 8 (env 8) v4 h4) fun v5 h5 =>
 bnd (aD .add (env 12) (aE 1) h5) fun v6 h6 =>
      kk5 (env 0) (env 1) (env 2) v5 (env 11) v6 h6) (
      fJ r n (env 0) (env 1) (env 8) h1)) = (K6 (nU r n kk5) 0 1 2 8 11 12) := by kernel_rfl
theorem cSi (kk5 : fF) : D83 r n rM (xs x0 0 (K3 (fJ r n) 0 1 8)) (K6 kk5 0 1 2 8 11 12) = (K6 (nU r n kk5) 0 1 2 8 11 12) :=
 (cRo r n kk5 (fJ r n)).trans (bTp r n kk5)
theorem cFz (m : Nat) : aN (fun kk => D83 r n rM (xs x0 0 (K3 (fJ r n) 0 1 8)) kk) m = (K6 (nL r n m) 0 1 2 8 11 12) := by
 induction m with
 | zero => exact (by kernel_rfl : aN (fun kk => D83 r n rM (xs x0 0 (K3 (fJ r n) 0 1 8)) kk) 0 = (K6 (nL r n 0) 0 1 2 8 11 12))
 | succ m ih =>
  refine (by kernel_rfl : aN (fun kk => D83 r n rM (xs x0 0 (K3 (fJ r n) 0 1 8)) kk) (m + 1) = D83 r n rM (xs x0 0 (K3 (fJ r n) 0 1 8)) (aN (fun kk => D83 r n rM (xs x0 0 (K3 (fJ r n) 0 1 8)) kk) m)).trans ?_
  rw [ih]
  exact (cSi r n (nL r n m)).trans (by kernel_rfl)
theorem dFq : D83 r n aWn (xs x0 0 (K3 (fJ r n) 0 1 8)) (K3 (fJ r n) 0 1 8) = (K6 (bIl r n) 0 1 2 8 11 12) :=
 (by kernel_rfl : D83 r n aWn (xs x0 0 (K3 (fJ r n) 0 1 8)) (K3 (fJ r n) 0 1 8) = aN (fun kk => D83 r n rM (xs x0 0 (K3 (fJ r n) 0 1 8)) kk) n).trans ((cFz r n n).trans (by kernel_rfl))
theorem dDu : D83 r n bMp x0 (K3 (fJ r n) 0 1 8) = (K6 (aXu r n) 0 1 2 8 11 12) :=
 (by kernel_rfl : D83 r n bMp x0 (K3 (fJ r n) 0 1 8) = D83 r n aWn (xs x0 0 (K3 (fJ r n) 0 1 8)) (K3 (fJ r n) 0 1 8)).trans
 ((dFq r n).trans (by kernel_rfl))
theorem cKv : D83 r n aVy x0 r83 = D83 r n aLw x0 (K3 (fJ r n) 0 1 8) :=
 congrArg (fun k => D83 r n aLw x0 k) (cVi r n)
theorem cRk : D83 r n aLw x0 (K3 (fJ r n) 0 1 8) = D83 r n cTh x0 (K6 (aXu r n) 0 1 2 8 11 12) :=
 congrArg (fun k => D83 r n cTh x0 k) (dDu r n)
theorem dAi : D83 r n aVy x0 r83 = (K4 (bBz r n) 0 1 2 8) :=
 (cKv r n).trans
 ((cRk r n).trans
 ((by kernel_rfl)))
theorem cLv : D83 r n bCf x0 r83 = D83 r n cTz x0 (K4 (bBz r n) 0 1 2 8) :=
 congrArg (fun k => D83 r n cTz x0 k) (dAi r n)
theorem cZd : D83 r n bCf x0 r83 = (K3 (aYi r n) 0 1 2) :=
 (cLv r n).trans
 ((by kernel_rfl))
theorem dKk : D83 r n c83 x0 r83 = D83 r n bOp x0 (K3 (aYi r n) 0 1 2) :=
 congrArg (fun k => D83 r n bOp x0 k) (cZd r n)
theorem dQf : D83 r n c83 x0 r83 = (K3 (s83 r n) 0 1 2) :=
 (dKk r n).trans
 ((by kernel_rfl))
theorem cTy : aF CF r n 83 args h = s83 r n (aS args 0) (aS args 1) (aS args 2) h :=
 (by kernel_rfl : aF CF r n 83 args h = D83 r n c83 x0 r83 (aI args) h).trans ((congrFun (congrFun (dQf r n) (aI args)) h).trans (by kernel_rfl))
noncomputable def s84 (r : RT) (n : Nat) (x0 x1 : DV) (h0 : Hp) : aJ :=
 bnd (aA x1 h0) fun v1 h1 =>
 bnd (aR v1 h1) fun v2 h2 =>
 bnd (aB 0 v2 h2) fun v3 h3 =>
 bnd (aA v3 h3) fun v4 h4 =>
 bnd (aIl [v4, x0] h4) fun v5 h5 =>
 bnd (gI .not v5 h5) fun v6 h6 =>
 some (v6, h6)
noncomputable abbrev c84 : Code := cf Tryz.f84
noncomputable abbrev r84 : K := aT CF Tryz.f84
noncomputable def D84 (r : RT) (n : Nat) (c : Code) (X : Nat → K) (k : K) : K := aM CF r 11 n c X r84 k
theorem dRg : D84 r n c84 x0 r84 = (K2 (s84 r n) 0 1) :=
 (by kernel_rfl)
theorem cSu : aF CF r n 84 args h = s84 r n (aS args 0) (aS args 1) h :=
 (by kernel_rfl : aF CF r n 84 args h = D84 r n c84 x0 r84 (aI args) h).trans ((congrFun (congrFun (dRg r n) (aI args)) h).trans (by kernel_rfl))
noncomputable def gP (r : RT) (n : Nat) (h0 : Hp) : aJ :=
 some ((.i .i64 (Int.negSucc 0)), h0)
noncomputable def gU (r : RT) (n : Nat) (kk4 : dQ) (x0 x1 x7 x8 : DV) (h0 : Hp) : aJ :=
 bnd (aD .lss x8 x7 h0) fun v1 h1 =>
 aQ v1 (
 bnd (aH 1 x0 x8 h1) fun v2 h2 =>
 bnd (aA v2 h2) fun v3 h3 =>
 bnd (cU CF r x1 [v3] h3) fun v4 h4 =>
 aQ v4 (
 some (x8, h4)) (
 bnd (aD .add x8 (aE 1) h4) fun v5 h5 =>
    kk4 x0 x1 x7 v5 h5)) (
      gP r n h1)
noncomputable def iQ (r : RT) (n : Nat) (m : Nat) : dQ :=
 Nat.rec (motive := fun _ => dQ) (fun _ _ _ _ _ => none) (fun _ ih => gU r n ih) m
noncomputable def bCe (r : RT) (n : Nat) : dQ := iQ r n n
noncomputable def aMs (r : RT) (n : Nat) (x0 x1 x7 x8 : DV) (h0 : Hp) : aJ :=
 bCe r n x0 x1 x7 x8 h0
noncomputable def aMd (r : RT) (n : Nat) (x0 x1 : DV) (h0 : Hp) : aJ :=
 bnd (bX x0 h0) fun v1 h1 =>
  aMs r n x0 x1 v1 (aE 0) h1
noncomputable def s89 (r : RT) (n : Nat) (x0 x1 : DV) (h0 : Hp) : aJ :=
 aMd r n x0 x1 h0
noncomputable abbrev c89 : Code := cf Tryz.f89
noncomputable abbrev bAa : Code := cR c89
noncomputable abbrev dMp : Code := cR bAa
noncomputable abbrev aNa : Code := cL bAa
noncomputable abbrev bQx : Code := cR aNa
noncomputable abbrev bBr : Code := cL bQx
noncomputable abbrev vK : Code := cL bBr
noncomputable abbrev cTq : Code := cL aNa
noncomputable abbrev cTs : Code := cL c89
noncomputable abbrev r89 : K := aT CF Tryz.f89
noncomputable def D89 (r : RT) (n : Nat) (c : Code) (X : Nat → K) (k : K) : K := aM CF r 19 n c X r89 k
theorem cVb : D89 r n dMp x0 r89 = (K0 (gP r n)) :=
 (by kernel_rfl)
theorem cMp (kk4 : dQ) : D89 r n vK (xs x0 0 (K0 (gP r n))) (K4 kk4 0 1 7 8) = (K4 (gU r n kk4) 0 1 7 8) :=
 (by kernel_rfl)
theorem cDd (m : Nat) : aN (fun kk => D89 r n vK (xs x0 0 (K0 (gP r n))) kk) m = (K4 (iQ r n m) 0 1 7 8) := by
 induction m with
 | zero => exact (by kernel_rfl : aN (fun kk => D89 r n vK (xs x0 0 (K0 (gP r n))) kk) 0 = (K4 (iQ r n 0) 0 1 7 8))
 | succ m ih =>
  refine (by kernel_rfl : aN (fun kk => D89 r n vK (xs x0 0 (K0 (gP r n))) kk) (m + 1) = D89 r n vK (xs x0 0 (K0 (gP r n))) (aN (fun kk => D89 r n vK (xs x0 0 (K0 (gP r n))) kk) m)).trans ?_
  rw [ih]
  exact (cMp r n (iQ r n m)).trans (by kernel_rfl)
theorem dAf : D89 r n bBr (xs x0 0 (K0 (gP r n))) (K0 (gP r n)) = (K4 (bCe r n) 0 1 7 8) :=
 (by kernel_rfl : D89 r n bBr (xs x0 0 (K0 (gP r n))) (K0 (gP r n)) = aN (fun kk => D89 r n vK (xs x0 0 (K0 (gP r n))) kk) n).trans ((cDd r n n).trans (by kernel_rfl))
theorem cZz : D89 r n bQx x0 (K0 (gP r n)) = (K4 (aMs r n) 0 1 7 8) :=
 (by kernel_rfl : D89 r n bQx x0 (K0 (gP r n)) = D89 r n bBr (xs x0 0 (K0 (gP r n))) (K0 (gP r n))).trans
 ((dAf r n).trans (by kernel_rfl))
theorem cMg : D89 r n bAa x0 r89 = D89 r n aNa x0 (K0 (gP r n)) :=
 congrArg (fun k => D89 r n aNa x0 k) (cVb r n)
theorem cKk : D89 r n aNa x0 (K0 (gP r n)) = D89 r n cTq x0 (K4 (aMs r n) 0 1 7 8) :=
 congrArg (fun k => D89 r n cTq x0 k) (cZz r n)
theorem cYy : D89 r n bAa x0 r89 = (K2 (aMd r n) 0 1) :=
 (cMg r n).trans
 ((cKk r n).trans
 ((by kernel_rfl)))
theorem dMg : D89 r n c89 x0 r89 = D89 r n cTs x0 (K2 (aMd r n) 0 1) :=
 congrArg (fun k => D89 r n cTs x0 k) (cYy r n)
theorem dNm : D89 r n c89 x0 r89 = (K2 (s89 r n) 0 1) :=
 (dMg r n).trans
 ((by kernel_rfl))
theorem bJl : aF CF r n 89 args h = s89 r n (aS args 0) (aS args 1) h :=
 (by kernel_rfl : aF CF r n 89 args h = D89 r n c89 x0 r89 (aI args) h).trans ((congrFun (congrFun (dNm r n) (aI args)) h).trans (by kernel_rfl))
end Go.Dd

