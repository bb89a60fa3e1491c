/- A part of the proof: N O CH SM SN MF Qh Q0 Q1 Q2 Q3: each text has a comment of its own. -/
import Derived.Test.YtdpdcbdfgfeoeaaGreatKt0
import Derived.LoopN
import Derived.Scope
import Derived.Test.YtdpdcbdfgfeoeaaGreatProg
import Derived.KernelRfl
set_option linter.unusedVariables false
set_option linter.unusedSimpArgs false
set_option linter.constructorNameAsVariable false
set_option maxRecDepth 100000
namespace Go.Dd
open Go.RowKit (Below)
section
variable {C : Cfg} {G : Gd} {rec : FuncId → List DV → Hp → aH} {ops : Array Oper} {nt : Nat} {p0 : Pos}
theorem oN {listed : Array Bool} {i : Nat} : i ∈ Region.ready .any ops listed ↔ i < ops.size ∧ listed.getD i true = false ∧ ∃ o, ops[i]? = some o ∧ ∀ e ∈ o.after, Region.binds .any e = true → listed.getD e.on false = true := by
 unfold Region.ready
 rw [List.mem_filter]
 simp only [List.mem_range, Bool.and_eq_true, Bool.not_eq_eq_eq_not, Bool.not_true]
 constructor
 ·rintro ⟨h1, h2, h3⟩
  refine ⟨h1, h2, ops[i], by simp [h1], fun e he hb => ?_⟩
  simp only [h1, getElem?_pos, Option.map_some, Option.getD_some] at h3
  have := (Array.all_eq_true_iff_forall_mem.1 h3) e he
  simpa [hb] using this
 ·rintro ⟨h1, h2, o, ho, h3⟩
  refine ⟨h1, h2, ?_⟩
  simp only [ho, Option.map_some, Option.getD_some]
  refine Array.all_eq_true_iff_forall_mem.2 fun e he => ?_
  cases hb : Region.binds .any e with
  | false => simp
  | true => simp [h3 e he hb]
noncomputable def idp (C : Cfg) (ops : Array Oper) (p0 : Pos) (p : Nat) : Pos := bQ (bW C.P (ops.toList.take p)) p0
structure Tr1 (C : Cfg) (rec : FuncId → List DV → Hp → aH) (ops : Array Oper) (nt : Nat) (p0 : Pos) (E : Nat → aU) (Hh : Nat → Hp) (V : Nat → DV) : Prop where
 ok : fF C.P ops = true
 st : ∀ p o, ops[p]? = some o → StepT C rec ops (Region.before ops) nt (idp C ops p0 p) E Hh V 0 [(none, Hh 0)] p o
theorem Tr1.same {E : Nat → aU} {Hh : Nat → Hp} {V : Nat → DV} (T : Tr1 C rec ops nt p0 E Hh V) {p : Nat} {o : Oper} (ho : ops[p]? = some o) (hc : bO C.P o.op ≠ .acts) (hm : bO C.P o.op ≠ .makes) : Hh (p + 1) = Hh p := by
 have hs := (T.st p o ho).step hm
 cases hcl : bO C.P o.op with
 | pure => exact (oM hcl _ _ _ hs).1
 | reads => exact nB hcl hs
 | makes => exact absurd hcl hm
 | acts => exact absurd hcl hc
def cLx (C : Cfg) (ops : Array Oper) (q : Nat) : Prop := q = 0 ∨ ∃ j oj, ops[j]? = some oj ∧ bO C.P oj.op = .acts ∧ q = j + 1
theorem mT {m : Array Nat} {i q : Nat} {Pv : Hp → Prop} {Hh : Nat → Hp} {tl : List (Option Nat × Hp)} : ∀ d, q ≤ d → oO m i Pv (gN C ops Hh 0 d ++ tl) →
  (∀ j oj, ops[j]? = some oj → bO C.P oj.op = .acts → q ≤ j → j < d → ¬ fN m j i = true) → oO m i Pv (gN C ops Hh 0 q ++ tl)
 | 0, hq, hc, _ => by have : q = 0 := by omega
                      subst this; exact hc
 | d + 1, hq, hc, hno => by
  by_cases e : q = d + 1
  ·subst e; exact hc
  ·have hq' : q ≤ d := by omega
   simp only [gN, Nat.zero_add] at hc
   cases ha : iI C ops d with
   | false =>
    rw [ha] at hc
    simp only [Bool.false_eq_true, if_false, List.nil_append] at hc
    exact mT d hq' hc fun j oj h1 h2 h3 h4 => hno j oj h1 h2 h3 (by omega)
   | true =>
    rw [ha] at hc
    simp only [if_true, List.cons_append, List.nil_append] at hc
    obtain ⟨_, h2⟩ := hc
    have ⟨oj, hoj, hcj⟩ : ∃ oj, ops[d]? = some oj ∧ bO C.P oj.op = .acts := by
     unfold iI at ha
     split at ha
     ·rename_i o ho; exact ⟨o, ho, by simpa using ha⟩
     ·cases ha
    rcases h2 with h2 | h2
    ·exact absurd h2 (hno d oj hoj hcj hq' (by omega))
    ·exact mT d hq' h2 fun j oj h1 h2 h3 h4 => hno j oj h1 h2 h3 (by omega)
theorem Tr1.value {E : Nat → aU} {Hh : Nat → Hp} {V : Nat → DV} (T : Tr1 C rec ops nt p0 E Hh V) {listed : Array Bool} {i q : Nat} {o : Oper} (ho : ops[i]? = some o) (hc : bO C.P o.op ≠ .acts) (hm : bO C.P o.op ≠ .makes)
  (hq : cLx C ops q) (hgap : ∀ j oj, ops[j]? = some oj → bO C.P oj.op = .acts → (j < q ↔ S listed j))
  (hni : ¬ S listed i) (hdown : ∀ j x, fN (Region.before ops) j x = true → S listed x → S listed j) (hpre : ∀ j, fN (Region.before ops) j i = true → S listed j) :
  bF C rec ops o (E i) (Hh q) = some (V i, Hh q) := by
 have hst := T.st i o ho
 cases hcl : bO C.P o.op with
 | acts => exact absurd hcl hc
 | makes => exact absurd hcl hm
 | pure => exact (oM hcl _ _ _ (hst.step hm)).2 _
 | reads =>
  rcases Nat.lt_or_ge i q with h | h
  ·rcases hq with rfl | ⟨j, oj, hj, haj, rfl⟩
   ·omega
   ·have hSj : S listed j := (hgap j oj hj haj).1 (by omega)
    have hij : i ≠ j := fun e => by subst e; exact hni hSj
    rcases (T.st j oj hj).acts haj i o (Nat.zero_le _) (by omega) ho hcl with h3 | h3
    ·exact absurd (hdown i j h3 hSj) hni
    ·exact qB hcl h3
  ·have h1 := hst.reads hcl
   rw [Nat.sub_zero] at h1
   have h2 := mT (q := q) i h h1 fun j oj hj haj hqj hji hord => by
    have := (hgap j oj hj haj).2 (hpre j hord)
    omega
   rcases hq with rfl | ⟨j, oj, hj, haj, rfl⟩
   ·exact h2.1
   ·simp only [gN, Nat.zero_add, (bAa hj).2 haj, if_true, List.cons_append, List.nil_append] at h2
    exact h2.1
theorem cGr {listed : Array Bool} {i j : Nat} (hi : i < listed.size) : S (listed.setIfInBounds i true) j ↔ (j = i ∨ S listed j) := by
 unfold S
 by_cases e : j = i
 ·subst e; simp [hi]
 ·simp [Array.getElem?_setIfInBounds_ne (Ne.symm e), e]
theorem oU {listed : Array Bool} {i : Nat} (hi : i < listed.size) : listed.getD i true = listed.getD i false := by
 simp [hi]
theorem cKm {V : Nat → DV} {env : aU} {listed : Array Bool} {i : Nat} {o : Oper} (ho : ops[i]? = some o) (hi : i < listed.size) (hni : ¬ S listed i) (t : Nat)
  (hlast : ∀ j oj, i < j → ops[j]? = some oj → oj.dst = some t → o.dst = some t → ¬ S listed j) :
  ∀ p, i < p → TS ops V env (listed.setIfInBounds i true) p t = if o.dst = some t then V i else TS ops V env listed p t := by
 have hbefore : ∀ p, p ≤ i → TS ops V env (listed.setIfInBounds i true) p = TS ops V env listed p := by
  intro p
  induction p with
  | zero => intro _; rfl
  | succ p ih =>
   intro h
   have e : (listed.setIfInBounds i true).getD p false = listed.getD p false := by simp [Array.getElem?_setIfInBounds_ne (show i ≠ p by omega)]
   simp only [TS, ih (by omega), e]
 intro p
 induction p with
 | zero => intro h; omega
 | succ p ih =>
  intro h
  by_cases hpi : p = i
  ·subst hpi
   have e1 : (listed.setIfInBounds p true).getD p false = true := by simp [hi]
   have e2 : ¬ listed.getD p false = true := hni
   simp only [TS, ho, hbefore p (Nat.le_refl _), e1, if_true, kL]
   rw [if_neg e2]
  ·have ih' := ih (by omega)
   have e : (listed.setIfInBounds i true).getD p false = listed.getD p false := by simp [Array.getElem?_setIfInBounds_ne (Ne.symm hpi)]
   cases hop : ops[p]? with
   | none => simp only [TS, hop]; exact ih'
   | some op =>
    simp only [TS, hop, e]
    split
    ·rename_i hl
     rw [kL, kL, ih']
     by_cases hd : op.dst = some t
     ·rw [if_pos hd, if_pos hd]
      by_cases hod : o.dst = some t
      ·exact absurd hl (hlast p op (by omega) hop hd hod)
      ·rw [if_neg hod]
     ·rw [if_neg hd, if_neg hd]
    ·exact ih'
def gR (C : Cfg) (ops : Array Oper) (listed : Array Bool) (q i : Nat) : Prop := ∃ o, ops[i]? = some o ∧ bO C.P o.op = .makes ∧ S listed i ∧ q ≤ i
def GX (G : Gd) (N : Nat) (C : Cfg) (ops : Array Oper) (listed : Array Bool) (R : Nat → Nat) (q : Nat) : Gd := ⟨G.B, fun k => G.X k ∨ ∃ i, gR C ops listed q i ∧ R i = k, N, G.W, G.ok⟩
structure Made (G : Gd) (C : Cfg) (ops : Array Oper) (p0 : Pos) (Hh : Nat → Hp) (ρ : dB) (w : World) (R : Nat → Nat) (i : Nat) : Prop where
 name : ρ (idp C ops p0 i) = some ⟨R i, 0, 0, none⟩
 low : G.B ≤ R i
 ex : ¬ G.X (R i)
 row : ∃ (arr : Array Value) (t : TypeId) (cs : List DV), w.heap[R i]? = some (.cells arr t (0, 0)) ∧ VRs ρ cs arr.toList ∧ Hh (i + 1) = ⟨(Hh i).next, Tr.set (.row .ex cs) (idp C ops p0 i) (Hh i).bl⟩
theorem aHr {E : Nat → aU} {Hh : Nat → Hp} {V : Nat → DV} (T : Tr1 C rec ops nt p0 E Hh V) {listed : Array Bool} {R : Nat → Nat} {N q : Nat} {ρ : dB} {w : World}
  (hmade : ∀ i, gR C ops listed q i → Made G C ops p0 Hh ρ w R i) (hdist : ∀ i i', gR C ops listed q i → gR C ops listed q i' → R i = R i' → i = i') :
  ∀ p, q ≤ p → p ≤ ops.size → (∀ j oj, ops[j]? = some oj → q ≤ j → j < p → bO C.P oj.op ≠ .acts ∧ (bO C.P oj.op = .makes → S listed j)) →
  HR (GX G N C ops listed R q) ρ (Hh q) w → HR (GX G N C ops listed R p) ρ (Hh p) w := by
 intro p
 induction p with
 | zero => intro h1 _ _ H; have : q = 0 := by omega
           subst this; exact H
 | succ p ih =>
  intro h1 h2 hr H
  by_cases e : q = p + 1
  ·subst e; exact H
  ·have H' := ih (by omega) (by omega) (fun j oj hj hq hjp => hr j oj hj hq (by omega)) H
   obtain ⟨o, ho⟩ : ∃ o, ops[p]? = some o := ⟨ops[p], by simp [show p < ops.size by omega]⟩
   obtain ⟨ha, hm⟩ := hr p o ho (by omega) (by omega)
   have hsub : ∀ k, (GX G N C ops listed R (p + 1)).X k → (GX G N C ops listed R p).X k := by
    rintro k (hk | ⟨i, ⟨oi, h3, h4, h5, h6⟩, h7⟩)
    ·exact .inl hk
    ·exact .inr ⟨i, ⟨oi, h3, h4, h5, by omega⟩, h7⟩
   by_cases hmk : bO C.P o.op = .makes
   ·have hE : gR C ops listed q p := ⟨o, ho, hmk, hm hmk, by omega⟩
    have hM := hmade p hE
    obtain ⟨arr, t, cs, r1, r2, r3⟩ := hM.row
    rw [r3]
    refine dFf (G := GX G N C ops listed R (p + 1)) H' rfl hsub (Nat.le_refl _) rfl hM.name r1 r2 hM.low ?_ (.inr ⟨p, ⟨o, ho, hmk, hm hmk, Nat.le_refl _⟩, rfl⟩)
    rintro (hk | ⟨i, ⟨oi, h3, h4, h5, h6⟩, h7⟩)
    ·exact hM.ex hk
    ·have := hdist i p ⟨oi, h3, h4, h5, by omega⟩ hE h7
     omega
   ·rw [T.same ho ha hmk]
    exact H'.weak rfl hsub (Nat.le_refl _) rfl
def Inv (C : Cfg) (G : Gd) (ops : Array Oper) (nt : Nat) (p0 : Pos) (N : Nat) (E : Nat → aU) (Hh : Nat → Hp) (V : Nat → DV) (ρ : dB) (w0 : World) (listed : Array Bool) (a : Act) (w : World) : Prop :=
 listed.size = ops.size ∧ (∀ j x, fN (Region.before ops) j x = true → S listed x → S listed j) ∧
 ∃ q, q ≤ ops.size ∧ cLx C ops q ∧ (∀ j oj, ops[j]? = some oj → bO C.P oj.op = .acts → (j < q ↔ S listed j)) ∧
 ∃ (ρ' : dB) (R : Nat → Nat), Ex G ρ ρ' ∧ HR (GX G N C ops listed R q) ρ' (Hh q) w ∧ EnvR ρ' (TS ops V (E 0) listed ops.size) a ∧ Kp G w0 w ∧ nt ≤ a.tmps.size ∧ a.defers = [] ∧
  (∀ i o, ops[i]? = some o → bO C.P o.op = .makes → ¬ S listed i → ρ' (idp C ops p0 i) = none) ∧
  (∀ i, gR C ops listed q i → Made G C ops p0 Hh ρ' w R i) ∧ (∀ i i', gR C ops listed q i → gR C ops listed q i' → R i = R i' → i = i')
theorem bEn {i : Nat} {o : Oper} (ho : ops[i]? = some o) (hm : bO C.P o.op = .makes) : (idp C ops p0 i).toNat < p0.toNat + bW C.P ops.toList := by
 unfold idp
 rw [dK]
 have hlt : i < ops.toList.length := by
  rcases Nat.lt_or_ge i ops.toList.length with h | h
  ·exact h
  ·simp at h; simp [Array.getElem?_eq_none h] at ho
 have key : ∀ (l : List Oper) (i : Nat), l[i]? = some o → bW C.P (l.take i) < bW C.P l := by
  intro l
  induction l with
  | nil => intro i h; simp at h
  | cons x l ih =>
   intro i h
   cases i with
   | zero => simp at h; subst h; simp [bW, hm]; omega
   | succ i => simp at h; have := ih i h; simp only [List.take_succ_cons, bW]; omega
 have := key ops.toList i (by simpa using ho)
 omega
theorem cIb {i i' : Nat} {o o' : Oper} (ho : ops[i]? = some o) (hm : bO C.P o.op = .makes) (ho' : ops[i']? = some o') (hm' : bO C.P o'.op = .makes) (hne : i ≠ i') : idp C ops p0 i ≠ idp C ops p0 i' := by
 have key : ∀ (l : List Oper) (i j : Nat) (o : Oper), l[i]? = some o → bO C.P o.op = .makes → i < j → bW C.P (l.take i) < bW C.P (l.take j) := by
  intro l
  induction l with
  | nil => intro i j o h; simp at h
  | cons x l ih =>
   intro i j o h hm hij
   cases j with
   | zero => omega
   | succ j =>
    cases i with
    | zero => simp at h; subst h; simp only [List.take_succ_cons, bW, hm, List.take_zero]; omega
    | succ i => simp at h; have := ih i j o h hm (by omega); simp only [List.take_succ_cons, bW]; omega
 intro e
 have e' := congrArg Pos.toNat e
 unfold idp at e'
 rw [dK, dK] at e'
 rcases Nat.lt_or_ge i i' with h | h
 ·have := key ops.toList i i' o (by simpa using ho) hm h; omega
 ·have := key ops.toList i' i o' (by simpa using ho') hm' (by omega); omega
theorem bQm (K : OkC C rec) {N : Nat} {E : Nat → aU} {Hh : Nat → Hp} {V : Nat → DV} (T : Tr1 C rec ops nt p0 E Hh V) (hN : N = p0.toNat + bW C.P ops.toList) (hGN : G.N ≤ p0.toNat) {ρ : dB} {w0 : World} {Q : Exit → Act → World → Prop}
  (hQ : ∀ ρ' a' w', Ex G ρ ρ' → HR G ρ' (Hh ops.size) w' → EnvR ρ' (E ops.size) a' → Kp G w0 w' → nt ≤ a'.tmps.size → a'.defers = [] → Q .normal a' w') :
  ∀ (fuel : Nat) (listed : Array Bool) (a : Act) (w : World), Inv C G ops nt p0 N E Hh V ρ w0 listed a w → ((List.range ops.size).filter fun i => !listed.getD i false).length ≤ fuel → wpAny C.P .any ops Q fuel listed a w := by
 have hlt : ∀ p, p < ops.size → ∃ o, ops[p]? = some o := fun p hp => ⟨ops[p], by simp [hp]⟩
 have hin : ∀ (j : Nat) oj, ops[j]? = some oj → j < ops.size := fun j oj hj => by
  rcases Nat.lt_or_ge j ops.size with h | h
  ·exact h
  ·simp [Array.getElem?_eq_none h] at hj
 have hend : ∀ listed a w, Inv C G ops nt p0 N E Hh V ρ w0 listed a w → (∀ i, i < ops.size → S listed i) → Q .normal a w := by
  rintro listed a w ⟨hsz, hdown, q, hq, hcand, hgap, ρ', R, h1, h2, h3, h4, h5, h6, h7, h8, h9⟩ hall
  have hH := aHr (G := G) T h8 h9 ops.size hq (Nat.le_refl _) (fun j oj hj hqj hjn => ⟨fun ha => by
   have := (hgap j oj hj ha).2 (hall j hjn)
   omega, fun _ => hall j hjn⟩) h2
  have hE : ∀ t, TS ops V (E 0) listed ops.size t = E ops.size t := fun t =>
   bNz (E := E) rfl (fun p o hp ho => (T.st p o ho).env) (fun p hp => hlt p hp) (fun j o hj _ _ => hall j hj) ops.size (Nat.le_refl _)
  refine hQ ρ' a w h1 (hH.weak rfl (fun k hk => .inl hk) (by show G.N ≤ N; omega) rfl) (fun t => ?_) h4 h5 h6
  rw [← hE t]
  exact h3 t
 have hready : ∀ listed, listed.size = ops.size → Region.ready .any ops listed = [] → ∀ i, i < ops.size → S listed i := by
  intro listed hsz hr i
  induction i using Nat.strongRecOn with
  | _ i ih =>
   intro hi
   obtain ⟨o, ho⟩ := hlt i hi
   by_cases hs : S listed i
   ·exact hs
   ·exfalso
    have hmem : i ∈ Region.ready .any ops listed := by
     rw [oN]
     refine ⟨hi, ?_, o, ho, fun e he hb => ?_⟩
     ·rw [oU (by omega)]
      unfold S at hs
      simpa using hs
     ·have := (dD T.ok ho).1 e he hb
      exact ih e.on this (by omega)
    rw [hr] at hmem
    cases hmem
 intro fuel
 induction fuel with
 | zero =>
  intro listed a w hI hfuel
  have hall : ∀ i, i < ops.size → S listed i := by
   intro i hi
   by_cases hs : S listed i
   ·exact hs
   ·exfalso
    have : i ∈ (List.range ops.size).filter fun i => !listed.getD i false := by
     rw [List.mem_filter]
     refine ⟨by simpa using hi, ?_⟩
     unfold S at hs
     simpa using hs
    have := List.length_pos_of_mem this
    omega
  refine ⟨?_, hend listed a w hI hall⟩
  cases hr : Region.ready .any ops listed with
  | nil => rfl
  | cons x xs =>
   have hx : x ∈ Region.ready .any ops listed := by rw [hr]; simp
   rw [oN] at hx
   have := hall x hx.1
   rw [oU (by rw [hI.1]; exact hx.1)] at hx
   unfold S at this
   rw [this] at hx
   cases hx.2.1
 | succ fuel ih =>
  intro listed a w hI hfuel
  refine ⟨fun hr => hend listed a w hI (hready listed hI.1 hr), fun i hi => ?_⟩
  obtain ⟨hsz, hdown, q, hq, hcand, hgap, ρ', R, h1, h2, h3, h4, h5, h6, h7, h8, h9⟩ := hI
  rw [oN] at hi
  obtain ⟨hisz, hni, o, ho, hpre0⟩ := hi
  rw [oU (by omega)] at hni
  have hnS : ¬ S listed i := by unfold S; rw [hni]; simp
  have hpre : ∀ j, fN (Region.before ops) j i = true → S listed j := by
   intro j hj
   obtain ⟨e, he, hb, h | h⟩ := aHw ho hj
   ·rw [← h]; exact hpre0 e he hb
   ·exact hdown j e.on h (hpre0 e he hb)
  have hst := T.st i o ho
  have hlook : ∀ t ∈ o.looksAt ops, TS ops V (E 0) listed ops.size t = E i t := by
   intro t ht
   rw [bUp (i := i) (fun j oj hij hj hd hS => ?_) ops.size (by omega)]
   ·exact bNz (E := E) rfl (fun p op hp hop => (T.st p op hop).env) (fun p hp => hlt p (by omega)) (fun j oj hj hoj hd => by
     rcases (dD T.ok ho).2.2 j oj hj hoj with h | ⟨h, _⟩
     ·exact hpre j h
     ·exact absurd ht ((Oper.apart_spec h).1 t hd)) i (Nat.le_refl _)
   ·rcases Nat.eq_or_lt_of_le hij with e | e
    ·subst e; exact hnS hS
    ·rcases (dD T.ok hj).2.2 i o e ho with h | ⟨h, _⟩
     ·exact hnS (hdown i j h hS)
     ·exact absurd ht ((Oper.apart_spec h).2.2 t hd)
  have hmkq : ∀ j oj, ops[j]? = some oj → bO C.P oj.op = .makes → j < q → S listed j := by
   intro j oj hj hmj hjq
   rcases hcand with rfl | ⟨l, ol, hl, hal, rfl⟩
   ·omega
   ·have hSl : S listed l := (hgap l ol hl hal).1 (by omega)
    have hjl : j ≠ l := fun e => by subst e; rw [hl] at hj; cases hj; rw [hal] at hmj; cases hmj
    rcases (dD T.ok hl).2.2 j oj (by omega) hj with h | ⟨_, h⟩
    ·exact hdown j l h hSl
    ·exact absurd ⟨.inr hmj, hal⟩ h
  have hdown' : ∀ j x, fN (Region.before ops) j x = true → S (listed.setIfInBounds i true) x → S (listed.setIfInBounds i true) j := by
   intro j x hjx hx
   rw [cGr (by omega)] at hx ⊢
   rcases hx with rfl | hx
   ·exact .inr (hpre j hjx)
   ·exact .inr (hdown j x hjx hx)
  have hTS : ∀ (ρ2 : dB) (v2 : Value), Ext ρ' ρ2 → VR ρ2 (V i) v2 → EnvR ρ2 (TS ops V (E 0) (listed.setIfInBounds i true) ops.size) (a.put o.dst v2) := by
   intro ρ2 v2 e1 e2 t
   rw [cKm ho (by omega) hnS t (fun j oj hij hj hd hod hS => by
    rcases (dD T.ok hj).2.2 i o hij ho with h | ⟨h, _⟩
    ·exact hnS (hdown i j h hS)
    ·exact (Oper.apart_spec h).2.1 t hod hd) ops.size (by omega)]
   have := EnvR.put h3 e1 e2 hst.fits h5 t
   rwa [kL] at this
  have hcount : ((List.range ops.size).filter fun j => !(listed.setIfInBounds i true).getD j false).length ≤ fuel := by
   have hmem : i ∈ (List.range ops.size).filter fun i => !listed.getD i false := by
    rw [List.mem_filter]
    exact ⟨by simpa using hisz, by simp [hni]⟩
   have hle : ((List.range ops.size).filter fun j => !(listed.setIfInBounds i true).getD j false).length < ((List.range ops.size).filter fun j => !listed.getD j false).length := by
    have hsub : ((List.range ops.size).filter fun j => !(listed.setIfInBounds i true).getD j false) = ((List.range ops.size).filter fun j => !listed.getD j false).filter (fun j => j != i) := by
     rw [List.filter_filter]
     apply List.filter_congr
     intro j hj
     by_cases e : j = i
     ·subst e; simp [show j < listed.size by omega]
     ·simp [Array.getElem?_setIfInBounds_ne (Ne.symm e), e]
    rw [hsub]
    exact List.length_filter_lt_length_iff_exists.2 ⟨i, hmem, by simp⟩
   omega
  have hS' : ∀ j, S (listed.setIfInBounds i true) j ↔ (j = i ∨ S listed j) := fun j => cGr (by omega)
  by_cases hmk : bO C.P o.op = .makes
  ·
   have hqi : q ≤ i := by
    rcases Nat.lt_or_ge i q with h | h
    ·exact absurd (hmkq i o ho hmk h) hnS
    ·exact h
   have hg := (dD T.ok ho).2.1 hmk
   have hbn := h7 i o ho hmk hnS
   have hst1 := hst.made hmk
   have hext : Ext ρ' (lY ρ' (idp C ops p0 i) ⟨w.heap.size, 0, 0, none⟩) := by
    intro x L hx
    by_cases e : x = idp C ops p0 i
    ·subst e; rw [hbn] at hx; cases hx
    ·rw [aV _ _ e]; exact hx
   have hE0 : dG C o (idp C ops p0 i) (TS ops V (E 0) listed ops.size) (Hh i) = some (V i, Hh (i + 1)) := by
    rw [← hst1]
    refine wP fun x hx => xO fun t ht => hlook t ?_
    unfold Oper.looksAt
    refine List.mem_append_left _ (List.mem_filterMap.2 ⟨x, by simpa using hx, ?_⟩)
    rw [ht]
   obtain ⟨cs, arr, t, v', m1, m2, m3, m4⟩ := cJs (w := w) h3 hE0 hbn
   have hidlt := bEn (p0 := p0) ho hmk
   have H2 := h2.early hbn (by have := h2.nx; simp only [GX] at this; omega) arr t
   unfold wpOp
   simp only [ho]
   rw [if_pos (by simp [Region.wanted, hg])]
   refine .inl ?_
   unfold Oper.wp
   rw [m1]
   show wpAny C.P .any ops Q fuel (listed.setIfInBounds i true) (a.put o.dst v') (w.alloc (.cells arr t))
   have hEarly : ∀ j, gR C ops (listed.setIfInBounds i true) q j → j = i ∨ gR C ops listed q j := by
    rintro j ⟨oj, e1, e2, e3, e4⟩
    rcases (hS' j).1 e3 with e | e
    ·exact .inl e
    ·exact .inr ⟨oj, e1, e2, e, e4⟩
   have hRlt : ∀ j, gR C ops listed q j → R j < w.heap.size := fun j hj => h2.sz.2 _ (.inr ⟨j, hj, rfl⟩)
   have hjne : ∀ j, gR C ops listed q j → j ≠ i := by
    rintro j ⟨oj, e1, e2, e3, e4⟩ e
    subst e; exact hnS e3
   refine ih _ _ _ ⟨by simpa using hsz, hdown', q, hq, hcand, fun j oj hj haj => ?_, lY ρ' (idp C ops p0 i) ⟨w.heap.size, 0, 0, none⟩, fun j => if j = i then w.heap.size else R j, ?_, ?_, hTS _ _ hext m4, ?_, by rw [oC]; exact h5, by rw [kK]; exact h6, ?_, ?_, ?_⟩ hcount
   ·rw [hS' j, hgap j oj hj haj]
    constructor
    ·exact .inr
    ·rintro (h | h)
     ·subst h; rw [ho] at hj; cases hj; rw [hmk] at haj; cases haj
     ·exact h
   ·refine h1.trans ⟨hext, fun b L hb => ?_⟩
    by_cases e : b = idp C ops p0 i
    ·right
     rw [e]
     unfold idp
     rw [dK]
     omega
    ·rw [aV _ _ e] at hb; exact .inl hb
   ·refine H2.weak rfl ?_ (Nat.le_refl _) rfl
    rintro k (hk | ⟨j, hj, hjk⟩)
    ·exact .inl (.inl hk)
    ·rcases hEarly j hj with rfl | hj'
     ·right; simpa using hjk.symm
     ·left; right
      refine ⟨j, hj', ?_⟩
      simpa [hjne j hj'] using hjk
   ·exact h4.trans (eV (G := G) ⟨h2.sz.1, fun k hk => h2.sz.2 k (.inl hk)⟩ _)
   ·intro j oj hj hmj hSj
    have hji : j ≠ i := fun e => hSj ((hS' j).2 (.inl e))
    rw [aV _ _ (cIb hj hmj ho hmk hji)]
    exact h7 j oj hj hmj fun h => hSj ((hS' j).2 (.inr h))
   ·intro j hj
    rcases hEarly j hj with rfl | hj'
    ·refine ⟨by simp [bY], by simp; exact h2.sz.1, ?_, arr, t, cs, ?_, m2.mono hext, m3⟩
     ·simp only [if_true]
      intro hx
      have := h2.sz.2 _ (.inl hx)
      omega
     ·simp only [if_true]
      show (w.heap.push _)[w.heap.size]? = _
      simp
    ·have hM := h8 j hj'
     obtain ⟨arr', t', cs', r1, r2, r3⟩ := hM.row
     have hji := hjne j hj'
     refine ⟨?_, by simp [hji]; exact hM.low, by simp [hji]; exact hM.ex, arr', t', cs', ?_, r2.mono hext, r3⟩
     ·simp only [hji, if_false]; exact hext _ _ hM.name
     ·simp only [hji, if_false]
      rw [Below.heap_alloc _ _ _ (hRlt j hj')]
      exact r1
   ·intro j j' hj hj' he
    rcases hEarly j hj with rfl | hj1
    ·rcases hEarly j' hj' with rfl | hj1'
     ·rfl
     ·simp only [if_true, hjne j' hj1', if_false] at he
      have := hRlt j' hj1'
      omega
    ·rcases hEarly j' hj' with rfl | hj1'
     ·simp only [if_true, hjne j hj1, if_false] at he
      have := hRlt j hj1
      omega
     ·simp only [hjne j hj1, hjne j' hj1', if_false] at he
      exact h9 j j' hj1 hj1' he
  ·
   have hstep : ∃ q1 q2, q ≤ q1 ∧ q1 ≤ ops.size ∧ q2 ≤ ops.size ∧ q1 ≤ q2 ∧ cLx C ops q2 ∧ HR (GX G N C ops listed R q1) ρ' (Hh q1) w ∧
     bF C rec ops o (TS ops V (E 0) listed ops.size) (Hh q1) = some (V i, Hh q2) ∧
     (∀ j oj, ops[j]? = some oj → bO C.P oj.op = .acts → (j < q2 ↔ S (listed.setIfInBounds i true) j)) ∧
     (∀ j, gR C ops (listed.setIfInBounds i true) q2 j → gR C ops listed q1 j) := by
    rw [show bF C rec ops o (TS ops V (E 0) listed ops.size) = bF C rec ops o (E i) from funext fun h => aIy hlook]
    by_cases ha : bO C.P o.op = .acts
    ·have hqi : q ≤ i := by
      rcases Nat.lt_or_ge i q with h | h
      ·exact absurd ((hgap i o ho ha).1 h) hnS
      ·exact h
     refine ⟨i, i + 1, hqi, by omega, by omega, by omega, .inr ⟨i, o, ho, ha, rfl⟩, ?_, hst.step hmk, fun j oj hj haj => ?_, ?_⟩
     ·refine aHr (G := G) T h8 h9 i hqi (by omega) (fun j oj hj hqj hji => ⟨fun haj => ?_, fun hmj => ?_⟩) h2
      ·rcases (dD T.ok ho).2.2 j oj hji hj with h | ⟨_, h⟩
       ·have := (hgap j oj hj haj).2 (hpre j h); omega
       ·exact absurd ⟨.inl haj, ha⟩ h
      ·rcases (dD T.ok ho).2.2 j oj hji hj with h | ⟨_, h⟩
       ·exact hpre j h
       ·exact absurd ⟨.inr hmj, ha⟩ h
     ·rw [hS' j]
      constructor
      ·intro hlt'
       by_cases e : j = i
       ·exact .inl e
       ·right
        rcases (dD T.ok ho).2.2 j oj (by omega) hj with h | ⟨_, h⟩
        ·exact hpre j h
        ·exact absurd ⟨.inl haj, ha⟩ h
      ·rintro (h | h)
       ·omega
       ·rcases Nat.lt_or_ge i j with hij | hij
        ·rcases (dD T.ok hj).2.2 i o hij ho with h' | ⟨_, h'⟩
         ·exact absurd (hdown i j h' h) hnS
         ·exact absurd ⟨.inl ha, haj⟩ h'
        ·omega
     ·rintro j ⟨oj, e1, e2, e3, e4⟩
      rcases (hS' j).1 e3 with e | e
      ·omega
      ·exact ⟨oj, e1, e2, e, by omega⟩
    ·refine ⟨q, q, Nat.le_refl _, hq, hq, Nat.le_refl _, hcand, h2, T.value ho ha hmk hcand hgap hnS hdown hpre, fun j oj hj haj => ?_, ?_⟩
     ·rw [hS' j, hgap j oj hj haj]
      constructor
      ·exact .inr
      ·rintro (h | h)
       ·subst h; rw [ho] at hj; cases hj; exact absurd haj ha
       ·exact h
     ·rintro j ⟨oj, e1, e2, e3, e4⟩
      rcases (hS' j).1 e3 with e | e
      ·subst e; rw [ho] at e1; cases e1; exact absurd e2 hmk
      ·exact ⟨oj, e1, e2, e, e4⟩
   obtain ⟨q1, q2, k1, k2, k2', k12, k3, k4, k5, k6, k7⟩ := hstep
   refine zP (aGg K k4 h3 k5) rfl ho k4 fun ρ2 w2 v2 e1 e2 e3 e4 => ?_
   have hEq : ∀ j, gR C ops listed q1 j → gR C ops listed q j := by
    rintro j ⟨oj, f1, f2, f3, f4⟩
    exact ⟨oj, f1, f2, f3, by omega⟩
   refine ih _ _ _ ⟨by simpa using hsz, hdown', q2, k2', k3, k6, ρ2, R, ?_, ?_, hTS _ _ e1.ext e2, ?_, by rw [oC]; exact h5, by rw [kK]; exact h6, ?_, ?_, ?_⟩ hcount
   ·refine h1.trans ⟨e1.ext, fun b L hb => (e1.new b L hb).imp id fun h => ?_⟩
    simp only [GX] at h
    omega
   ·refine e3.weak rfl ?_ (Nat.le_refl _) rfl
    rintro k (hk | ⟨j, hj, hjk⟩)
    ·exact .inl hk
    ·exact .inr ⟨j, k7 j hj, hjk⟩
   ·exact h4.trans ⟨e4.low, fun k hk => e4.ex k (.inl hk)⟩
   ·intro j oj hj hmj hSj
    have hn := h7 j oj hj hmj fun h => hSj ((hS' j).2 (.inr h))
    cases hr : ρ2 (idp C ops p0 j) with
    | none => rfl
    | some L =>
     rcases e1.new _ _ hr with h | h
     ·rw [hn] at h; cases h
     ·have := bEn (p0 := p0) hj hmj
      simp only [GX] at h
      omega
   ·intro j hj
    have hj1 := k7 j hj
    have hM := h8 j (hEq j hj1)
    obtain ⟨arr', t', cs', r1, r2, r3⟩ := hM.row
    exact ⟨e1.ext _ _ hM.name, hM.low, hM.ex, arr', t', cs', by rw [e4.ex _ (.inr ⟨j, hj1, rfl⟩)]; exact r1, r2.mono e1.ext, r3⟩
   ·intro j j' hj hj' he
    exact h9 j j' (hEq j (k7 j hj)) (hEq j' (k7 j' hj')) he
theorem aUd (K : OkC C rec) (hm : C.P.follows .mixedOrders = true) {id : Nat} {k : Dd.K} {r : DV × Hp} {env : aU} {h : Hp} {ρ : dB} {a : Act} {w : World} {Q : Exit → Act → World → Prop}
  (hok : fF C.P ops = true) (hp : iG C rec nt ops k env h = some r) (H : HR G ρ h w) (he : EnvR ρ env a) (hnt : nt ≤ a.tmps.size) (hd : a.defers = [])
  (hQ : ∀ ρ' env' h' a' w', Ex G ρ ρ' → HR G ρ' h' w' → EnvR ρ' env' a' → Kp G w w' → nt ≤ a'.tmps.size → a'.defers = [] → k env' h' = some r → Q .normal a' w') :
  (Code.region id ops true).wp C.P Q a w := by
 obtain ⟨E, Hh, V, e1, e2, e3, e4⟩ := pZ (p0 := h.next) ops.toList 0 0 false [] _ env _ r hp (by simp) (fun _ => ⟨_, _, rfl⟩)
 simp only [Nat.zero_add, Array.length_toList, Nat.sub_zero] at e3 e4
 have T : Tr1 C rec ops nt h.next E Hh V := ⟨hok, fun p o ho => by
  have := (e4 p o (Nat.zero_le _) (by
   rcases Nat.lt_or_ge p ops.size with h | h
   ·exact h
   ·simp [Array.getElem?_eq_none h] at ho) ho).1
  rw [← e2] at this
  exact this⟩
 obtain ⟨n1, n2⟩ := xC (bW C.P ops.toList) h
 have hNN : (resv (bW C.P ops.toList) h).next.toNat = h.next.toNat + bW C.P ops.toList := by rw [n1, dK]
 refine wp_region_any hm (bQm (G := G) K T rfl H.nx (ρ := ρ) (w0 := w) (fun ρ' a' w' h1 h2 h3 h4 h5 h6 => hQ ρ' _ _ a' w' h1 h2 h3 h4 h5 h6 e3) ops.size _ a _ ?_ ?_)
 ·have hno : ∀ j, ¬ S (Array.replicate ops.size false) j := by
   intro j hj
   unfold S at hj
   simp [Array.getElem?_replicate] at hj
   split at hj <;> simp at hj
  have hnoE : ∀ j, ¬ gR C ops (Array.replicate ops.size false) 0 j := by
   rintro j ⟨oj, _, _, h3, _⟩
   exact hno j h3
  refine ⟨by simp, fun j x _ hx => absurd hx (hno x), 0, Nat.zero_le _, .inl rfl, fun j oj hj ha => ⟨fun h => by omega, fun h => absurd h (hno j)⟩, ρ, fun _ => 0, Ex.refl G ρ, ?_, ?_, ?_, hnt, hd, ?_, fun j hj => absurd hj (hnoE j), fun j j' hj => absurd hj (hnoE j)⟩
  ·rw [e2]
   have := (H.reserve (bW C.P ops.toList)).congr (w' := { w with drawn := w.drawn + 1 }) rfl
   rw [hNN] at this
   refine this.weak rfl ?_ (Nat.le_refl _) rfl
   rintro k (hk | ⟨j, hj, _⟩)
   ·exact hk
   ·exact absurd hj (hnoE j)
  ·have hT : ∀ p, TS ops V (E 0) (Array.replicate ops.size false) p = E 0 := by
    intro p
    induction p with
    | zero => rfl
    | succ p ih =>
     simp only [TS, ih]
     split
     ·rename_i o ho
      rw [if_neg (show ¬ (Array.replicate ops.size false).getD p false = true from hno p)]
     ·rfl
   intro t
   rw [hT, e1]
   exact he t
  ·exact (Kp.refl G w).drew
  ·intro j oj hj hmj _
   cases hr : ρ (idp C ops h.next j) with
   | none => rfl
   | some L =>
    have h1 := H.lt _ _ hr
    unfold idp at h1
    rw [dK] at h1
    omega
 ·have := List.length_filter_le (fun i => !(Array.replicate ops.size false).getD i false) (List.range ops.size)
  simpa using this
end
end Go.Dd

namespace Go.Dd
open Go.RowKit (Below)
section
variable {C : Cfg} {G : Gd} {rec : FuncId → List DV → Hp → aH} {nt n : Nat}
def St (G : Gd) (nt : Nat) (ρ : dB) (w0 : World) (k : K) (r : DV × Hp) (a : Act) (w : World) : Prop :=
 ∃ ρ' env h, Ex G ρ ρ' ∧ HR G ρ' h w ∧ EnvR ρ' env a ∧ Kp G w0 w ∧ nt ≤ a.tmps.size ∧ a.defers = [] ∧ k env h = some r
def QQ (G : Gd) (nt : Nat) (ρ : dB) (w0 : World) (X : Nat → K) (kr k : K) (r : DV × Hp) : Exit → Act → World → Prop
 | .normal, a, w => St G nt ρ w0 k r a w
 | .exit id, a, w => St G nt ρ w0 (X id) r a w
 | .ret, a, w => St G nt ρ w0 kr r a w
 | _, _, _ => False
theorem cDc (K : OkC C rec) (hm : C.P.follows .mixedOrders = true) {ρ : dB} {w0 : World} {r : DV × Hp} : ∀ (c : Code) (X : Nat → Dd.K) (kr k : Dd.K) (a : Act) (w : World),
  St G nt ρ w0 (aP C rec nt n c X kr k) r a w → c.wp C.P (QQ G nt ρ w0 X kr k r) a w := by
 intro c
 induction c with
 | skip => intro X kr k a w h; exact wp_skip h
 | region id ops dr =>
  intro X kr k a w h
  obtain ⟨ρ', env, hp, h1, h2, h3, h4, h5, h6, h7⟩ := h
  change (Bool.rec (motive := fun _ => Dd.K) (jA C rec nt ops ops.toList k) (Bool.rec (motive := fun _ => Dd.K) hZ (iG C rec nt ops k) (fF C.P ops)) dr) env hp = some r at h7
  cases dr with
  | true =>
   dsimp only at h7
   cases hok : fF C.P ops with
   | false => rw [hok] at h7; cases h7
   | true =>
    rw [hok] at h7
    exact aUd K hm hok h7 h2 h3 h5 h6 fun ρ2 env2 h2' a2 w2 e1 e2 e3 e4 e5 e6 e7 => ⟨ρ2, env2, h2', h1.trans e1, e2, e3, h4.trans e4, e5, e6, e7⟩
  | false =>
   simp only [cond_false] at h7
   obtain ⟨env', h', hr, hk⟩ := tL ops.toList k env hp r h7
   refine wp_region ?_
   have := aPf (Q := QQ G nt ρ w0 X kr k r) K ops.toList 0 ρ' env hp a w (by simp) hr h2 h3 h5 h6 fun ρ2 a2 w2 e1 e2 e3 e4 e5 e6 => ⟨ρ2, env', h', h1.trans e1, e2, e3, h4.trans e4, e5, e6, hk⟩
   rw [List.range_eq_range']
   simpa using this
 | seq x y ihx ihy =>
  intro X kr k a w h
  refine wp_seq (wp_mono (ihx X kr (aP C rec nt n y X kr k) a w h) fun e a' w' hq => ?_)
  cases e with
  | normal => exact ihy X kr k a' w' hq
  | exit id => exact hq
  | ret => exact hq
  | goto l => exact hq
  | panic ch => exact hq
  | outgrown => exact hq
 | cond c x y ihx ihy =>
  intro X kr k a w h
  obtain ⟨ρ', env, hp, h1, h2, h3, h4, h5, h6, h7⟩ := h
  change aS (opr env c) (aP C rec nt n x X kr k env hp) (aP C rec nt n y X kr k env hp) = some r at h7
  have hc := bD h3 c
  unfold aS at h7
  split at h7 <;> (try (cases h7; done))
  ·rename_i hcb
   rw [hcb] at hc
   generalize hcv : a.eval c = cv at hc
   cases hc
   exact wp_cond_true hcv (ihx X kr k a w ⟨ρ', env, hp, h1, h2, h3, h4, h5, h6, h7⟩)
  ·rename_i hcb
   rw [hcb] at hc
   generalize hcv : a.eval c = cv at hc
   cases hc
   exact wp_cond_false hcv (ihy X kr k a w ⟨ρ', env, hp, h1, h2, h3, h4, h5, h6, h7⟩)
 | block id x ih =>
  intro X kr k a w h
  refine wp_block (wp_mono (ih (fun j => bif Nat.beq j id then k else X j) kr k a w h) fun e a' w' hq => ?_)
  cases e with
  | normal => exact hq
  | exit id' =>
   simp only [QQ] at hq
   simp only [Exit.inBlock, QQ]
   split
   ·rename_i e
    subst e
    have hb : Nat.beq id' id' = true := Nat.beq_refl id'
    rw [hb] at hq
    exact hq
   ·rename_i e
    have : Nat.beq id' id = false := by
     cases hb : Nat.beq id' id with
     | false => rfl
     | true => exact absurd (Nat.eq_of_beq_eq_true hb) e
    rw [this] at hq
    exact hq
  | ret => exact hq
  | goto l => exact hq
  | panic ch => exact hq
  | outgrown => exact hq
 | loop x ih =>
  intro X kr k a w h
  have key : ∀ (m : Nat) (a : Act) (w : World), St G nt ρ w0 (aN (fun kk => aP C rec nt n x X kr kk) m) r a w → Code.rounds C.P x (QQ G nt ρ w0 X kr k r) m a w := by
   intro m
   induction m with
   | zero =>
    rintro a w ⟨ρ', env, hp, h1, h2, h3, h4, h5, h6, h7⟩
    cases h7
   | succ m ihm =>
    intro a w hs
    rw [rounds_succ]
    refine wp_mono (ih X kr (aN (fun kk => aP C rec nt n x X kr kk) m) a w hs) fun e a' w' hq => ?_
    cases e with
    | normal => exact ihm a' w' hq
    | exit id => exact hq
    | ret => exact hq
    | goto l => exact hq
    | panic ch => exact hq
    | outgrown => exact hq
  exact wp_loop_rounds n (key n a w h)
 | rangeFunc f ps x y ihx ihy =>
  rintro X kr k a w ⟨ρ', env, hp, h1, h2, h3, h4, h5, h6, h7⟩
  cases h7
 | exit id => intro X kr k a w h; exact wp_exit h
 | scope x ih =>
  intro X kr k a w h
  refine wp_scope_straight (wp_mono (ih X kr k a w h) fun e a' w' hq => ?_)
  cases e with
  | goto l => exact hq
  | normal => exact hq
  | exit id => exact hq
  | ret => exact hq
  | panic ch => exact hq
  | outgrown => exact hq
 | label l => intro X kr k a w h; exact wp_label h
 | goto l =>
  rintro X kr k a w ⟨ρ', env, hp, h1, h2, h3, h4, h5, h6, h7⟩
  cases h7
 | ret => intro X kr k a w h; exact wp_ret h
 | refuse why =>
  rintro X kr k a w ⟨ρ', env, hp, h1, h2, h3, h4, h5, h6, h7⟩
  cases h7
def zD (tmps : Array Value) (rv : ResultVar) : Sem Value :=
 match rv with
 | .tmp t => pure (tmps.getD t undef)
 | .cell q t => do loadVar t (← asAddr (tmps.getD q undef))
theorem tR (fn : Func) (tmps : Array Value) : results fn tmps = (do
  let vs ← fn.results.mapM (zD tmps)
  pure (if h : vs.size = 1 then vs[0] else .tuple vs)) := by
 unfold results
 congr 2
theorem bDs {ρ : dB} {w : World} {h : Hp} {x : DV} {x' : Value} {t : TypeId} {k : DV → aH} {r : DV × Hp} (H : HR G ρ h w) (hx : VR ρ x x') (hr : xJ C t x h k = some r) :
  ∃ v v', (do loadVar t (← asAddr x') : Sem Value).run C.P w = .ok v' w ∧ VR ρ v v' ∧ k v = some r := by
 unfold xJ at hr
 split at hr <;> (try (cases hr; done))
 rename_i d i ht hi
 obtain ⟨v, h', hl, hk⟩ := cX hr
 have hconv : ∀ b o, x = .p b o → (Instr.loadAt t x') = (do loadVar t (← asAddr x')) := by
  rintro b o rfl
  cases hx
  simp [Instr.loadAt, Instr.sureAddr, asAddr]
 cases hd : gV d with
 | true =>
  rw [hd] at hl
  simp only [cond_true] at hl
  unfold aK at hl
  split at hl <;> (try (cases hl; done))
  rename_i b o
  split at hl <;> (try (cases hl; done))
  rename_i cs hc
  simp only [bB, bL] at hl
  obtain ⟨rfl, _⟩ := hl
  cases hx with
  | p _ _ L hL =>
   obtain ⟨c1, c2, _, vs, c4, c5, c6⟩ := eL H hc hL
   have hrun := cP (P := C.P) vs rfl c6
   rw [c5] at hrun
   refine ⟨_, .agg vs.toArray, ?_, .a cs vs.toArray (by simpa using c4), hk⟩
   simp only [asAddr, Sem.run_bind, Sem.run_pure, Result.andThen_ok, loadVar, rA ht, hd, if_true, rS hi, hrun]
 | false =>
  rw [hd] at hl
  simp only [cond_false] at hl
  unfold aA at hl
  split at hl <;> (try (cases hl; done))
  rename_i b o
  split at hl <;> (try (cases hl; done))
  rename_i u' hc
  simp only [bB, bL] at hl
  obtain ⟨rfl, _⟩ := hl
  cases hx with
  | p _ _ L hL =>
   unfold cellD rowOf at hc
   split at hc <;> (try (cases hc; done))
   rename_i l hl
   split at hl <;> (try (cases hl; done))
   rename_i kd l0 hb
   simp only [bB] at hl
   subst hl
   split at hc <;> (try (cases hc; done))
   rename_i u0 hu
   split at hc <;> (try (cases hc; done))
   rename_i ho
   simp only [bB] at hc
   subst hc
   obtain ⟨v', h5, h6⟩ := H.cell b kd l0 L o u0 hb hL hu ho
   refine ⟨_, v', ?_, h6, hk⟩
   simp only [asAddr, Sem.run_bind, Sem.run_pure, Result.andThen_ok, loadVar, rA ht, hd, Bool.false_eq_true, if_false, run_load, h5]
theorem wK {ρ : dB} {w : World} {h : Hp} {env : aU} {a : Act} (H : HR G ρ h w) (he : EnvR ρ env a) {r : DV × Hp} : ∀ (l : List ResultVar) (k : List DV → aH), aUa C env h l k = some r →
  ∃ vs vs', (l.mapM (zD a.tmps)).run C.P w = .ok vs' w ∧ VRs ρ vs vs' ∧ k vs = some r
 | [], k, hr => ⟨[], [], by simp, .nil, hr⟩
 | .tmp t :: l, k, hr => by
  obtain ⟨vs, vs', h1, h2, h3⟩ := wK H he l (fun vs => k (env t :: vs)) hr
  refine ⟨env t :: vs, a.tmps.getD t undef :: vs', ?_, .cons _ _ _ _ (he t) h2, h3⟩
  simp only [List.mapM_cons, Sem.run_bind, zD, Result.andThen_ok, h1, Sem.run_pure]
 | .cell q t :: l, k, hr => by
  obtain ⟨v, v', h1, h2, h3⟩ := bDs (x' := a.tmps.getD q undef) H (he q) hr
  obtain ⟨vs, vs', h4, h5, h6⟩ := wK H he l (fun vs => k (v :: vs)) h3
  refine ⟨v :: vs, v' :: vs', ?_, .cons _ _ _ _ h2 h5, h6⟩
  simp only [List.mapM_cons, Sem.run_bind, zD] at h1 ⊢
  simp only [h1, Result.andThen_ok, h4, Sem.run_pure]
theorem aUq {ρ : dB} {w : World} {h h1 : Hp} {env : aU} {a : Act} (H : HR G ρ h w) (he : EnvR ρ env a) {fn : Func} {v : DV} (hr : aO C fn env h = some (v, h1)) :
  h1 = h ∧ ∃ v', (results fn a.tmps).run C.P w = .ok v' w ∧ VR ρ v v' := by
 obtain ⟨us, vs', h2, h3, hk⟩ := wK H he _ _ hr
 unfold bSg at hk
 split at hk
 ·rename_i u
  simp only [bB, bL] at hk
  obtain ⟨rfl, rfl⟩ := hk
  cases h3 with
  | cons _ v' _ l' hv hn =>
   cases hn
   refine ⟨rfl, v', ?_, hv⟩
   rw [tR, Array.mapM_eq_mapM_toList]
   simp only [Sem.run_bind, Sem.run_map, h2, Result.andThen_ok, Sem.run_pure]
   simp
 ·rename_i hne
  simp only [bB, bL] at hk
  obtain ⟨rfl, rfl⟩ := hk
  have hl := h3.length
  have hne1 : vs'.length ≠ 1 := by
   intro e
   rw [e] at hl
   match us, hl with
   | [x], _ => exact hne x rfl
  refine ⟨rfl, .tuple vs'.toArray, ?_, .t _ _ (by simpa using h3)⟩
  rw [tR, Array.mapM_eq_mapM_toList]
  simp only [Sem.run_bind, Sem.run_map, h2, Result.andThen_ok, Sem.run_pure]
  rw [dif_neg (by simpa using hne1)]
structure POk (P : Program) : Prop where
 mixed : P.follows .mixedOrders = true
 names : ∀ (f : Nat) (fn : Func), P.funcs[f]? = some fn → (fn.name == "runtime.NumGoroutine") = false
theorem aUy (K : OkC C rec) (hP : POk C.P) (n : Nat) (f : FuncId) : wR C.P G f (aG C rec n f) := by
 intro args h v h1 hr ρ w args' H hargs
 unfold aG at hr
 split at hr <;> (try (cases hr; done))
 rename_i fn hf
 split at hr <;> (try (cases hr; done))
 rename_i c hb
 refine .inl ⟨?_, ?_⟩
 ·unfold callFunc
  have hn : ¬ fn.name = "runtime.NumGoroutine" := by simpa using hP.names f fn hf
  simp [hf, hn, hb]
 ·refine calls_of_wp hf hb ?_
  have he : EnvR ρ (aJ args) { tmps := args' ++ Array.replicate (fn.ntmps - args'.size) undef, defers := [] } := by
   intro t
   unfold aJ
   have hlen := hargs.length
   simp only [Array.length_toList] at hlen
   by_cases ht : t < args.length
   ·have hg : args[t]? = some args[t] := by simp [ht]
    obtain ⟨v', h2, h3⟩ := hargs.get t _ hg
    simp only [Array.getElem?_toList] at h2
    rw [show args.getD t aT = args[t] by simp [List.getD, hg]]
    have : (args' ++ Array.replicate (fn.ntmps - args'.size) undef).getD t undef = v' := by
     simp [Array.getElem?_append_left (show t < args'.size by omega), h2]
    rw [this]
    exact h3
   ·have hg : args.getD t aT = aT := by simp [List.getD, List.getElem?_eq_none (Nat.le_of_not_lt ht)]
    rw [hg]
    have : (args' ++ Array.replicate (fn.ntmps - args'.size) undef).getD t undef = undef := by
     rw [Array.getD_eq_getD_getElem?, Array.getElem?_append_right (by omega)]
     simp only [Array.getElem?_replicate]
     split <;> rfl
    rw [this]
    exact .t [] #[] .nil
  have hst : St G fn.ntmps ρ w (aP C rec fn.ntmps n c (fun _ => hZ) (aO C fn) (aO C fn)) (v, h1) { tmps := args' ++ Array.replicate (fn.ntmps - args'.size) undef, defers := [] } w :=
   ⟨ρ, aJ args, h, Ex.refl G ρ, H, he, Kp.refl G w, by simp; omega, rfl, hr⟩
  refine wp_mono (cDc K hP.mixed c _ _ _ _ _ hst) fun e a' w' hq => ?_
  have hfin : St G fn.ntmps ρ w (aO C fn) (v, h1) a' w' → a'.defers = [] ∧ ∃ v', (results fn a'.tmps).run C.P w' = .ok v' w' ∧ kP G ρ w v h1 (.returned v') w' := by
   rintro ⟨ρ', env, h', e1, e2, e3, e4, e5, e6, e7⟩
   obtain ⟨rfl, v', r1, r2⟩ := aUq e2 e3 e7
   exact ⟨e6, v', r1, ρ', v', rfl, e1, r2, e2, e4⟩
  cases e with
  | normal => exact hfin hq
  | ret => exact hfin hq
  | exit id =>
   obtain ⟨ρ', env, h', e1, e2, e3, e4, e5, e6, e7⟩ := hq
   cases e7
  | goto l => exact hq.elim
  | panic ch => exact hq.elim
  | outgrown => exact hq.elim
theorem aBu (hP : POk C.P) (hI : ∀ G g F, C.I g = some F → wR C.P G g F) : ∀ (n : Nat) (G : Gd) (f : FuncId), wR C.P G f (eA C n f)
 | 0, G, f => fun args h v h1 hr => by cases hr
 | n + 1, G, f => aUy (rec := eA C n) ⟨hI, fun G g => aBu hP hI n G g⟩ hP n f
end
end Go.Dd

namespace Go.Dd
open Go.RowKit (Below)
section
variable {C : Cfg} {G : Gd} {rec : FuncId → List DV → Hp → aH} {nt : Nat}
def mA (h : Hp) : Prop := ∀ b o, h.bl.get b = some o → b.toNat < h.next.toNat
theorem HR.isFresh {ρ : dB} {h : Hp} {w : World} (H : HR G ρ h w) : mA h := fun b o hb => by
 obtain ⟨L, hL⟩ := H.dom b o hb
 exact H.lt b L hL
def aIn (C : Cfg) (rec : FuncId → List DV → Hp → aH) (nt : Nat) (ops : Array Oper) (kP : aU → Hp → Prop) : Nat → Array Bool → aU → Hp → Prop
 | 0, listed, env, h => Region.ready .any ops listed = [] ∧ kP env h
 | f + 1, listed, env, h => (Region.ready .any ops listed = [] → kP env h) ∧
   ∀ i ∈ Region.ready .any ops listed, ∃ o v h', ops[i]? = some o ∧ cT nt o.dst = true ∧ bF C rec ops o env h = some (v, h') ∧
    aIn C rec nt ops kP f (listed.setIfInBounds i true) (bK env o.dst v) h'
theorem bIo (K : OkC C rec) {ops : Array Oper} {kP : aU → Hp → Prop} {Q : Exit → Act → World → Prop} : ∀ (fuel : Nat) (listed : Array Bool) (ρ : dB) (env : aU) (h : Hp) (a : Act) (w : World),
  aIn C rec nt ops kP fuel listed env h → HR G ρ h w → EnvR ρ env a → nt ≤ a.tmps.size → a.defers = [] →
  (∀ ρ' env' h' a' w', kP env' h' → Ex G ρ ρ' → HR G ρ' h' w' → EnvR ρ' env' a' → Kp G w w' → nt ≤ a'.tmps.size → a'.defers = [] → Q .normal a' w') →
  wpAny C.P .any ops Q fuel listed a w
 | 0, listed, ρ, env, h, a, w, hp, H, he, hnt, hd, hQ => ⟨hp.1, hQ ρ env h a w hp.2 (Ex.refl G ρ) H he (Kp.refl G w) hnt hd⟩
 | f + 1, listed, ρ, env, h, a, w, hp, H, he, hnt, hd, hQ => by
  refine ⟨fun hr => hQ ρ env h a w (hp.1 hr) (Ex.refl G ρ) H he (Kp.refl G w) hnt hd, fun i hi => ?_⟩
  obtain ⟨o, v, h', ho, hf, hs, hn⟩ := hp.2 i hi
  refine zP (aGg K H he hs) rfl ho H fun ρ' w' v' h2 h3 h4 h5 => ?_
  exact bIo K f _ ρ' _ h' _ w' hn h4 (he.put h2.ext h3 hf hnt) (by rw [oC]; exact hnt) (by rw [kK]; exact hd)
   fun ρ2 env2 hh a2 w2 e0 e1 e2 e3 e4 e5 e6 => hQ ρ2 env2 hh a2 w2 e0 (h2.trans e1) e2 e3 (h5.trans e4) e5 e6
def pJ (C : Cfg) (rec : FuncId → List DV → Hp → aH) (nt : Nat) : Code → (Nat → aU → Hp → Prop) → (aU → Hp → Prop) → (aU → Hp → Prop) → aU → Hp → Prop
 | .skip, _, _, N => N
 | .region _ ops dr, _, _, N => fun env h => if dr then (aIn C rec nt ops (fun e h => mA h → N e h) ops.size (Array.replicate ops.size false) env h ∨
    (fF C.P ops = true ∧ ∃ k r, iG C rec nt ops k env h = some r ∧ ∀ env' h', k env' h' = some r → mA h' → N env' h'))
   else ∃ env' h', aDr C rec nt ops ops.toList env h env' h' ∧ (mA h' → N env' h')
 | .seq a b, X, R, N => pJ C rec nt a X R (pJ C rec nt b X R N)
 | .cond c a b, X, R, N => fun env h => (opr env c = .b true ∧ pJ C rec nt a X R N env h) ∨ (opr env c = .b false ∧ pJ C rec nt b X R N env h)
 | .block id a, X, R, N => pJ C rec nt a (fun j => if j = id then N else X j) R N
 | .exit id, X, _, _ => X id
 | .scope a, X, R, N => pJ C rec nt a X R N
 | .ret, _, R, _ => R
 | _, _, _, _ => fun _ _ => False
def StP (G : Gd) (nt : Nat) (ρ : dB) (w0 : World) (N : aU → Hp → Prop) (a : Act) (w : World) : Prop :=
 ∃ ρ' env h, Ex G ρ ρ' ∧ HR G ρ' h w ∧ EnvR ρ' env a ∧ Kp G w0 w ∧ nt ≤ a.tmps.size ∧ a.defers = [] ∧ N env h
def QP (G : Gd) (nt : Nat) (ρ : dB) (w0 : World) (X : Nat → aU → Hp → Prop) (R N : aU → Hp → Prop) : Exit → Act → World → Prop
 | .normal, a, w => StP G nt ρ w0 N a w
 | .exit id, a, w => StP G nt ρ w0 (X id) a w
 | .ret, a, w => StP G nt ρ w0 R a w
 | _, _, _ => False
theorem bCf (K : OkC C rec) (hm : C.P.follows .mixedOrders = true) {ρ : dB} {w0 : World} : ∀ (c : Code) (X : Nat → aU → Hp → Prop) (R N : aU → Hp → Prop) (a : Act) (w : World),
  StP G nt ρ w0 (pJ C rec nt c X R N) a w → c.wp C.P (QP G nt ρ w0 X R N) a w := by
 intro c
 induction c with
 | skip => intro X R N a w h; exact wp_skip h
 | region id ops dr =>
  intro X R N a w h
  obtain ⟨ρ', env, hp, h1, h2, h3, h4, h5, h6, h7⟩ := h
  cases dr with
  | true =>
   simp only [pJ, if_true] at h7
   rcases h7 with h7 | ⟨hok, k, r, h7, h8⟩
   ·refine wp_region_any hm (bIo K ops.size _ ρ' env hp a _ h7 (h2.congr rfl) h3 h5 h6 fun ρ2 env2 h2' a2 w2 e0 e1 e2 e3 e4 e5 e6 => ?_)
    exact ⟨ρ2, env2, h2', h1.trans e1, e2, e3, (h4.trans ((Kp.refl G w).drew)).trans e4, e5, e6, e0 e2.isFresh⟩
   ·exact aUd K hm hok h7 h2 h3 h5 h6 fun ρ2 env2 h2' a2 w2 e1 e2 e3 e4 e5 e6 e7 => ⟨ρ2, env2, h2', h1.trans e1, e2, e3, h4.trans e4, e5, e6, h8 _ _ e7 e2.isFresh⟩
  | false =>
   simp only [pJ, Bool.false_eq_true, if_false] at h7
   obtain ⟨env', h', hr, hk⟩ := h7
   refine wp_region ?_
   have := aPf (Q := QP G nt ρ w0 X R N) K ops.toList 0 ρ' env hp a w (by simp) hr h2 h3 h5 h6 fun ρ2 a2 w2 e1 e2 e3 e4 e5 e6 => ⟨ρ2, env', h', h1.trans e1, e2, e3, h4.trans e4, e5, e6, hk e2.isFresh⟩
   rw [List.range_eq_range']
   simpa using this
 | seq x y ihx ihy =>
  intro X R N a w h
  refine wp_seq (wp_mono (ihx X R (pJ C rec nt y X R N) a w h) fun e a' w' hq => ?_)
  cases e with
  | normal => exact ihy X R N a' w' hq
  | exit id => exact hq
  | ret => exact hq
  | goto l => exact hq
  | panic ch => exact hq
  | outgrown => exact hq
 | cond c x y ihx ihy =>
  intro X R N a w h
  obtain ⟨ρ', env, hp, h1, h2, h3, h4, h5, h6, h7⟩ := h
  have hc := bD h3 c
  rcases h7 with ⟨hcb, h7⟩ | ⟨hcb, h7⟩
  ·rw [hcb] at hc
   generalize hcv : a.eval c = cv at hc
   cases hc
   exact wp_cond_true hcv (ihx X R N a w ⟨ρ', env, hp, h1, h2, h3, h4, h5, h6, h7⟩)
  ·rw [hcb] at hc
   generalize hcv : a.eval c = cv at hc
   cases hc
   exact wp_cond_false hcv (ihy X R N a w ⟨ρ', env, hp, h1, h2, h3, h4, h5, h6, h7⟩)
 | block id x ih =>
  intro X R N a w h
  refine wp_block (wp_mono (ih (fun j => if j = id then N else X j) R N a w h) fun e a' w' hq => ?_)
  cases e with
  | normal => exact hq
  | exit id' =>
   simp only [QP] at hq
   simp only [Exit.inBlock]
   split
   ·rename_i e
    rw [if_pos e] at hq
    exact hq
   ·rename_i e
    rw [if_neg e] at hq
    exact hq
  | ret => exact hq
  | goto l => exact hq
  | panic ch => exact hq
  | outgrown => exact hq
 | loop x ih => rintro X R N a w ⟨ρ', env, hp, h1, h2, h3, h4, h5, h6, h7⟩; exact h7.elim
 | rangeFunc f ps x y ihx ihy => rintro X R N a w ⟨ρ', env, hp, h1, h2, h3, h4, h5, h6, h7⟩; exact h7.elim
 | exit id => intro X R N a w h; exact wp_exit h
 | scope x ih =>
  intro X R N a w h
  refine wp_scope_straight (wp_mono (ih X R N a w h) fun e a' w' hq => ?_)
  cases e with
  | goto l => exact hq
  | normal => exact hq
  | exit id => exact hq
  | ret => exact hq
  | panic ch => exact hq
  | outgrown => exact hq
 | label l => rintro X R N a w ⟨ρ', env, hp, h1, h2, h3, h4, h5, h6, h7⟩; exact h7.elim
 | goto l => rintro X R N a w ⟨ρ', env, hp, h1, h2, h3, h4, h5, h6, h7⟩; exact h7.elim
 | ret => intro X R N a w h; exact wp_ret h
 | refuse why => rintro X R N a w ⟨ρ', env, hp, h1, h2, h3, h4, h5, h6, h7⟩; exact h7.elim
def Le (h2 h1 : Hp) : Prop := ∀ G ρ w, HR G ρ h2 w → HR G ρ h1 w
theorem cOs (K : OkC C rec) (hP : POk C.P) {f : FuncId} {fn : Func} {c : Code} (hf : C.P.funcs[f]? = some fn) (hb : fn.body = some c) {F : List DV → Hp → aH}
  (hF : ∀ args h v h1, F args h = some (v, h1) → mA h → pJ C rec fn.ntmps c (fun _ _ _ => False) (fun env h' => ∃ h2, aO C fn env h' = some (v, h2) ∧ Le h2 h1)
   (fun env h' => ∃ h2, aO C fn env h' = some (v, h2) ∧ Le h2 h1) (aJ args) h) : wR C.P G f F := by
 intro args h v h1 hr ρ w args' H hargs
 refine .inl ⟨?_, ?_⟩
 ·unfold callFunc
  have hn : ¬ fn.name = "runtime.NumGoroutine" := by simpa using hP.names f fn hf
  simp [hf, hn, hb]
 ·refine calls_of_wp hf hb ?_
  have he : EnvR ρ (aJ args) { tmps := args' ++ Array.replicate (fn.ntmps - args'.size) undef, defers := [] } := by
   intro t
   unfold aJ
   have hlen := hargs.length
   simp only [Array.length_toList] at hlen
   by_cases ht : t < args.length
   ·have hg : args[t]? = some args[t] := by simp [ht]
    obtain ⟨v', h2, h3⟩ := hargs.get t _ hg
    simp only [Array.getElem?_toList] at h2
    rw [show args.getD t aT = args[t] by simp [List.getD, hg]]
    have : (args' ++ Array.replicate (fn.ntmps - args'.size) undef).getD t undef = v' := by
     simp [Array.getElem?_append_left (show t < args'.size by omega), h2]
    rw [this]
    exact h3
   ·have hg : args.getD t aT = aT := by simp [List.getD, List.getElem?_eq_none (Nat.le_of_not_lt ht)]
    rw [hg]
    have : (args' ++ Array.replicate (fn.ntmps - args'.size) undef).getD t undef = undef := by
     rw [Array.getD_eq_getD_getElem?, Array.getElem?_append_right (by omega)]
     simp only [Array.getElem?_replicate]
     split <;> rfl
    rw [this]
    exact .t [] #[] .nil
  have hst : StP G fn.ntmps ρ w _ { tmps := args' ++ Array.replicate (fn.ntmps - args'.size) undef, defers := [] } w :=
   ⟨ρ, aJ args, h, Ex.refl G ρ, H, he, Kp.refl G w, by simp; omega, rfl, hF args h v h1 hr H.isFresh⟩
  refine wp_mono (bCf K hP.mixed c _ _ _ _ _ hst) fun e a' w' hq => ?_
  have hfin : StP G fn.ntmps ρ w (fun env h' => ∃ h2, aO C fn env h' = some (v, h2) ∧ Le h2 h1) a' w' → a'.defers = [] ∧ ∃ v', (results fn a'.tmps).run C.P w' = .ok v' w' ∧ kP G ρ w v h1 (.returned v') w' := by
   rintro ⟨ρ', env, h', e1, e2, e3, e4, e5, e6, h2, e7, e8⟩
   obtain ⟨rfl, v', r1, r2⟩ := aUq e2 e3 e7
   exact ⟨e6, v', r1, ρ', v', rfl, e1, r2, e8 _ _ _ e2, e4⟩
  cases e with
  | normal => exact hfin hq
  | ret => exact hfin hq
  | exit id => obtain ⟨ρ', env, h', e1, e2, e3, e4, e5, e6, e7⟩ := hq; exact e7.elim
  | goto l => exact hq.elim
  | panic ch => exact hq.elim
  | outgrown => exact hq.elim
end
end Go.Dd

namespace Go.Dd
noncomputable section
def WT.get (t : WT) : Nat → Int :=
 WT.rec (motive := fun _ => Nat → Int) (fun _ => .ofNat 0)
  (fun _ v _ ihl ihr k => bif Nat.beq k 0 then v else bif Nat.beq (Nat.mod k 2) 1 then ihl (Nat.div k 2) else ihr (Nat.div (Nat.sub k 1) 2)) t
def dEq (x : Int) (fuel : Nat) : Nat → WT → WT :=
 Nat.rec (motive := fun _ => Nat → WT → WT) (fun _ t => t)
  (fun _ ih k t => WT.rec (motive := fun _ => WT)
   (bif Nat.beq k 0 then .n .e x .e else bif Nat.beq (Nat.mod k 2) 1 then .n (ih (Nat.div k 2) .e) (.ofNat 0) .e else .n .e (.ofNat 0) (ih (Nat.div (Nat.sub k 1) 2) .e))
   (fun l v r _ _ => bif Nat.beq k 0 then .n l x r else bif Nat.beq (Nat.mod k 2) 1 then .n (ih (Nat.div k 2) l) v r else .n l v (ih (Nat.div (Nat.sub k 1) 2) r)) t) fuel
def WT.set (t : WT) (k : Nat) (x : Int) : WT := dEq x 24 k t
theorem WT.get_e (k : Nat) : WT.e.get k = 0 := rfl
theorem dEn (l : WT) (v : Int) (r : WT) (k : Nat) : (WT.n l v r).get k = if k = 0 then v else if k % 2 = 1 then l.get (k / 2) else r.get ((k - 1) / 2) := by
 show (bif Nat.beq k 0 then v else bif Nat.beq (Nat.mod k 2) 1 then l.get (Nat.div k 2) else r.get (Nat.div (Nat.sub k 1) 2)) = _
 cases h0 : Nat.beq k 0 with
 | true => have := Nat.eq_of_beq_eq_true h0; subst this; rfl
 | false =>
  have n0 : k ≠ 0 := by intro e; subst e; cases h0
  rw [if_neg n0]
  cases h1 : Nat.beq (Nat.mod k 2) 1 with
  | true => have : k % 2 = 1 := Nat.eq_of_beq_eq_true h1; rw [if_pos this]; rfl
  | false =>
   have n1 : k % 2 ≠ 1 := by intro e; have e' : Nat.mod k 2 = 1 := e; rw [e'] at h1; cases h1
   rw [if_neg n1]; rfl
theorem dEy (x : Int) (f k : Nat) (t : WT) : dEq x (f + 1) k t = match t with
  | .e => if k = 0 then .n .e x .e else if k % 2 = 1 then .n (dEq x f (k / 2) .e) 0 .e else .n .e 0 (dEq x f ((k - 1) / 2) .e)
  | .n l v r => if k = 0 then .n l x r else if k % 2 = 1 then .n (dEq x f (k / 2) l) v r else .n l v (dEq x f ((k - 1) / 2) r) := by
 have hb : ∀ {α : Type} (a b c : α), (bif Nat.beq k 0 then a else bif Nat.beq (Nat.mod k 2) 1 then b else c) = if k = 0 then a else if k % 2 = 1 then b else c := by
  intro α a b c
  cases h0 : Nat.beq k 0 with
  | true => have := Nat.eq_of_beq_eq_true h0; subst this; rfl
  | false =>
   have n0 : k ≠ 0 := by intro e; subst e; cases h0
   rw [if_neg n0]
   cases h1 : Nat.beq (Nat.mod k 2) 1 with
   | true => have : k % 2 = 1 := Nat.eq_of_beq_eq_true h1; rw [if_pos this]; rfl
   | false =>
    have n1 : k % 2 ≠ 1 := by intro e; have e' : Nat.mod k 2 = 1 := e; rw [e'] at h1; cases h1
    rw [if_neg n1]; rfl
 cases t with
 | e => exact hb _ _ _
 | n l v r => exact hb _ _ _
theorem dEt (x : Int) : ∀ (f k : Nat) (t : WT) (j : Nat), k + 1 < 2 ^ f → (dEq x f k t).get j = if j = k then x else t.get j
 | 0, k, t, j, h => by simp at h
 | f + 1, k, t, j, h => by
  have h2 : 2 ^ (f + 1) = 2 * 2 ^ f := by rw [Nat.pow_succ]; omega
  have ih := fun k t j (h : k + 1 < 2 ^ f) => dEt x f k t j h
  rw [dEy]
  cases t with
  | e =>
   simp only
   split
   ·subst_vars
    rw [dEn]
    split
    ·rfl
    ·simp [WT.get_e]
   ·split
    ·rw [dEn]
     split
     ·subst_vars; rw [if_neg (by omega)]; rfl
     ·split
      ·rw [ih _ _ _ (by omega), WT.get_e, WT.get_e]
       by_cases hj : j = k
       ·rw [if_pos hj, if_pos (by omega)]
       ·rw [if_neg hj, if_neg (by omega)]
      ·rw [WT.get_e, if_neg (by omega)]; rfl
    ·rw [dEn]
     split
     ·subst_vars; rw [if_neg (by omega)]; rfl
     ·split
      ·rw [WT.get_e, if_neg (by omega)]; rfl
      ·rw [ih _ _ _ (by omega), WT.get_e, WT.get_e]
       by_cases hj : j = k
       ·rw [if_pos hj, if_pos (by omega)]
       ·rw [if_neg hj, if_neg (by omega)]
  | n l v r =>
   simp only
   split
   ·subst_vars
    rw [dEn, dEn]
    split
    ·rfl
    ·rfl
   ·split
    ·rw [dEn, dEn]
     split
     ·subst_vars; rw [if_neg (by omega)]
     ·split
      ·rw [ih _ _ _ (by omega)]
       by_cases hj : j = k
       ·rw [if_pos hj, if_pos (by omega)]
       ·rw [if_neg hj, if_neg (by omega)]
      ·rw [if_neg (by omega)]
    ·rw [dEn, dEn]
     split
     ·subst_vars; rw [if_neg (by omega)]
     ·split
      ·rw [if_neg (by omega)]
      ·rw [ih _ _ _ (by omega)]
       by_cases hj : j = k
       ·rw [if_pos hj, if_pos (by omega)]
       ·rw [if_neg hj, if_neg (by omega)]
theorem WT.get_set (t : WT) (k : Nat) (x : Int) (j : Nat) (h : k < 16000000) : (t.set k x).get j = if j = k then x else t.get j :=
 dEt x 24 k t j (by omega)
def gE (n : Nat) (t : WT) : List DV := (List.range n).map fun i => .i .i64 (t.get i)
def xY (g : Bool) : Ob → Ob → Prop
 | .big n t, o => if g then o = .big n t else o = .row .ex (gE n t)
 | .mi t, o => if g then o = .mi t else ∃ es, o = .mp es ∧ ∀ a : Int, cY (.int .i64) (.i .i64 a) es = some (if 0 ≤ a ∧ t.get a.toNat ≠ 0 then some (.b true) else none)
 | o, o' => o' = o
structure Sim (g : Bool) (h h' : Hp) : Prop where
 next : h'.next = h.next
 get : ∀ b o, h.bl.get b = some o → ∃ o', h'.bl.get b = some o' ∧ xY g o o'
def SimR (g : Bool) (r r' : aH) : Prop := ∀ v h, r = some (v, h) → ∃ h', r' = some (v, h') ∧ Sim g h h'
def SimP (g : Bool) (p p' : Hp → aH) : Prop := ∀ h h', Sim g h h' → SimR g (p h) (p' h')
variable {h h' : Hp} {g : Bool}
theorem Sim.row (S : Sim g h h') {b : Pos} {k : Kind} {l : List DV} (hb : h.bl.get b = some (.row k l)) : h'.bl.get b = some (.row k l) := by
 obtain ⟨o', h1, h2⟩ := S.get b _ hb
 rw [h1, show o' = .row k l from h2]
theorem Sim.it (S : Sim g h h') {b : Pos} {s : List Nat} {p : Nat} (hb : h.bl.get b = some (.it s p)) : h'.bl.get b = some (.it s p) := by
 obtain ⟨o', h1, h2⟩ := S.get b _ hb
 rw [h1, show o' = .it s p from h2]
theorem Sim.mp (S : Sim g h h') {b : Pos} {es : List (DV × DV)} (hb : h.bl.get b = some (.mp es)) : h'.bl.get b = some (.mp es) := by
 obtain ⟨o', h1, h2⟩ := S.get b _ hb
 rw [h1, show o' = .mp es from h2]
theorem Sim.set (S : Sim g h h') {o o' : Ob} (hr : xY g o o') (b n : Pos) : Sim g ⟨n, Tr.set o b h.bl⟩ ⟨n, Tr.set o' b h'.bl⟩ := by
 refine ⟨rfl, fun x ob hx => ?_⟩
 by_cases e : x = b
 ·subst e
  simp only [dDw, bB] at hx ⊢
  subst hx
  exact ⟨o', rfl, hr⟩
 ·simp only [dDv _ _ _ _ e] at hx ⊢
  exact S.get x ob hx
theorem Sim.setR (S : Sim g h h') (k : Kind) (l : List DV) (b n : Pos) : Sim g ⟨n, Tr.set (.row k l) b h.bl⟩ ⟨n, Tr.set (.row k l) b h'.bl⟩ := S.set (show xY g (.row k l) (.row k l) from rfl) b n
theorem Sim.setM (S : Sim g h h') (es : List (DV × DV)) (b n : Pos) : Sim g ⟨n, Tr.set (.mp es) b h.bl⟩ ⟨n, Tr.set (.mp es) b h'.bl⟩ := S.set (show xY g (.mp es) (.mp es) from rfl) b n
theorem Sim.setI (S : Sim g h h') (s : List Nat) (p : Nat) (b n : Pos) : Sim g ⟨n, Tr.set (.it s p) b h.bl⟩ ⟨n, Tr.set (.it s p) b h'.bl⟩ := S.set (show xY g (.it s p) (.it s p) from rfl) b n
theorem Sim.new (S : Sim g h h') {o o' : Ob} (hr : xY g o o') : Sim g ⟨h.next.succ, Tr.set o h.next h.bl⟩ ⟨h'.next.succ, Tr.set o' h'.next h'.bl⟩ := by
 rw [S.next]; exact S.set hr _ _
theorem SimR.none (r : aH) : SimR g none r := fun v h e => by cases e
theorem SimR.some (S : Sim g h h') (v : DV) : SimR g (some (v, h)) (some (v, h')) := fun u k e => by
 simp only [bB, bL] at e
 obtain ⟨rfl, rfl⟩ := e
 exact ⟨h', rfl, S⟩
theorem dDy {F : Hp → aH} (hF : PureP F) : SimP g F F := fun h h' S v k e => by
 obtain ⟨rfl, h2⟩ := hF h v k e
 exact ⟨h', h2 h', S⟩
theorem Sim.rowOf (S : Sim g h h') {b : Pos} {l : List DV} (hb : rowOf b h = some l) : rowOf b h' = some l := by
 unfold Dd.rowOf at hb ⊢
 split at hb <;> (try (cases hb; done))
 rename_i k l0 h0
 rw [S.row h0]; exact hb
theorem Sim.cellsAt (S : Sim g h h') {b : Pos} {o n : Nat} {cs : List DV} (hb : cellsAt b o n h = some cs) : cellsAt b o n h' = some cs := by
 unfold Dd.cellsAt at hb ⊢
 split at hb <;> (try (cases hb; done))
 rename_i l h0
 rw [S.rowOf h0]; exact hb
theorem Sim.cellD (S : Sim g h h') {b : Pos} {o : Nat} {v : DV} (hb : cellD b o h = some v) : cellD b o h' = some v := by
 unfold Dd.cellD at hb ⊢
 split at hb <;> (try (cases hb; done))
 rename_i l h0
 rw [S.rowOf h0]; exact hb
theorem Sim.storeAt (S : Sim g h h') {b : Pos} {o : Nat} {vs : List DV} {k : Hp} (hb : cZ b o vs h = some k) : ∃ k', cZ b o vs h' = some k' ∧ Sim g k k' := by
 unfold cZ at hb ⊢
 split at hb <;> (try (cases hb; done))
 rename_i kd l h0
 rw [S.row h0]
 dsimp only
 split at hb <;> (try (cases hb; done))
 rename_i hw
 rw [if_pos hw]
 split at hb <;> (try (cases hb; done))
 rename_i l' hp
 simp only [bB] at hb
 subst hb
 try simp only [hp]
 exact ⟨_, rfl, by rw [S.next]; exact S.set (show xY g (.row kd l') (.row kd l') from rfl) _ _⟩
theorem aBs (cs : List DV) : SimP g (bI cs) (bI cs) := fun h h' S v k e => by
 simp only [bI, bB, bL] at e ⊢
 obtain ⟨rfl, rfl⟩ := e
 exact ⟨_, ⟨by rw [S.next], rfl⟩, S.new rfl⟩
theorem wZ (b : Pos) (cs : List DV) : SimP g (kH b cs) (kH b cs) := fun h h' S v k e => by
 simp only [kH, bB, bL] at e ⊢
 obtain ⟨rfl, rfl⟩ := e
 exact ⟨_, ⟨rfl, rfl⟩, by rw [S.next]; first | exact S.setR _ _ _ _ | exact S.setM _ _ _ | exact S.setI _ _ _ _⟩
theorem bXz (x : DV) : SimP g (bU x) (bU x) := by
 unfold bU
 cases dT x with
 | none => exact fun h h' S => SimR.none _
 | some cs => exact aBs cs
theorem aXa (b : Pos) (x : DV) : SimP g (vA b x) (vA b x) := by
 unfold vA
 cases dT x with
 | none => exact fun h h' S => SimR.none _
 | some cs => exact wZ b cs
theorem jD (x : DV) : SimP g (aA x) (aA x) := fun h h' S v k e => by
 unfold aA at e ⊢
 split at e <;> (try (cases e; done))
 split at e <;> (try (cases e; done))
 rename_i hc
 simp only [bB, bL] at e
 obtain ⟨rfl, rfl⟩ := e
 simp only [S.cellD hc]
 exact ⟨_, rfl, S⟩
theorem jQ (n : Nat) (x : DV) : SimP g (aK n x) (aK n x) := fun h h' S v k e => by
 unfold aK at e ⊢
 split at e <;> (try (cases e; done))
 split at e <;> (try (cases e; done))
 rename_i hc
 simp only [bB, bL] at e
 obtain ⟨rfl, rfl⟩ := e
 simp only [S.cellsAt hc]
 exact ⟨_, rfl, S⟩
theorem jN (n : Nat) (x y : DV) : SimP g (aF n x y) (aF n x y) := fun h h' S v k e => by
 unfold aF at e ⊢
 split at e <;> (try (cases e; done))
 rename_i b o cs hc
 try rw [hc]
 try dsimp only
 split at e <;> (try (cases e; done))
 rename_i hn
 rw [if_pos hn]
 split at e <;> (try (cases e; done))
 rename_i k0 hs
 simp only [bB, bL] at e
 obtain ⟨rfl, rfl⟩ := e
 obtain ⟨k', h1, h2⟩ := S.storeAt hs
 try simp only [h1]
 exact ⟨_, rfl, h2⟩
theorem aXy (size : Nat) (x : DV) (lo hi : Option DV) : SimP g (cI size x lo hi) (cI size x lo hi) := fun h h' S v k e => by
 unfold cI at e ⊢
 split at e <;> (try (cases e; done))
 ·split at e <;> (try (cases e; done))
  rename_i en he
  try simp only [he]
  split at e <;> (try (cases e; done))
  rename_i s hs
  try simp only [hs]
  split at e <;> (try (cases e; done))
  ·rename_i l0 hb
   rw [S.row hb]
   simp only [bB, bL] at e
   obtain ⟨rfl, rfl⟩ := e
   exact ⟨_, rfl, S⟩
  ·rename_i l0 hb
   rw [S.row hb]
   simp only [bB, bL] at e
   obtain ⟨rfl, rfl⟩ := e
   exact ⟨_, rfl, S⟩
  ·rename_i k0 l0 n1 n2 hb
   rw [S.row hb]
   cases k0 with
   | ro => exact absurd rfl n1
   | ex => exact absurd rfl n2
   | gr es =>
    dsimp only
    split at e
    ·rename_i hcs
     simp only [bB, bL] at e
     obtain ⟨rfl, rfl⟩ := e
     rw [if_pos hcs]
     exact ⟨_, rfl, S⟩
    ·rename_i hcs
     simp only [bB, bL] at e
     obtain ⟨rfl, rfl⟩ := e
     rw [if_neg hcs]
     exact ⟨_, rfl, S⟩
   | sp =>
    dsimp only
    split at e
    ·rename_i hcs
     simp only [bB, bL] at e
     obtain ⟨rfl, rfl⟩ := e
     rw [if_pos hcs]
     exact ⟨_, rfl, S⟩
    ·rename_i hcs
     simp only [bB, bL] at e
     obtain ⟨rfl, rfl⟩ := e
     rw [if_neg hcs]
     exact ⟨_, rfl, S⟩
 all_goals
  split at e <;> (try (cases e; done))
  rename_i en he
  try simp only [he]
  split at e <;> (try (cases e; done))
  rename_i s hs
  try simp only [hs]
  simp only [bB, bL] at e
  obtain ⟨rfl, rfl⟩ := e
  exact ⟨_, rfl, S⟩
theorem aPo (x : DV) (lo : Option DV) (hi mx : DV) : SimP g (lT x lo hi mx) (lT x lo hi mx) := fun h h' S v k e => by
 unfold lT at e ⊢
 split at e <;> (try (cases e; done))
 all_goals
  split at e <;> (try (cases e; done))
 ·rename_i m e1
  try simp only [e1]
  split at e <;> (try (cases e; done))
  rename_i n e2
  try simp only [e2]
  simp only [bB, bL] at e
  obtain ⟨rfl, rfl⟩ := e
  exact ⟨_, rfl, S⟩
 ·rename_i m e1
  try simp only [e1]
  split at e <;> (try (cases e; done))
  rename_i n e2
  try simp only [e2]
  simp only [bB, bL] at e
  obtain ⟨rfl, rfl⟩ := e
  exact ⟨_, rfl, S⟩
 ·rename_i n1 n2 e1 e2
  try simp only [e1, e2]
  simp only [bB, bL] at e
  obtain ⟨rfl, rfl⟩ := e
  exact ⟨_, rfl, S⟩
 ·rename_i n1 n2 e1 e2
  try simp only [e1, e2]
  simp only [bB, bL] at e
  obtain ⟨rfl, rfl⟩ := e
  exact ⟨_, rfl, S⟩
theorem bAv (x : DV) : SimP g (fE x) (fE x) := fun h h' S v k e => by
 unfold fE at e ⊢
 split at e <;> (try (cases e; done))
 ·simp only [bB, bL] at e
  obtain ⟨rfl, rfl⟩ := e
  exact ⟨_, rfl, S⟩
 ·split at e <;> (try (cases e; done))
  rename_i cs hc
  simp only [S.cellsAt hc]
  split at e <;> (try (cases e; done))
  rename_i l hl
  try simp only [hl]
  simp only [bB, bL] at e
  obtain ⟨rfl, rfl⟩ := e
  exact ⟨_, rfl, S⟩
theorem vC (z : List DV) (n : Nat) (ps : List (Nat × Nat × DV)) : SimP g (aL z n ps) (aL z n ps) := fun h h' S v k e => by
 unfold aL at e ⊢
 split at e <;> (try (cases e; done))
 rename_i cs hf
 try simp only [hf]
 simp only [bB, bL] at e ⊢
 obtain ⟨rfl, rfl⟩ := e
 exact ⟨_, ⟨by rw [S.next], rfl⟩, S.new rfl⟩
theorem pL (b : Pos) (z : List DV) (n : Nat) (ps : List (Nat × Nat × DV)) : SimP g (bH b z n ps) (bH b z n ps) := fun h h' S v k e => by
 unfold bH at e ⊢
 split at e <;> (try (cases e; done))
 rename_i cs hf
 try simp only [hf]
 simp only [bB, bL] at e ⊢
 obtain ⟨rfl, rfl⟩ := e
 exact ⟨_, ⟨rfl, rfl⟩, by rw [S.next]; first | exact S.setR _ _ _ _ | exact S.setM _ _ _ | exact S.setI _ _ _ _⟩
theorem aIj : SimP g dL dL := fun h h' S v k e => by
 simp only [dL, bB, bL] at e ⊢
 obtain ⟨rfl, rfl⟩ := e
 exact ⟨_, ⟨by rw [S.next], rfl⟩, S.new rfl⟩
theorem Sim.entries (S : Sim g h h') {x : DV} {es : List (DV × DV)} (he : fW x h = some es) : fW x h' = some es := by
 unfold fW at he ⊢
 split at he <;> (try (cases he; done))
 ·exact he
 ·split at he <;> (try (cases he; done))
  rename_i hb
  rw [S.mp hb]; exact he
theorem aNj (d : TypeDesc) (z : DV) (ok : Bool) (x key : DV) : SimP g (dV d z ok x key) (dV d z ok x key) := fun h h' S v k e => by
 unfold dV at e ⊢
 split at e <;> (try (cases e; done))
 rename_i es he
 simp only [S.entries he]
 split at e <;> (try (cases e; done))
 all_goals
  rename_i hf
  try simp only [hf]
  simp only [bB, bL] at e
  obtain ⟨rfl, rfl⟩ := e
  exact ⟨_, rfl, S⟩
theorem aKt (d : TypeDesc) (x key y : DV) : SimP g (fL d x key y) (fL d x key y) := fun h h' S v k e => by
 unfold fL at e ⊢
 split at e <;> (try (cases e; done))
 split at e <;> (try (cases e; done))
 rename_i b _ es hb
 rw [S.mp hb]
 dsimp only
 split at e <;> (try (cases e; done))
 rename_i hf
 try simp only [hf]
 simp only [bB, bL] at e
 obtain ⟨rfl, rfl⟩ := e
 exact ⟨_, rfl, by rw [S.next]; first | exact S.setR _ _ _ _ | exact S.setM _ _ _ | exact S.setI _ _ _ _⟩
theorem aGe (d : TypeDesc) (z x key : DV) : SimP g (fB d z x key) (fB d z x key) := fun h h' S v k e => by
 unfold fB at e ⊢
 split at e <;> (try (cases e; done))
 split at e <;> (try (cases e; done))
 rename_i b _ es hb
 rw [S.mp hb]
 dsimp only
 split at e <;> (try (cases e; done))
 all_goals
  rename_i hf
  try simp only [hf]
  simp only [bB, bL] at e
  obtain ⟨rfl, rfl⟩ := e
  exact ⟨_, rfl, by rw [S.next]; first | exact S.setR _ _ _ _ | exact S.setM _ _ _ | exact S.setI _ _ _ _⟩
theorem tZ (x s y : DV) : SimP g (dI x s y) (dI x s y) := fun h h' S v k e => by
 unfold dI at e ⊢
 split at e <;> (try (cases e; done))
 split at e <;> (try (cases e; done))
 rename_i es hb
 rw [S.mp hb]
 dsimp only
 split at e <;> (try (cases e; done))
 rename_i hf
 try simp only [hf]
 simp only [bB, bL] at e
 obtain ⟨rfl, rfl⟩ := e
 exact ⟨_, rfl, by rw [S.next]; first | exact S.setR _ _ _ _ | exact S.setM _ _ _ | exact S.setI _ _ _ _⟩
theorem wV (size bytes : Nat) (z : List DV) (n c : DV) : SimP g (cB size bytes z n c) (cB size bytes z n c) := fun h h' S v k e => by
 unfold cB at e ⊢
 split at e <;> (try (cases e; done))
 split at e <;> (try (cases e; done))
 rename_i hc
 rw [if_pos hc]
 simp only [bB, bL] at e ⊢
 obtain ⟨rfl, rfl⟩ := e
 exact ⟨_, ⟨by rw [S.next], rfl⟩, S.new rfl⟩
theorem aZm (z : List DV) (x : DV) : SimP g (iE z x) (iE z x) := fun h h' S v k e => by
 unfold iE at e ⊢
 split at e <;> (try (cases e; done))
 ·simp only [bB, bL] at e
  obtain ⟨rfl, rfl⟩ := e
  exact ⟨_, rfl, S⟩
 ·simp only [bB, bL] at e
  obtain ⟨rfl, rfl⟩ := e
  exact ⟨_, rfl, S⟩
 ·split at e
  ·rename_i hn
   simp only [bB, bL] at e
   obtain ⟨rfl, rfl⟩ := e
   simp only [hn, if_true]
   exact ⟨_, rfl, S⟩
  ·rename_i hn
   rw [if_neg hn]
   split at e <;> (try (cases e; done))
   rename_i k0 hs
   simp only [bB, bL] at e
   obtain ⟨rfl, rfl⟩ := e
   obtain ⟨k', h1, h2⟩ := S.storeAt hs
   try simp only [h1]
   exact ⟨_, rfl, h2⟩
theorem Sim.src (S : Sim g h h') {size : Nat} {x : DV} {r : Nat × List DV} (hs : qI size x h = some r) : qI size x h' = some r := by
 unfold qI at hs ⊢
 split at hs <;> (try (cases hs; done))
 ·exact hs
 ·exact hs
 ·split at hs <;> (try (cases hs; done))
  rename_i hc
  simp only [S.cellsAt hc]; exact hs
 ·split at hs <;> (try (cases hs; done))
  rename_i hc
  simp only [S.cellsAt hc]; exact hs
 ·exact hs
theorem aNl (size bytes : Nat) (s x : DV) : SimP g (aX size bytes s x) (aX size bytes s x) := fun h h' S v k e => by
 unfold aX at e ⊢
 split at e <;> (try (cases e; done))
 rename_i n new hs
 simp only [S.src hs]
 split at e <;> (try (cases e; done))
 ·split at e
  ·rename_i hn
   rw [if_pos hn]
   simp only [bB, bL] at e
   obtain ⟨rfl, rfl⟩ := e
   exact ⟨_, rfl, S⟩
  ·rename_i hn
   rw [if_neg hn]
   split at e <;> (try (cases e; done))
   rename_i hr
   rw [if_pos hr]
   simp only [bB, bL] at e ⊢
   obtain ⟨rfl, rfl⟩ := e
   exact ⟨_, ⟨by rw [S.next], rfl⟩, S.new rfl⟩
 ·split at e <;> (try (cases e; done))
  rename_i hn
  rw [if_pos hn]
  simp only [bB, bL] at e
  obtain ⟨rfl, rfl⟩ := e
  exact ⟨_, rfl, S⟩
 ·rename_i b o len cap
  split at e
  ·rename_i hle
   rw [if_pos hle]
   split at e <;> (try (cases e; done))
   rename_i k0 hst
   simp only [bB, bL] at e
   obtain ⟨rfl, rfl⟩ := e
   obtain ⟨k', h1, h2⟩ := S.storeAt hst
   try simp only [h1]
   exact ⟨_, rfl, h2⟩
  ·rename_i hle
   rw [if_neg hle]
   split at e <;> (try (cases e; done))
   rename_i k0 l old hb hold
   rw [S.row hb, S.cellsAt hold]
   dsimp only
   split at e <;> (try (cases e; done))
   rename_i hroom
   rw [if_pos hroom]
   split at e <;> (try (cases e; done))
   ·simp only [bB, bL] at e ⊢
    obtain ⟨rfl, rfl⟩ := e
    exact ⟨_, ⟨by rw [S.next], rfl⟩, S.new rfl⟩
   ·simp only [bB, bL] at e ⊢
    obtain ⟨rfl, rfl⟩ := e
    exact ⟨_, ⟨by rw [S.next], rfl⟩, S.new rfl⟩
   ·split at e <;> (try (cases e; done))
    rename_i hes
    rw [if_pos hes]
    simp only [bB, bL] at e ⊢
    obtain ⟨rfl, rfl⟩ := e
    refine ⟨_, ⟨by rw [S.next], rfl⟩, ?_⟩
    have S1 : Sim g ⟨h.next, Tr.set (.row .sp (bN o l)) b h.bl⟩ ⟨h'.next, Tr.set (.row .sp (bN o l)) b h'.bl⟩ := by
     rw [S.next]; exact S.set (show xY g (.row .sp (bN o l)) (.row .sp (bN o l)) from rfl) _ _
    exact S1.new rfl
 ·rename_i b o len cap
  split at e
  ·rename_i hn
   rw [if_pos hn]
   split at e <;> (try (cases e; done))
   rename_i hc
   rw [if_pos hc]
   simp only [bB, bL] at e
   obtain ⟨rfl, rfl⟩ := e
   exact ⟨_, rfl, S⟩
  ·rename_i hn
   rw [if_neg hn]
   split at e <;> (try (cases e; done))
   rename_i hc
   rw [if_neg hc]
   split at e <;> (try (cases e; done))
   rename_i old hold
   simp only [S.cellsAt hold]
   split at e <;> (try (cases e; done))
   rename_i hr
   rw [if_pos hr]
   simp only [bB, bL] at e ⊢
   obtain ⟨rfl, rfl⟩ := e
   exact ⟨_, ⟨by rw [S.next], rfl⟩, S.new rfl⟩
theorem aYg (x : DV) : SimP g (mO x) (mO x) := fun h h' S v k e => by
 unfold mO at e ⊢
 split at e <;> (try (cases e; done))
 simp only [bB, bL] at e ⊢
 obtain ⟨rfl, rfl⟩ := e
 exact ⟨_, ⟨by rw [S.next], rfl⟩, S.new rfl⟩
theorem bEf (x : DV) : SimP g (wB x) (wB x) := fun h h' S v k e => by
 unfold wB at e ⊢
 split at e <;> (try (cases e; done))
 split at e <;> (try (cases e; done))
 rename_i b _ l pos hb
 rw [S.it hb]
 dsimp only
 split at e
 ·rename_i c hc
  try simp only [hc]
  split at e <;> (try (cases e; done))
  rename_i hlt
  rw [if_pos hlt]
  simp only [bB, bL] at e ⊢
  obtain ⟨rfl, rfl⟩ := e
  exact ⟨_, ⟨rfl, rfl⟩, by rw [S.next]; first | exact S.setR _ _ _ _ | exact S.setM _ _ _ | exact S.setI _ _ _ _⟩
 ·rename_i hc
  try simp only [hc]
  simp only [bB, bL] at e ⊢
  obtain ⟨rfl, rfl⟩ := e
  exact ⟨_, ⟨rfl, rfl⟩, S⟩
end
end Go.Dd

namespace Go.Dd
theorem SimP.none {gg : Bool} (p : Hp → aH) : SimP gg (fun _ => Option.none) p := fun h h' S => SimR.none _
theorem SimP.val {gg : Bool} (v : DV) : SimP gg (fun h => some (v, h)) (fun h => some (v, h)) := fun h h' S => SimR.some S v
section
variable {gg : Bool} {P : Program} {I2 I1 : FuncId → Option (List DV → Hp → aH)} {rec2 rec1 : FuncId → List DV → Hp → aH}
theorem aIm (b : Builtin) (ts : List TypeId) (args : List DV) : SimP gg (gZ ⟨P, I2⟩ b ts args) (gZ ⟨P, I1⟩ b ts args) := by
 unfold gZ
 cases b <;> try exact SimP.none _
 case len =>
  match ts, args with
  | [t], [x] =>
   dsimp only
   cases P.underlying t with
   | none => exact SimP.none _
   | some d => cases d <;> first | exact SimP.none _ | exact dDy (xB x) | exact dDy (lI x)
  | [], _ => exact SimP.none _
  | [_], [] => exact SimP.none _
  | [_], _ :: _ :: _ => exact SimP.none _
  | _ :: _ :: _, _ => exact SimP.none _
 case min =>
  show SimP gg (pB args) (pB args)
  unfold pB
  match args with
  | [x, y] => exact dDy (aHj x y)
  | [] => exact SimP.none _
  | [_] => exact SimP.none _
  | _ :: _ :: _ :: _ => exact SimP.none _
 case max =>
  show SimP gg (pG args) (pG args)
  unfold pG
  match args with
  | [x, y] => exact dDy (aIr x y)
  | [] => exact SimP.none _
  | [_] => exact SimP.none _
  | _ :: _ :: _ :: _ => exact SimP.none _
 case clear =>
  match ts, args with
  | [t], [x] =>
   dsimp only
   cases P.underlying t with
   | none => exact SimP.none _
   | some d =>
    cases d <;> try exact SimP.none _
    rename_i e
    dsimp only
    cases P.info? e with
    | none => exact SimP.none _
    | some i =>
     dsimp only
     cases i.zero with
     | none => exact SimP.none _
     | some z =>
      dsimp only
      by_cases h0 : 0 < z.cells.size
      ·simp only [h0, if_true]; exact aZm _ _
      ·simp only [h0, if_false]; exact SimP.none _
  | [], _ => exact SimP.none _
  | [_], [] => exact SimP.none _
  | [_], _ :: _ :: _ => exact SimP.none _
  | _ :: _ :: _, _ => exact SimP.none _
 case append =>
  match ts, args with
  | [t, u], [s, x] =>
   dsimp only
   have hmain : ∀ e, SimP gg (fun h => match P.info? e with
     | some i => match i.zero with
      | some z => if 0 < i.size ∧ 0 < i.bytes ∧ z.cells.size = i.size then aX i.size i.bytes s x h else none
      | none => none
     | none => none) (fun h => match P.info? e with
     | some i => match i.zero with
      | some z => if 0 < i.size ∧ 0 < i.bytes ∧ z.cells.size = i.size then aX i.size i.bytes s x h else none
      | none => none
     | none => none) := by
    intro e
    cases P.info? e with
    | none => exact SimP.none _
    | some i =>
     dsimp only
     cases i.zero with
     | none => exact SimP.none _
     | some z =>
      dsimp only
      split
      ·exact aNl _ _ _ _
      ·exact SimP.none _
   cases P.underlying t with
   | none => exact SimP.none _
   | some d =>
    cases d <;> try exact SimP.none _
    rename_i e
    cases P.underlying u with
    | none => exact SimP.none _
    | some d2 => cases d2 <;> first | exact SimP.none _ | exact hmain e
  | [], _ => exact SimP.none _
  | [_], _ => exact SimP.none _
  | [_, _], [] => exact SimP.none _
  | [_, _], [_] => exact SimP.none _
  | [_, _], _ :: _ :: _ :: _ => exact SimP.none _
  | _ :: _ :: _ :: _, _ => exact SimP.none _
theorem xE (HC : ∀ g args, SimP gg (cJ ⟨P, I2⟩ rec2 g args) (cJ ⟨P, I1⟩ rec1 g args)) (o : Oper) (env : aU) : SimP gg (gW ⟨P, I2⟩ rec2 o env) (gW ⟨P, I1⟩ rec1 o env) := by
 obtain ⟨dst, op, ty, pos, after, guard⟩ := o
 unfold gW
 cases op <;> (try dsimp only) <;> try exact SimP.none _
 case move x => exact SimP.val _
 case assign x => exact SimP.val _
 case pick c x y => exact dDy (xQ _ _ _)
 case alloc t =>
  cases P.info? t with
  | none => exact SimP.none _
  | some i =>
   try dsimp only
   cases i.zero with
   | none => exact SimP.none _
   | some z => exact aBs _
 case box t x => exact bXz _
 case build t ps =>
  cases P.underlying t with
  | none => exact SimP.none _
  | some d =>
   cases d <;> (try dsimp only) <;> try exact SimP.none _
   rename_i fs
   cases P.info? t with
   | none => exact SimP.none _
   | some i =>
    try dsimp only
    cases i.zero with
    | none => exact SimP.none _
    | some z =>
     try dsimp only
     generalize fs.toList.mapM (fun f => (P.info? f.type).map fun fi => (f.offset, fi.size)) = pl
     cases pl with
     | none => exact SimP.none _
     | some pl =>
      try dsimp only
      generalize ps.toList.mapM (fun (q : Nat × Operand) => (pl[q.1]?).map fun s => (s.1, s.2, opr env q.2)) = l
      cases l with
      | none => exact SimP.none _
      | some l => exact dDy (vY _ _)
 case buildSlice t n ps =>
  cases P.underlying t with
  | none => exact SimP.none _
  | some d =>
   cases d <;> (try dsimp only) <;> try exact SimP.none _
   rename_i e
   cases P.info? e with
   | none => exact SimP.none _
   | some i =>
    try dsimp only
    cases i.zero with
    | none => exact SimP.none _
    | some z =>
     try dsimp only
     split
     ·exact vC _ _ _
     ·exact SimP.none _
 case load t x =>
  cases P.underlying t with
  | none => exact SimP.none _
  | some d =>
   cases P.info? t with
   | none => exact SimP.none _
   | some i =>
    try dsimp only
    cases gV d with
    | true => exact jQ _ _
    | false => exact jD _
 case store t x y =>
  cases P.info? t with
  | none => exact SimP.none _
  | some i => exact jN _ _ _
 case nilCheck x => exact dDy (aIi _)
 case binOp op t x y yt =>
  cases P.underlying t with
  | none => exact SimP.none _
  | some d => exact dDy (aHf _ _ _ _)
 case unOp op t x => exact dDy (aRe _ _)
 case convert src dst x =>
  cases P.underlying src with
  | none => exact SimP.none _
  | some d =>
   cases P.underlying dst with
   | none => cases d <;> exact SimP.none _
   | some d2 =>
    cases d2 <;> cases d <;> (try dsimp only) <;> first | exact SimP.none _ | exact dDy (nD _ _) | exact dDy (nH _) | skip
    all_goals
     rename_i e
     cases P.underlying e with
     | none => exact SimP.none _
     | some d3 =>
      cases d3 <;> (try dsimp only) <;> try exact SimP.none _
      rename_i k
      cases k <;> first | exact SimP.none _ | exact bAv _
 case makeFunc fn first cap =>
  cases fn <;> first | exact SimP.none _ | exact SimP.val _
 case slice t x lo hi mx =>
  cases P.underlying t with
  | none => exact SimP.none _
  | some d =>
   cases mx with
   | none =>
    cases d <;> (try dsimp only) <;> first | exact SimP.none _ | exact dDy (lK _ _ _) | skip
    rename_i e
    cases P.info? e with
    | none => exact SimP.none _
    | some i => exact aXy _ _ _ _
   | some m =>
    cases d <;> (try dsimp only) <;> try exact SimP.none _
    rename_i e
    cases P.info? e with
    | none => exact SimP.none _
    | some i =>
     cases hi with
     | none => exact SimP.none _
     | some hv => exact aPo _ _ _ _
 case fieldAddr t x f =>
  cases P.underlying t with
  | none => exact SimP.none _
  | some d =>
   cases d <;> (try dsimp only) <;> try exact SimP.none _
   rename_i fs
   cases fs[f]? with
   | none => exact SimP.none _
   | some fl =>
    try dsimp only
    cases P.info? fl.type with
    | none => exact SimP.none _
    | some i =>
     try dsimp only
     split
     ·exact SimP.none _
     ·exact dDy (tA _ _)
 case field t x f =>
  cases P.underlying t with
  | none => exact SimP.none _
  | some d =>
   cases d <;> (try dsimp only) <;> try exact SimP.none _
   rename_i fs
   cases fs[f]? with
   | none => exact SimP.none _
   | some fl =>
    try dsimp only
    cases P.underlying fl.type with
    | none => exact SimP.none _
    | some d2 =>
     cases P.info? fl.type with
     | none => exact SimP.none _
     | some i =>
      try dsimp only
      cases gV d2 with
      | true => exact dDy (wJ _ _ _)
      | false => exact dDy (vR _ _)
 case indexAddr t x ix =>
  cases P.underlying t with
  | none => exact SimP.none _
  | some d =>
   cases d <;> (try dsimp only) <;> try exact SimP.none _
   ·rename_i e
    cases P.info? e with
    | none => exact SimP.none _
    | some i => exact dDy (lH _ _ _)
   ·rename_i n e
    cases P.info? e with
    | none => exact SimP.none _
    | some i => exact dDy (mC _ _ _ _)
 case index t x ix =>
  cases P.underlying t with
  | none => exact SimP.none _
  | some d => cases d <;> first | exact SimP.none _ | exact dDy (qA _ _)
 case extract x i => exact dDy (oF _ _)
 case range t x =>
  cases P.underlying t with
  | none => exact SimP.none _
  | some d => cases d <;> first | exact SimP.none _ | exact aYg _
 case next x str =>
  cases str with
  | true => simp only [if_true]; exact bEf _
  | false => simp only [Bool.false_eq_true, if_false]; exact SimP.none _
 case makeMap t r => cases r <;> first | exact SimP.none _ | exact aIj
 case lookup t x k ok =>
  cases P.underlying t with
  | none => exact SimP.none _
  | some d =>
   cases d <;> (try dsimp only) <;> try exact SimP.none _
   rename_i kt et
   cases P.underlying kt with
   | none => exact SimP.none _
   | some d2 =>
    cases P.info? et with
    | none => exact SimP.none _
    | some i =>
     try dsimp only
     cases i.zero with
     | none => exact SimP.none _
     | some z =>
      try dsimp only
      cases iF d2 with
      | true => exact aNj _ _ _ _ _
      | false => exact SimP.none _
 case mapUpdate t m k x =>
  cases P.underlying t with
  | none => exact SimP.none _
  | some d =>
   cases d <;> (try dsimp only) <;> try exact SimP.none _
   rename_i kt et
   cases P.underlying kt with
   | none => exact SimP.none _
   | some d2 =>
    try dsimp only
    cases iF d2 with
    | true => exact aKt _ _ _ _
    | false => exact SimP.none _
 case mapEntry t m k =>
  cases P.underlying t with
  | none => exact SimP.none _
  | some d =>
   cases d <;> (try dsimp only) <;> try exact SimP.none _
   rename_i kt et
   cases P.underlying kt with
   | none => exact SimP.none _
   | some d2 =>
    cases P.info? et with
    | none => exact SimP.none _
    | some i =>
     try dsimp only
     cases i.zero with
     | none => exact SimP.none _
     | some z =>
      try dsimp only
      cases iF d2 with
      | true => exact aGe _ _ _ _
      | false => exact SimP.none _
 case entryStore t m s x => exact tZ _ _ _
 case makeSlice t n c =>
  cases P.underlying t with
  | none => exact SimP.none _
  | some d =>
   cases d <;> (try dsimp only) <;> try exact SimP.none _
   rename_i e
   cases P.info? e with
   | none => exact SimP.none _
   | some i =>
    try dsimp only
    cases i.zero with
    | none => exact SimP.none _
    | some z =>
     try dsimp only
     split
     ·exact wV _ _ _ _ _
     ·exact SimP.none _
 case call c =>
  obtain ⟨callee, args, ats⟩ := c
  cases callee with
  | value f =>
   try dsimp only
   unfold dE
   cases opr env f <;> first | exact SimP.none _ | exact HC _ _
  | invoke r m => exact SimP.none _
  | builtin b => exact aIm _ _ _
theorem jL (HC : ∀ g args, SimP gg (cJ ⟨P, I2⟩ rec2 g args) (cJ ⟨P, I1⟩ rec1 g args)) (all : Array Oper) (o : Oper) (env : aU) :
  SimP gg (bF ⟨P, I2⟩ rec2 all o env) (bF ⟨P, I1⟩ rec1 all o env) := by
 unfold bF
 cases o.guard with
 | none => exact xE HC o env
 | some g =>
  obtain ⟨j, want⟩ := g
  dsimp only
  unfold gD
  cases aSr all j env <;> try exact SimP.none _
  ·rename_i x
   dsimp only
   split
   ·exact xE HC o env
   ·exact SimP.val _
  ·rename_i vs
   cases vs with
   | nil => exact SimP.val _
   | cons a b => exact SimP.none _
def kE (gg : Bool) (k k' : K) : Prop := ∀ env, SimP gg (k env) (k' env)
theorem dEc {r r' : aH} {k k' : DV → Hp → aH} (h : SimR gg r r') (hk : ∀ v, SimP gg (k v) (k' v)) : SimR gg (bnd r k) (bnd r' k') := by
 intro v h1 e
 obtain ⟨u, h0, e1, e2⟩ := cX e
 obtain ⟨h0', f1, S⟩ := h u h0 e1
 obtain ⟨h1', g1, S1⟩ := hk u h0 h0' S v h1 e2
 exact ⟨h1', by rw [f1]; exact g1, S1⟩
theorem dEr {b b' : Bool} {r r' : aH} (hb : b = true → b' = true) (h : SimR gg r r') : SimR gg (cnd b r) (cnd b' r') := by
 cases b with
 | false => exact fun v k e => by cases e
 | true => rw [hb rfl]; exact h
theorem aHi (HC : ∀ g args, SimP gg (cJ ⟨P, I2⟩ rec2 g args) (cJ ⟨P, I1⟩ rec1 g args)) (nt : Nat) (all : Array Oper) {k k' : K} (hk : kE gg k k') :
  ∀ l : List Oper, kE gg (jA ⟨P, I2⟩ rec2 nt all l k) (jA ⟨P, I1⟩ rec1 nt all l k')
 | [] => hk
 | o :: l => fun env h h' S => by
  change SimR gg (cnd (cT nt o.dst) (bnd (bF ⟨P, I2⟩ rec2 all o env h) fun v h1 => jA ⟨P, I2⟩ rec2 nt all l k (bK env o.dst v) h1))
   (cnd (cT nt o.dst) (bnd (bF ⟨P, I1⟩ rec1 all o env h') fun v h1 => jA ⟨P, I1⟩ rec1 nt all l k' (bK env o.dst v) h1))
  exact dEr id (dEc (jL HC all o env h h' S) fun v => aHi HC nt all hk l _)
theorem cQy (o : Oper) (b : Pos) (env : aU) : SimP gg (dG ⟨P, I2⟩ o b env) (dG ⟨P, I1⟩ o b env) := by
 obtain ⟨dst, op, ty, pos, after, guard⟩ := o
 unfold dG
 cases op <;> (try dsimp only) <;> try exact SimP.none _
 case alloc t =>
  cases P.info? t with
  | none => exact SimP.none _
  | some i =>
   dsimp only
   cases i.zero with
   | none => exact SimP.none _
   | some z => exact wZ _ _
 case box t x => exact aXa _ _
 case buildSlice t n ps =>
  cases P.underlying t with
  | none => exact SimP.none _
  | some d =>
   cases d <;> (try dsimp only) <;> try exact SimP.none _
   rename_i e
   cases P.info? e with
   | none => exact SimP.none _
   | some i =>
    dsimp only
    cases i.zero with
    | none => exact SimP.none _
    | some z =>
     dsimp only
     split
     ·exact pL _ _ _ _
     ·exact SimP.none _
theorem SimR.same {r r' : aH} (h : SimR gg r r') {v : DV} (hs : bJ r v = true) : bJ r' v = true := by
 unfold bJ at hs ⊢
 split at hs
 ·rename_i x k
  obtain ⟨k', e, _⟩ := h x k rfl
  rw [e]; exact hs
 ·cases hs
inductive SimHs (gg : Bool) : List (Option Nat × Hp) → List (Option Nat × Hp) → Prop
 | nil : SimHs gg [] []
 | cons {j : Option Nat} {h h' : Hp} {l l' : List (Option Nat × Hp)} (S : Sim gg h h') (T : SimHs gg l l') : SimHs gg ((j, h) :: l) ((j, h') :: l')
theorem qC (m : Array Nat) (i : Nat) (v : DV) {look look' : Hp → aH} (hl : SimP gg look look') : ∀ (dirty : Bool) {hs hs' : List (Option Nat × Hp)}, SimHs gg hs hs' →
  dX m i v look dirty hs = true → dX m i v look' dirty hs' = true
 | dirty, _, _, .nil, h => h
 | dirty, _, _, .cons (j := j) S T, h => by
  unfold dX at h ⊢
  rw [Bool.and_eq_true] at h ⊢
  refine ⟨?_, ?_⟩
  ·have h1 := h.1
   cases dirty with
   | true => exact SimR.same (hl _ _ S) h1
   | false => exact h1
  ·have h2 := h.2
   cases j with
   | none => exact h2
   | some j =>
    dsimp only at h2 ⊢
    cases ho : fN m j i with
    | true => rfl
    | false =>
     rw [ho] at h2
     exact qC m i v hl true T h2
inductive SimSeen (gg : Bool) : List Seen → List Seen → Prop
 | nil : SimSeen gg [] []
 | cons {i : Nat} {look look' : Hp → aH} {v : DV} {l l' : List Seen} (S : SimP gg look look') (T : SimSeen gg l l') : SimSeen gg (⟨i, look, v⟩ :: l) (⟨i, look', v⟩ :: l')
theorem SimSeen.all {m : Array Nat} {i : Nat} {h h' : Hp} (S : Sim gg h h') : ∀ {l l' : List Seen}, SimSeen gg l l' →
  l.all (fun q => fN m q.at_ i || bJ (q.look h) q.v) = true → l'.all (fun q => fN m q.at_ i || bJ (q.look h') q.v) = true
 | _, _, .nil, e => e
 | _, _, .cons (i := i0) (v := v) S1 T, e => by
  rw [List.all_cons, Bool.and_eq_true] at e ⊢
  refine ⟨?_, SimSeen.all S T e.2⟩
  have h1 := e.1
  rw [Bool.or_eq_true] at h1 ⊢
  exact h1.imp id fun hs => SimR.same (S1 _ _ S) hs
theorem lC (HC : ∀ g args, SimP gg (cJ ⟨P, I2⟩ rec2 g args) (cJ ⟨P, I1⟩ rec1 g args)) (nt : Nat) (all : Array Oper) (m : Array Nat) (p0 : Pos) {k k' : K} (hk : kE gg k k') :
  ∀ (l : List Oper) (i c : Nat) (dirty : Bool) {rd rd' : List Seen} {hs hs' : List (Option Nat × Hp)}, SimSeen gg rd rd' → SimHs gg hs hs' →
   kE gg (dU ⟨P, I2⟩ rec2 nt all m p0 l k i c dirty rd hs) (dU ⟨P, I1⟩ rec1 nt all m p0 l k' i c dirty rd' hs')
 | [], i, c, dirty, rd, rd', hs, hs', R, T => hk
 | o :: l, i, c, dirty, rd, rd', hs, hs', R, T => fun env h h' S => by
  change SimR gg (cnd (cT nt o.dst) (
   match bO P o.op with
   | .pure => bnd (bF ⟨P, I2⟩ rec2 all o env h) fun v h' => dU ⟨P, I2⟩ rec2 nt all m p0 l k (i + 1) c dirty rd hs (bK env o.dst v) h'
   | .reads => bnd (bF ⟨P, I2⟩ rec2 all o env h) fun v h' =>
     cnd (dX m i v (bF ⟨P, I2⟩ rec2 all o env) dirty hs) (dU ⟨P, I2⟩ rec2 nt all m p0 l k (i + 1) c dirty (⟨i, bF ⟨P, I2⟩ rec2 all o env, v⟩ :: rd) hs (bK env o.dst v) h')
   | .makes => bnd (dG ⟨P, I2⟩ o (bQ c p0) env h) fun v h' => dU ⟨P, I2⟩ rec2 nt all m p0 l k (i + 1) (c + 1) true rd hs (bK env o.dst v) h'
   | .acts => bnd (bF ⟨P, I2⟩ rec2 all o env h) fun v h' =>
     cnd (rd.all (fun q => fN m q.at_ i || bJ (q.look h') q.v)) (dU ⟨P, I2⟩ rec2 nt all m p0 l k (i + 1) c false rd ((some i, h') :: hs) (bK env o.dst v) h')))
   (cnd (cT nt o.dst) (
   match bO P o.op with
   | .pure => bnd (bF ⟨P, I1⟩ rec1 all o env h') fun v h' => dU ⟨P, I1⟩ rec1 nt all m p0 l k' (i + 1) c dirty rd' hs' (bK env o.dst v) h'
   | .reads => bnd (bF ⟨P, I1⟩ rec1 all o env h') fun v h' =>
     cnd (dX m i v (bF ⟨P, I1⟩ rec1 all o env) dirty hs') (dU ⟨P, I1⟩ rec1 nt all m p0 l k' (i + 1) c dirty (⟨i, bF ⟨P, I1⟩ rec1 all o env, v⟩ :: rd') hs' (bK env o.dst v) h')
   | .makes => bnd (dG ⟨P, I1⟩ o (bQ c p0) env h') fun v h' => dU ⟨P, I1⟩ rec1 nt all m p0 l k' (i + 1) (c + 1) true rd' hs' (bK env o.dst v) h'
   | .acts => bnd (bF ⟨P, I1⟩ rec1 all o env h') fun v h' =>
     cnd (rd'.all (fun q => fN m q.at_ i || bJ (q.look h') q.v)) (dU ⟨P, I1⟩ rec1 nt all m p0 l k' (i + 1) c false rd' ((some i, h') :: hs') (bK env o.dst v) h')))
  refine dEr id ?_
  cases bO P o.op with
  | pure => exact dEc (jL HC all o env h h' S) fun v => lC HC nt all m p0 hk l _ _ _ R T _
  | reads =>
   exact dEc (jL HC all o env h h' S) fun v h1 h1' S1 => dEr (qC m i v (jL HC all o env) dirty T)
    (lC HC nt all m p0 hk l _ _ _ (.cons (jL HC all o env) R) T _ _ _ S1)
  | makes => exact dEc (cQy o _ env h h' S) fun v => lC HC nt all m p0 hk l _ _ _ R T _
  | acts =>
   exact dEc (jL HC all o env h h' S) fun v h1 h1' S1 => dEr (SimSeen.all S1 R)
    (lC HC nt all m p0 hk l _ _ _ R (.cons S1 T) _ _ _ S1)
theorem Sim.resv {gg : Bool} {h h' : Hp} (S : Sim gg h h') (k : Nat) : Sim gg (resv k h) (resv k h') := by
 cases k with
 | zero => exact S
 | succ k => exact ⟨by show bQ (k + 1) h'.next = bQ (k + 1) h.next; rw [S.next], S.get⟩
theorem bLu (HC : ∀ g args, SimP gg (cJ ⟨P, I2⟩ rec2 g args) (cJ ⟨P, I1⟩ rec1 g args)) (nt : Nat) (ops : Array Oper) {k k' : K} (hk : kE gg k k') :
  kE gg (iG ⟨P, I2⟩ rec2 nt ops k) (iG ⟨P, I1⟩ rec1 nt ops k') := fun env h h' S => by
 unfold iG
 rw [S.next]
 exact lC HC nt ops _ _ hk _ _ _ _ .nil (.cons (S.resv _) .nil) env _ _ (S.resv _)
theorem aRw {c : DV} {a b a' b' : aH} (ha : SimR gg a a') (hb : SimR gg b b') : SimR gg (aS c a b) (aS c a' b') := by
 unfold aS
 cases c <;> try exact SimR.none _
 rename_i x
 cases x
 ·exact hb
 ·exact ha
theorem aIe {b b' : K → K} (hb : ∀ k k', kE gg k k' → kE gg (b k) (b' k')) : ∀ (n d : Nat), kE gg (aN b n) (aN b' (n + d))
 | 0, d => fun env h h' S v k e => by cases e
 | n + 1, d => by
  rw [show n + 1 + d = (n + d) + 1 from by omega]
  exact hb _ _ (aIe hb n d)
theorem aHv (HC : ∀ g args, SimP gg (cJ ⟨P, I2⟩ rec2 g args) (cJ ⟨P, I1⟩ rec1 g args)) (nt n d : Nat) : ∀ (c : Code) (X X' : Nat → K) (kr kr' k k' : K), (∀ j, kE gg (X j) (X' j)) → kE gg kr kr' → kE gg k k' →
  kE gg (aP ⟨P, I2⟩ rec2 nt n c X kr k) (aP ⟨P, I1⟩ rec1 nt (n + d) c X' kr' k') := by
 intro c
 have hfail : ∀ k', kE gg hZ k' := fun k' env h h' S v k e => by cases e
 induction c with
 | skip => intro X X' kr kr' k k' hX hr hk; exact hk
 | region id ops dr =>
  intro X X' kr kr' k k' hX hr hk
  change kE gg (Bool.rec (motive := fun _ => K) (jA ⟨P, I2⟩ rec2 nt ops ops.toList k) (Bool.rec (motive := fun _ => K) hZ (iG ⟨P, I2⟩ rec2 nt ops k) (fF P ops)) dr)
   (Bool.rec (motive := fun _ => K) (jA ⟨P, I1⟩ rec1 nt ops ops.toList k') (Bool.rec (motive := fun _ => K) hZ (iG ⟨P, I1⟩ rec1 nt ops k') (fF P ops)) dr)
  cases dr with
  | false => exact aHi HC nt ops hk _
  | true =>
   cases fF P ops with
   | false => exact hfail _
   | true => exact bLu HC nt ops hk
 | seq x y ihx ihy => intro X X' kr kr' k k' hX hr hk; exact ihx _ _ _ _ _ _ hX hr (ihy _ _ _ _ _ _ hX hr hk)
 | cond c x y ihx ihy =>
  intro X X' kr kr' k k' hX hr hk env h h' S
  exact aRw (ihx _ _ _ _ _ _ hX hr hk env h h' S) (ihy _ _ _ _ _ _ hX hr hk env h h' S)
 | block id x ih =>
  intro X X' kr kr' k k' hX hr hk
  refine ih _ _ _ _ _ _ (fun j => ?_) hr hk
  cases hj : Nat.beq j id with
  | true => exact hk
  | false => exact hX j
 | loop x ih =>
  intro X X' kr kr' k k' hX hr hk
  exact aIe (fun k k' hk => ih _ _ _ _ _ _ hX hr hk) n d
 | rangeFunc f ps x y ihx ihy => intro X X' kr kr' k k' hX hr hk; exact hfail _
 | exit id => intro X X' kr kr' k k' hX hr hk; exact hX id
 | scope x ih => intro X X' kr kr' k k' hX hr hk; exact ih _ _ _ _ _ _ hX hr hk
 | label l => intro X X' kr kr' k k' hX hr hk; exact hk
 | goto l => intro X X' kr kr' k k' hX hr hk; exact hfail _
 | ret => intro X X' kr kr' k k' hX hr hk; exact hr
 | refuse why => intro X X' kr kr' k k' hX hr hk; exact hfail _
theorem aXh {h h' : Hp} (S : Sim gg h h') (t : TypeId) (x : DV) {k k' : DV → aH} (hk : ∀ v, SimR gg (k v) (k' v)) : SimR gg (xJ ⟨P, I2⟩ t x h k) (xJ ⟨P, I1⟩ t x h' k') := by
 unfold xJ
 dsimp only
 cases P.underlying t with
 | none => exact SimR.none _
 | some d =>
  cases P.info? t with
  | none => exact SimR.none _
  | some i =>
   dsimp only
   refine dEc ?_ fun v _ _ _ => hk v
   cases gV d with
   | true => exact jQ _ _ h h' S
   | false => exact jD _ h h' S
theorem pQ {h h' : Hp} (S : Sim gg h h') (env : aU) : ∀ (l : List ResultVar) (k k' : List DV → aH), (∀ vs, SimR gg (k vs) (k' vs)) → SimR gg (aUa ⟨P, I2⟩ env h l k) (aUa ⟨P, I1⟩ env h' l k')
 | [], k, k', hk => hk []
 | .tmp t :: l, k, k', hk => pQ S env l _ _ fun vs => hk _
 | .cell a t :: l, k, k', hk => aXh S t (env a) fun v => pQ S env l _ _ fun vs => hk _
theorem aIc (fn : Func) : kE gg (aO ⟨P, I2⟩ fn) (aO ⟨P, I1⟩ fn) := fun env h h' S => by
 unfold aO
 refine pQ S env _ _ _ fun vs => ?_
 unfold bSg
 match vs with
 | [v] => exact SimR.some S _
 | [] => exact SimR.some S _
 | _ :: _ :: _ => exact SimR.some S _
theorem wI (HC : ∀ g args, SimP gg (cJ ⟨P, I2⟩ rec2 g args) (cJ ⟨P, I1⟩ rec1 g args)) (n d : Nat) (f : FuncId) (args : List DV) :
  SimP gg (aG ⟨P, I2⟩ rec2 n f args) (aG ⟨P, I1⟩ rec1 (n + d) f args) := by
 intro h h' S
 unfold aG
 dsimp only
 cases P.funcs[f]? with
 | none => exact SimR.none _
 | some fn =>
  dsimp only
  cases fn.body with
  | none => exact SimR.none _
  | some c => exact aHv HC fn.ntmps n d c _ _ _ _ _ _ (fun _ _ _ _ _ _ _ e => by cases e) (aIc fn) (aIc fn) _ h h' S
end
theorem zZ {gg : Bool} {P : Program} {I2 I1 : FuncId → Option (List DV → Hp → aH)} (d : Nat) (h0 : ∀ g, I2 g = none → I1 g = none)
  (hI : ∀ g F, I2 g = some F → ∀ n args, SimP gg (F args) (cJ ⟨P, I1⟩ (eA ⟨P, I1⟩ (n + d)) g args)) : ∀ (n : Nat) (f : FuncId) (args : List DV), SimP gg (eA ⟨P, I2⟩ n f args) (eA ⟨P, I1⟩ (n + d) f args)
 | 0, f, args => fun h h' S v k e => by cases e
 | n + 1, f, args => by
  rw [show n + 1 + d = (n + d) + 1 from by omega]
  refine wI (fun g az => ?_) n d f args
  unfold cJ
  dsimp only
  cases hg : I2 g with
  | none =>
   rw [h0 g hg]
   exact zZ d h0 hI n g az
  | some F =>
   have := hI g F hg n az
   unfold cJ at this
   exact this
end Go.Dd

namespace Go.Dd
noncomputable section
def gO (w : Int) : Nat :=
 match w with
 | .ofNat w => bif Nat.beq (Nat.mod w 2) 0 && (Nat.ble 6 w && Nat.ble w 262144) then Nat.div w 2 else 0
 | .negSucc _ => 0
def eZ (w : Int) : Bool :=
 match w with
 | .ofNat w => Nat.beq (Nat.mod w 2) 1 && Nat.blt w 2147483648
 | .negSucc w => Nat.beq (Nat.mod w 2) 0 && Nat.blt w 2147483648
def cGt (w : Int) : Int :=
 match w with
 | .ofNat w => .ofNat (Nat.div w 2)
 | .negSucc w => .negSucc (Nat.div w 2)
structure MemV where
 wb : Pos
 n : Nat
 fin : Nat
 made : Nat
 pb : Pos
 t : WT
 pl : WT
def kI (m : Pos) (h : Hp) : Option MemV :=
 match h.bl.get m with
 | some (.row .ex [.l wb 0 n c, .i .i64 (.ofNat fin), .i .i64 (.ofNat made), .m pb]) =>
  match h.bl.get wb, h.bl.get pb with
  | some (.big n' t), some (.mi pl) => bif Nat.beq n n' && Nat.beq n c then (bif Nat.blt n 1000000 && (Nat.ble fin n && Nat.blt made 1000000) then some ⟨wb, n, fin, made, pb, t, pl⟩ else none) else none
  | _, _ => none
 | _ => none
def cD (o : Int) (pl : WT) : Nat :=
 bif Nat.beq (gO o) 0 then 0 else match pl.get (gO o) with
  | .ofNat 0 => 0
  | _ => gO o
def jM (w : Int) (pl : WT) : Bool :=
 match w with
 | .ofNat 0 => true
 | .ofNat 2 => true
 | .ofNat 4 => true
 | w => eZ w || !(Nat.beq (cD w pl) 0)
def pE (w : Int) (pl : WT) : Bool :=
 match w with
 | .ofNat 0 => true
 | w => !(Nat.beq (cD w pl) 0)
def jP (args : List DV) (h : Hp) (k : MemV → List DV → aH) : aH :=
 match args with
 | .p m 0 :: rest => match kI m h with
  | some M => k M rest
  | none => none
 | _ => none
def err (e : Nat) (h : Hp) : aH := some (.t [.i .i64 (.ofNat 0), .i .i64 (.ofNat e)], h)
def isF (args : List DV) (h : Hp) : aH := jP args h fun M r => match r with
 | [.i .i64 w] => some (.b (!(Nat.beq (cD w M.pl) 0)), h)
 | _ => none
def bAx (args : List DV) (h : Hp) : aH := jP args h fun M r => match r with
 | [.i .i64 w] => some (.b (jM w M.pl), h)
 | _ => none
def xI (args : List DV) (h : Hp) : aH := jP args h fun M r => match r with
 | [] => some (.i .i64 (.ofNat M.n), h)
 | _ => none
def aSl (args : List DV) (h : Hp) : aH := jP args h fun M r => match r with
 | [] => some (.i .i64 (.ofNat (Nat.sub M.n M.fin)), h)
 | _ => none
def iC (M : MemV) (o : Int) (k : Nat → aH) : aH :=
 bif Nat.blt (Nat.add (cD o M.pl) 1) M.n then (match M.t.get (cD o M.pl) with
  | .ofNat hd => bif Nat.blt hd 1000000000000 then k hd else none
  | .negSucc _ => none) else none
def iU (args : List DV) (h : Hp) : aH := jP args h fun M r => match r with
 | [.i .i64 o] => iC M o fun _ => some (.i .i64 (M.t.get (Nat.add (cD o M.pl) 1)), h)
 | _ => none
def iM (args : List DV) (h : Hp) : aH := jP args h fun M r => match r with
 | [.i .i64 o] => iC M o fun hd => some (.i .i64 (.ofNat (Nat.mod hd 4)), h)
 | _ => none
def gX (args : List DV) (h : Hp) : aH := jP args h fun M r => match r with
 | [.i .i64 o] => iC M o fun hd => some (.i .i64 (.ofNat (Nat.div hd 4)), h)
 | _ => none
def gU (M : MemV) (o i : Int) (bad : Nat → aH) (k : Nat → Nat → aH) : aH :=
 bif Nat.beq (cD o M.pl) 0 then bad 1 else match i with
  | .negSucc _ => bad 5
  | .ofNat i => iC M o fun hd => bif Nat.ble (Nat.div hd 4) i then bad 5 else
    (bif Nat.blt (Nat.add (Nat.add (cD o M.pl) 3) i) M.n then k hd (Nat.add (Nat.add (cD o M.pl) 3) i) else none)
def aOb (args : List DV) (h : Hp) : aH := jP args h fun M r => match r with
 | [.i .i64 o, .i .i64 i] => gU M o i (fun e => err e h) fun _ a => some (.t [.i .i64 (M.t.get a), .i .i64 (.ofNat 0)], h)
 | _ => none
def lD (M : MemV) (a : Nat) (w : Int) (h : Hp) : aH := some (.i .i64 (.ofNat 0), ⟨h.next, Tr.set (.big M.n (M.t.set a w)) M.wb h.bl⟩)
def wQ (args : List DV) (h : Hp) : aH := jP args h fun M r => match r with
 | [.i .i64 o, .i .i64 i, .i .i64 w] => gU M o i (fun e => some (.i .i64 (.ofNat e), h)) fun hd a =>
   match Nat.mod hd 4 with
   | 0 => bif jM w M.pl then lD M a w h else some (.i .i64 (.ofNat 6), h)
   | 2 => (match w with
    | .ofNat c => bif Nat.ble c 255 then lD M a w h else some (.i .i64 (.ofNat 6), h)
    | .negSucc _ => some (.i .i64 (.ofNat 6), h))
   | _ => lD M a w h
 | _ => none
def jG (args : List DV) (h : Hp) : aH := jP args h fun M r => match r with
 | [.i .i64 o, .i .i64 c] => bif Nat.beq (cD o M.pl) 0 || !(pE c M.pl) then some (.i .i64 (.ofNat 1), h) else
   (bif Nat.blt (Nat.add (cD o M.pl) 1) M.n then lD M (Nat.add (cD o M.pl) 1) c h else none)
 | _ => none
def kM (t : WT) (c : Nat) : Nat → WT :=
 Nat.rec (motive := fun _ => Nat → WT) (fun _ => t) (fun _ ih a => (ih (Nat.add a 1)).set a (.ofNat 0)) c
def mD (args : List DV) (h : Hp) : aH :=
 match args with
 | [.p m 0, .i .i64 cls, .i .i64 fmt, .i .i64 cnt] => match kI m h with
  | none => none
  | some M => bif !(pE cls M.pl) then err 1 h else match fmt, cnt with
   | .ofNat f, .ofNat c => bif Nat.ble f 2 && Nat.ble c 256 then
     (bif Nat.blt (Nat.sub M.n M.fin) (Nat.add c 3) then err 4 h else
      (bif Nat.ble 3 M.fin && Nat.ble M.fin 131072 then
       some (.t [.i .i64 (.ofNat (Nat.mul M.fin 2)), .i .i64 (.ofNat 0)],
        ⟨h.next, Tr.set (.row .ex [.l M.wb 0 M.n M.n, .i .i64 (.ofNat (Nat.add M.fin (Nat.add c 3))), .i .i64 (.ofNat (Nat.succ M.made)), .m M.pb]) m
         (Tr.set (.mi (M.pl.set M.fin (.ofNat 1))) M.pb
          (Tr.set (.big M.n (kM (((M.t.set M.fin (.ofNat (Nat.add (Nat.mul c 4) f))).set (Nat.add M.fin 1) cls).set (Nat.add M.fin 2) (.ofNat (Nat.succ M.made))) c (Nat.add M.fin 3))) M.wb h.bl))⟩)
       else none))
     else err 1 h
   | _, _ => err 1 h
 | _ => none
def aKv (args : List DV) (h : Hp) : aH :=
 match args with
 | [.i .i64 (.ofNat n)] => bif Nat.blt n 16 || Nat.blt 131072 n then some (.p0, h) else
   some (.p (bQ 2 h.next) 0, ⟨bQ 3 h.next, Tr.set (.row .ex [.l h.next 0 n n, .i .i64 (.ofNat 3), .i .i64 (.ofNat 0), .m (bQ 1 h.next)]) (bQ 2 h.next)
    (Tr.set (.mi .e) (bQ 1 h.next) (Tr.set (.big n .e) h.next h.bl))⟩)
 | [.i .i64 (.negSucc _)] => some (.p0, h)
 | _ => none
def gA (args : List DV) (h : Hp) : aH :=
 match args with
 | [.i .i64 w] => some (.b (eZ w), h)
 | _ => none
def kT (args : List DV) (h : Hp) : aH :=
 match args with
 | [.i .i64 w] => bif eZ w then some (.i .i64 (cGt w), h) else some (.i .i64 (.ofNat 0), h)
 | _ => none
def kU (args : List DV) (h : Hp) : aH :=
 match args with
 | [.i .i64 (.ofNat n)] => bif Nat.blt n 1073741824 then some (.t [.i .i64 (.ofNat (Nat.succ (Nat.mul n 2))), .b true], h) else some (.t [.i .i64 (.ofNat 0), .b false], h)
 | [.i .i64 (.negSucc n)] => bif Nat.blt n 1073741824 then some (.t [.i .i64 (.negSucc (Nat.mul n 2)), .b true], h) else some (.t [.i .i64 (.ofNat 0), .b false], h)
 | _ => none
def wS (g : Nat) : Option (List DV → Hp → aH) :=
 bif Nat.beq g 20 then some bAx else bif Nat.beq g 21 then some isF else bif Nat.beq g 22 then some xI else bif Nat.beq g 29 then some aSl else
 bif Nat.beq g 30 then some mD else bif Nat.beq g 41 then some aKv else bif Nat.beq g 44 then some jG else bif Nat.beq g 47 then some wQ else
 bif Nat.beq g 50 then some iU else bif Nat.beq g 51 then some iM else bif Nat.beq g 52 then some gX else bif Nat.beq g 54 then some gA else
 bif Nat.beq g 60 then some kU else bif Nat.beq g 62 then some kT else bif Nat.beq g 73 then some aOb else none
end
end Go.Dd

namespace Go.Dd
open Go.Proofs
def cf (f : Func) : Code := match f.body with
 | some c => c
 | none => .skip
def cL : Code → Code
 | .seq a _ => a
 | .cond _ a _ => a
 | .block _ a => a
 | .loop a => a
 | .scope a => a
 | c => c
def cR : Code → Code
 | .seq _ b => b
 | .cond _ _ b => b
 | c => c
def cC : Code → Operand
 | .cond c _ _ => c
 | _ => .const .nilFunc
def x0 : Nat → K := fun _ => hZ
def xs (X : Nat → K) (i : Nat) (k : K) : Nat → K := fun j => bif Nat.beq j i then k else X j
def aHn (c : Nat) : List Nat → Nat → Int
 | [], _ => .negSucc 0
 | x :: l, i => bif Nat.beq x c then .ofNat i else aHn c l (i + 1)
def kQ (args : List DV) (h : Hp) : aH :=
 match args with
 | [.s l, .i .u8 (.ofNat c)] => bif Nat.blt c 256 then some (.i .i64 (aHn c l 0), h) else none
 | _ => none
noncomputable def CF0 : Cfg := ⟨Tryz.prog, fun _ => none⟩
noncomputable def oT (p : Pos) : Pos → Bool := Pos.rec (motive := fun _ => Pos → Bool) (fun q => Pos.rec (motive := fun _ => Bool) true (fun _ _ => false) (fun _ _ => false) q)
 (fun _ ih q => Pos.rec (motive := fun _ => Bool) false (fun q _ => ih q) (fun _ _ => false) q) (fun _ ih q => Pos.rec (motive := fun _ => Bool) false (fun _ _ => false) (fun q _ => ih q) q) p
noncomputable def iB (q : Pos) (l1 : DV) (cs : List DV) (h : Hp) : aH :=
 match l1 with
 | .l0 => some (.l h.next 0 1 1, ⟨h.next.succ, Tr.set (.row (.gr 4) cs) h.next h.bl⟩)
 | .l b o len cap => cnd (Nat.ble cap len && !(oT b q)) (match h.bl.get b, cellsAt b o (len * 4) h with
  | some (.row (.gr es) l), some old => if es = 4 ∧ o + cap * 4 = l.length ∧ (len + 1) * 56 ≤ lB then
    some (.l h.next 0 (len + 1) (len + 1), ⟨h.next.succ, Tr.set (.row (.gr 4) (old ++ cs)) h.next (Tr.set (.row .sp (bN o l)) b h.bl)⟩) else none
  | _, _ => none)
 | _ => none
noncomputable def pO (c q : Pos) (h : Hp) : aH :=
 bnd (aA (.p c 4) h) fun l1 _ =>
 bnd (bS l1 h) fun n _ =>
 bnd (aK 4 (.p q 0) h) fun x _ =>
 match x with
 | .a cs => cnd (!(oT c q)) (
  bnd (iB q l1 cs ⟨h.next.succ.succ, h.bl⟩) fun l2 h3 =>
  bnd (aF 1 (.p c 4) l2 h3) fun _ h4 => some (n, h4))
 | _ => none
noncomputable def kF (args : List DV) (h : Hp) : aH :=
 match args with
 | [.p c 0, .a lit] =>
  bnd (bI lit h) fun _ h1 =>
  bnd (aA (.p c 4) h1) fun ls h2 =>
  bnd (eA CF0 60 187 [ls, .f 277 [] [.p h.next 0]] h2) fun i h3 =>
  bnd (aD .lss i (.i .i64 (Int.ofNat 0)) h3) fun t h4 =>
  aS t (pO c h.next h4) (some (i, h4))
 | _ => none
noncomputable def CF1 : Cfg := ⟨Tryz.prog, fun g => bif Nat.beq g 266 then some kQ else bif Nat.beq g 242 then some kF else none⟩
noncomputable def CF : Cfg := ⟨Tryz.prog, fun g => bif Nat.beq g 266 then some kQ else bif Nat.beq g 242 then some kF else wS g⟩
abbrev RT := FuncId → List DV → Hp → aH
abbrev TT0 := Hp → aH
abbrev TT1 := DV → Hp → aH
abbrev gF := DV → DV → Hp → aH
abbrev lO := DV → DV → DV → Hp → aH
abbrev dM := DV → DV → DV → DV → Hp → aH
abbrev bX := DV → DV → DV → DV → DV → Hp → aH
abbrev eT := DV → DV → DV → DV → DV → DV → Hp → aH
abbrev TT7 := DV → DV → DV → DV → DV → DV → DV → Hp → aH
abbrev TT8 := DV → DV → DV → DV → DV → DV → DV → DV → Hp → aH
abbrev TT9 := DV → DV → DV → DV → DV → DV → DV → DV → DV → Hp → aH
abbrev aOn := DV → DV → DV → DV → DV → DV → DV → DV → DV → DV → Hp → aH
abbrev cXi := DV → DV → DV → DV → DV → DV → DV → DV → DV → DV → DV → Hp → aH
abbrev cZl := DV → DV → DV → DV → DV → DV → DV → DV → DV → DV → DV → DV → Hp → aH
abbrev dBx := DV → DV → DV → DV → DV → DV → DV → DV → DV → DV → DV → DV → DV → Hp → aH
abbrev dDe := DV → DV → DV → DV → DV → DV → DV → DV → DV → DV → DV → DV → DV → DV → Hp → aH
abbrev cZb := DV → DV → DV → DV → DV → DV → DV → DV → DV → DV → DV → DV → DV → DV → DV → Hp → aH
abbrev cZa := DV → DV → DV → DV → DV → DV → DV → DV → DV → DV → DV → DV → DV → DV → DV → DV → Hp → aH
abbrev dCq := DV → DV → DV → DV → DV → DV → DV → DV → DV → DV → DV → DV → DV → DV → DV → DV → DV → Hp → aH
abbrev dAu := DV → DV → DV → DV → DV → DV → DV → DV → DV → DV → DV → DV → DV → DV → DV → DV → DV → DV → Hp → aH
abbrev dBt := DV → DV → DV → DV → DV → DV → DV → DV → DV → DV → DV → DV → DV → DV → DV → DV → DV → DV → DV → Hp → aH
abbrev dBs := DV → DV → DV → DV → DV → DV → DV → DV → DV → DV → DV → DV → DV → DV → DV → DV → DV → DV → DV → DV → Hp → aH
abbrev K0 (f : TT0) : K := fun env h => f h
abbrev K1 (f : TT1) (a0 : Nat) : K := fun env h => f (env a0) h
abbrev K2 (f : gF) (a0 a1 : Nat) : K := fun env h => f (env a0) (env a1) h
abbrev K3 (f : lO) (a0 a1 a2 : Nat) : K := fun env h => f (env a0) (env a1) (env a2) h
abbrev K4 (f : dM) (a0 a1 a2 a3 : Nat) : K := fun env h => f (env a0) (env a1) (env a2) (env a3) h
abbrev K5 (f : bX) (a0 a1 a2 a3 a4 : Nat) : K := fun env h => f (env a0) (env a1) (env a2) (env a3) (env a4) h
abbrev K6 (f : eT) (a0 a1 a2 a3 a4 a5 : Nat) : K := fun env h => f (env a0) (env a1) (env a2) (env a3) (env a4) (env a5) h
abbrev K7 (f : TT7) (a0 a1 a2 a3 a4 a5 a6 : Nat) : K := fun env h => f (env a0) (env a1) (env a2) (env a3) (env a4) (env a5) (env a6) h
abbrev K8 (f : TT8) (a0 a1 a2 a3 a4 a5 a6 a7 : Nat) : K := fun env h => f (env a0) (env a1) (env a2) (env a3) (env a4) (env a5) (env a6) (env a7) h
abbrev K9 (f : TT9) (a0 a1 a2 a3 a4 a5 a6 a7 a8 : Nat) : K := fun env h => f (env a0) (env a1) (env a2) (env a3) (env a4) (env a5) (env a6) (env a7) (env a8) h
abbrev K10 (f : aOn) (a0 a1 a2 a3 a4 a5 a6 a7 a8 a9 : Nat) : K := fun env h => f (env a0) (env a1) (env a2) (env a3) (env a4) (env a5) (env a6) (env a7) (env a8) (env a9) h
abbrev K11 (f : cXi) (a0 a1 a2 a3 a4 a5 a6 a7 a8 a9 a10 : Nat) : K := fun env h => f (env a0) (env a1) (env a2) (env a3) (env a4) (env a5) (env a6) (env a7) (env a8) (env a9) (env a10) h
abbrev K12 (f : cZl) (a0 a1 a2 a3 a4 a5 a6 a7 a8 a9 a10 a11 : Nat) : K := fun env h => f (env a0) (env a1) (env a2) (env a3) (env a4) (env a5) (env a6) (env a7) (env a8) (env a9) (env a10) (env a11) h
abbrev K13 (f : dBx) (a0 a1 a2 a3 a4 a5 a6 a7 a8 a9 a10 a11 a12 : Nat) : K := fun env h => f (env a0) (env a1) (env a2) (env a3) (env a4) (env a5) (env a6) (env a7) (env a8) (env a9) (env a10) (env a11) (env a12) h
abbrev K14 (f : dDe) (a0 a1 a2 a3 a4 a5 a6 a7 a8 a9 a10 a11 a12 a13 : Nat) : K := fun env h => f (env a0) (env a1) (env a2) (env a3) (env a4) (env a5) (env a6) (env a7) (env a8) (env a9) (env a10) (env a11) (env a12) (env a13) h
abbrev K15 (f : cZb) (a0 a1 a2 a3 a4 a5 a6 a7 a8 a9 a10 a11 a12 a13 a14 : Nat) : K := fun env h => f (env a0) (env a1) (env a2) (env a3) (env a4) (env a5) (env a6) (env a7) (env a8) (env a9) (env a10) (env a11) (env a12) (env a13) (env a14) h
abbrev K16 (f : cZa) (a0 a1 a2 a3 a4 a5 a6 a7 a8 a9 a10 a11 a12 a13 a14 a15 : Nat) : K := fun env h => f (env a0) (env a1) (env a2) (env a3) (env a4) (env a5) (env a6) (env a7) (env a8) (env a9) (env a10) (env a11) (env a12) (env a13) (env a14) (env a15) h
abbrev K17 (f : dCq) (a0 a1 a2 a3 a4 a5 a6 a7 a8 a9 a10 a11 a12 a13 a14 a15 a16 : Nat) : K := fun env h => f (env a0) (env a1) (env a2) (env a3) (env a4) (env a5) (env a6) (env a7) (env a8) (env a9) (env a10) (env a11) (env a12) (env a13) (env a14) (env a15) (env a16) h
abbrev K18 (f : dAu) (a0 a1 a2 a3 a4 a5 a6 a7 a8 a9 a10 a11 a12 a13 a14 a15 a16 a17 : Nat) : K := fun env h => f (env a0) (env a1) (env a2) (env a3) (env a4) (env a5) (env a6) (env a7) (env a8) (env a9) (env a10) (env a11) (env a12) (env a13) (env a14) (env a15) (env a16) (env a17) h
abbrev K19 (f : dBt) (a0 a1 a2 a3 a4 a5 a6 a7 a8 a9 a10 a11 a12 a13 a14 a15 a16 a17 a18 : Nat) : K := fun env h => f (env a0) (env a1) (env a2) (env a3) (env a4) (env a5) (env a6) (env a7) (env a8) (env a9) (env a10) (env a11) (env a12) (env a13) (env a14) (env a15) (env a16) (env a17) (env a18) h
abbrev K20 (f : dBs) (a0 a1 a2 a3 a4 a5 a6 a7 a8 a9 a10 a11 a12 a13 a14 a15 a16 a17 a18 a19 : Nat) : K := fun env h => f (env a0) (env a1) (env a2) (env a3) (env a4) (env a5) (env a6) (env a7) (env a8) (env a9) (env a10) (env a11) (env a12) (env a13) (env a14) (env a15) (env a16) (env a17) (env a18) (env a19) h
theorem okG {d s : K} (m : d = s) (args : List DV) (h : Hp) {a b : aH} (e1 : a = d (aJ args) h) (e2 : s (aJ args) h = b) : a = b :=
 e1.trans ((congrFun (congrFun m (aJ args)) h).trans e2)
abbrev aE (n : Nat) : DV := .i .i64 (Int.ofNat n)
abbrev gC : List DV := [(.i .i64 (Int.ofNat 0)), (.s []), (.i .i64 (Int.ofNat 0)), .l0, .l0, .l0]
abbrev aR (args : List DV) (i : Nat) : DV := args.getD i aT
end Go.Dd

namespace Go.Dd
open Go.Proofs
variable (r : RT) (n : Nat) (args : List DV) (h : Hp)
noncomputable def eP (r : RT) (n : Nat) (x5 : DV) (h0 : Hp) : aH :=
 some (.t [x5, (aE 0)], h0)
noncomputable def iX (r : RT) (n : Nat) (kk9 : dM) (x5 x155 x156 x157 : DV) (h0 : Hp) : aH :=
 bnd (aD .lss x157 x156 h0) fun v1 h1 =>
 aS v1 (
 bnd (aI 1 x155 x157 h1) fun v2 h2 =>
 bnd (aA v2 h2) fun v3 h3 =>
 bnd (aI 1 v3 (aE 0) h3) fun v4 h4 =>
 bnd (aA v4 h4) fun v5 h5 =>
 bnd (aI 1 v3 (aE 1) h5) fun v6 h6 =>
 bnd (aA v6 h6) fun v7 h7 =>
 bnd (r 34 [x5, v5, v7] h7) fun v8 h8 =>
 bnd (aC 0 v8 h8) fun v9 h9 =>
 bnd (aC 1 v8 h9) fun v10 h10 =>
 bnd (aC 2 v8 h10) fun v11 h11 =>
 bnd (aC 3 v8 h11) fun v12 h12 =>
 bnd (aD .neq v12 (aE 0) h12) fun v13 h13 =>
 aS v13 (
 some (.t [.p0, v12], h13)) (
 bnd (aD .add x157 (aE 1) h13) fun v14 h14 =>
    kk9 x5 x155 x156 v14 h14)) (
      eP r n x5 h1)
noncomputable def iW (r : RT) (n : Nat) (m : Nat) : dM :=
 Nat.rec (motive := fun _ => dM) (fun _ _ _ _ _ => none) (fun _ ih => iX r n ih) m
noncomputable def aWs (r : RT) (n : Nat) : dM := iW r n n
noncomputable def bPj (r : RT) (n : Nat) (x5 x155 x156 x157 : DV) (h0 : Hp) : aH :=
 aWs r n x5 x155 x156 x157 h0
noncomputable def bC (r : RT) (n : Nat) (x5 : DV) (h0 : Hp) : aH :=
 bnd (r 37 [] h0) fun v1 h1 =>
 bnd (bS v1 h1) fun v2 h2 =>
  bPj r n x5 v1 v2 (aE 0) h2
noncomputable def aW (r : RT) (n : Nat) (kk11 : bX) (x4 x5 x59 x60 x61 : DV) (h0 : Hp) : aH :=
 bnd (aD .add x61 (aE 1) h0) fun v1 h1 =>
  kk11 x4 x5 x59 x60 v1 h1
noncomputable def eK (r : RT) (n : Nat) (kk11 : bX) (x4 x5 x8 x9 x59 x60 x61 : DV) (h0 : Hp) : aH :=
 bnd (aQ x5 h0) fun v1 h1 =>
 bnd (aB 1 v1 h1) fun v2 h2 =>
 bnd (aA v2 h2) fun v3 h3 =>
 bnd (aQ x5 h3) fun v4 h4 =>
 bnd (aB 1 v4 h4) fun v5 h5 =>
 bnd (aA v5 h5) fun v6 h6 =>
 bnd (aI 1 v6 (aE 1) h6) fun v7 h7 =>
 bnd (aA v7 h7) fun v8 h8 =>
 bnd (r 48 [x5, x9, v8] h8) fun v9 h9 =>
 cnd (bJ (aA v2 h9) v3 && true) (
 bnd (aC 0 v9 h9) fun v10 h10 =>
 bnd (aC 1 v9 h10) fun v11 h11 =>
 bnd (aI 1 v3 (aE 1) h11) fun v12 h12 =>
 bnd (aF 1 v12 v10 h12) fun v13 h13 =>
 bnd (aQ x5 h13) fun v14 h14 =>
 bnd (aB 3 v14 h14) fun v15 h15 =>
 bnd (aA v15 h15) fun v16 h16 =>
 bnd (aB 0 x8 h16) fun v17 h17 =>
 bnd (aA v17 h17) fun v18 h18 =>
 bnd (fL .string v16 v18 x9 h18) fun v19 h19 =>
  aW r n kk11 x4 x5 x59 x60 x61 h19)
noncomputable def aQg (r : RT) (n : Nat) (kk11 : bX) (kk25 : aOn) (x4 x5 x8 x9 x59 x60 x61 x117 x118 x119 : DV) (h0 : Hp) : aH :=
 bnd (aD .lss x119 x118 h0) fun v1 h1 =>
 aS v1 (
 bnd (aI 1 x117 x119 h1) fun v2 h2 =>
 bnd (aA v2 h2) fun v3 h3 =>
 bnd (wQ [x4, x9, x119, v3] h3) fun v4 h4 =>
 bnd (aD .add x119 (aE 1) h4) fun v5 h5 =>
      kk25 x4 x5 x8 x9 x59 x60 x61 x117 x118 v5 h5) (
      eK r n kk11 x4 x5 x8 x9 x59 x60 x61 h1)
noncomputable def sZ (r : RT) (n : Nat) (kk11 : bX) (m : Nat) : aOn :=
 Nat.rec (motive := fun _ => aOn) (fun _ _ _ _ _ _ _ _ _ _ _ => none) (fun _ ih => aQg r n kk11 ih) m
noncomputable def bCt (r : RT) (n : Nat) (kk11 : bX) : aOn := sZ r n kk11 n
noncomputable def tU (r : RT) (n : Nat) (kk11 : bX) (x4 x5 x8 x9 x59 x60 x61 x117 x118 x119 : DV) (h0 : Hp) : aH :=
 bCt r n kk11 x4 x5 x8 x9 x59 x60 x61 x117 x118 x119 h0
noncomputable def yR (r : RT) (n : Nat) (kk11 : bX) (x4 x5 x8 x9 x10 x12 x13 x19 x59 x60 x61 : DV) (h0 : Hp) : aH :=
 bnd (r 46 [x13] (resv 1 h0)) fun v1 h1 =>
 bnd (aB 2 x8 h1) fun v2 h2 =>
 bnd (aA v2 h2) fun v3 h3 =>
 cnd (bJ (aA v2 (resv 1 h0)) v3 && true) (
 bnd (r 46 [v3] h3) fun v4 h4 =>
 bnd (bH (bQ 0 h0.next) [(aE 0), (aE 0), (aE 0), (aE 0), (aE 0), (aE 0)] 6 [(0, 1, x10), (1, 1, x12), (2, 1, v1), (3, 1, x19), (4, 1, (aE 0)), (5, 1, v4)] h4) fun v5 h5 =>
 bnd (bS v5 h5) fun v6 h6 =>
  tU r n kk11 x4 x5 x8 x9 x59 x60 x61 v5 v6 (aE 0) h6)
noncomputable def mE (r : RT) (n : Nat) (kk11 : bX) (x4 x5 x8 x9 x10 x12 x13 x14 x59 x60 x61 : DV) (h0 : Hp) : aH :=
 bnd (r 45 [x5, x14] h0) fun v1 h1 =>
 bnd (aC 0 v1 h1) fun v2 h2 =>
 bnd (aC 1 v1 h2) fun v3 h3 =>
  yR r n kk11 x4 x5 x8 x9 x10 x12 x13 v2 x59 x60 x61 h3
noncomputable def tQ (r : RT) (n : Nat) (kk11 : bX) (x4 x5 x7 x8 x9 x10 x12 x13 x14 x59 x60 x61 : DV) (h0 : Hp) : aH :=
 bnd (aD .eql x7 (aE 15) h0) fun v1 h1 =>
 aS v1 (
 bnd (r 11 [x5, (.s [115, 101, 108, 101, 99, 116, 111, 114])] h1) fun v2 h2 =>
 bnd (aC 0 v2 h2) fun v3 h3 =>
 bnd (aC 1 v2 h3) fun v4 h4 =>
 bnd (r 11 [x5, (.s [97, 114, 103, 117, 109, 101, 110, 116, 115])] h4) fun v5 h5 =>
 bnd (aC 0 v5 h5) fun v6 h6 =>
 bnd (aC 1 v5 h6) fun v7 h7 =>
 bnd (aL [(aE 0), (aE 0)] 2 [(0, 1, v3), (1, 1, v6)] h7) fun v8 h8 =>
  mE r n kk11 x4 x5 x8 x9 x10 x12 (aE 2) v8 x59 x60 x61 h8) (
  mE r n kk11 x4 x5 x8 x9 x10 x12 x13 x14 x59 x60 x61 h1)
noncomputable def aNf (r : RT) (n : Nat) (kk11 : bX) (x4 x5 x7 x8 x9 x10 x12 x13 x14 x59 x60 x61 : DV) (h0 : Hp) : aH :=
 bnd (aB 1 x8 h0) fun v1 h1 =>
 bnd (aA v1 h1) fun v2 h2 =>
 bnd (aD .geq v2 (aE 0) h2) fun v3 h3 =>
 aS v3 (
 bnd (aB 1 x8 h3) fun v4 h4 =>
 bnd (aA v4 h4) fun v5 h5 =>
 bnd (r 15 [x5, v5] h5) fun v6 h6 =>
  tQ r n kk11 x4 x5 x7 x8 x9 x10 v6 x13 x14 x59 x60 x61 h6) (
  tQ r n kk11 x4 x5 x7 x8 x9 x10 x12 x13 x14 x59 x60 x61 h3)
noncomputable def aKp (r : RT) (n : Nat) (kk11 : bX) (x4 x5 x7 x8 x9 x10 x59 x60 x61 : DV) (h0 : Hp) : aH :=
 aNf r n kk11 x4 x5 x7 x8 x9 x10 (aE 0) (aE 0) .l0 x59 x60 x61 h0
noncomputable def aOh (r : RT) (n : Nat) (kk11 : bX) (x4 x5 x7 x8 x9 x59 x60 x61 : DV) (h0 : Hp) : aH :=
 bnd (aB 0 x8 h0) fun v1 h1 =>
 bnd (aA v1 h1) fun v2 h2 =>
 bnd (r 11 [x5, v2] h2) fun v3 h3 =>
 bnd (aC 0 v3 h3) fun v4 h4 =>
 bnd (aC 1 v3 h4) fun v5 h5 =>
  aKp r n kk11 x4 x5 x7 x8 x9 v4 x59 x60 x61 h5
noncomputable def aMi (r : RT) (n : Nat) (kk11 : bX) (x4 x5 x7 x8 x9 x59 x60 x61 : DV) (h0 : Hp) : aH :=
 bnd (r 15 [x5, (aE 1)] h0) fun v1 h1 =>
 bnd (jG [x4, x9, v1] h1) fun v2 h2 =>
  aOh r n kk11 x4 x5 x7 x8 x9 x59 x60 x61 h2
noncomputable def vX (r : RT) (n : Nat) (kk11 : bX) (x4 x5 x7 x8 x59 x60 x61 : DV) (h0 : Hp) : aH :=
 bnd (r 15 [x5, x7] h0) fun v1 h1 =>
  aMi r n kk11 x4 x5 x7 x8 v1 x59 x60 x61 h1
noncomputable def xU (r : RT) (n : Nat) (kk11 : bX) (x4 x5 x59 x60 x61 : DV) (h0 : Hp) : aH :=
 bnd (aI 3 x59 x61 h0) fun v1 h1 =>
 bnd (aK 3 v1 h1) fun v2 h2 =>
 bnd (bI [(.s []), (aE 0), (aE 0)] h2) fun v3 h3 =>
 bnd (aF 3 v3 v2 h3) fun _ h4 =>
  vX r n kk11 x4 x5 x61 v3 x59 x60 x61 h4
noncomputable def aNv (r : RT) (n : Nat) (kk11 : bX) (x4 x5 x59 x60 x61 x62 : DV) (h0 : Hp) : aH :=
 aS x62 (
  xU r n kk11 x4 x5 x59 x60 x61 h0) (
  bC r n x5 h0)
noncomputable def aQw (r : RT) (n : Nat) (kk11 : bX) (x4 x5 x59 x60 x61 : DV) (h0 : Hp) : aH :=
 bnd (aD .lss x61 x60 h0) fun v1 h1 =>
  aNv r n kk11 x4 x5 x59 x60 x61 v1 h1
noncomputable def sC (r : RT) (n : Nat) (m : Nat) : bX :=
 Nat.rec (motive := fun _ => bX) (fun _ _ _ _ _ _ => none) (fun _ ih => aQw r n ih) m
noncomputable def bHe (r : RT) (n : Nat) : bX := sC r n n
noncomputable def aNd (r : RT) (n : Nat) (x4 x5 x59 x60 x61 : DV) (h0 : Hp) : aH :=
 bHe r n x4 x5 x59 x60 x61 h0
noncomputable def fX (r : RT) (n : Nat) (x4 x5 : DV) (h0 : Hp) : aH :=
 bnd (r 43 [] h0) fun v1 h1 =>
 bnd (bS v1 h1) fun v2 h2 =>
  aNd r n x4 x5 v1 v2 (aE 0) h2
noncomputable def aRb (r : RT) (n : Nat) (kk27 : lO) (x4 x5 x43 : DV) (h0 : Hp) : aH :=
 bnd (aD .lss x43 (aE 16) h0) fun v1 h1 =>
 aS v1 (
 bnd (aQ x5 h1) fun v2 h2 =>
 bnd (aB 1 v2 h2) fun v3 h3 =>
 bnd (aA v3 h3) fun v4 h4 =>
 bnd (aD .add (aE 2) x43 h4) fun v5 h5 =>
 bnd (mD [x4, (aE 0), (aE 0), (aE 6)] h5) fun v6 h6 =>
 cnd (bJ (aA v3 h6) v4 && true) (
 bnd (aC 0 v6 h6) fun v7 h7 =>
 bnd (aC 1 v6 h7) fun v8 h8 =>
 bnd (aI 1 v4 v5 h8) fun v9 h9 =>
 bnd (aF 1 v9 v7 h9) fun v10 h10 =>
 bnd (aD .add x43 (aE 1) h10) fun v11 h11 =>
      kk27 x4 x5 v11 h11)) (
      fX r n x4 x5 h1)
noncomputable def qK (r : RT) (n : Nat) (m : Nat) : lO :=
 Nat.rec (motive := fun _ => lO) (fun _ _ _ _ => none) (fun _ ih => aRb r n ih) m
noncomputable def bHd (r : RT) (n : Nat) : lO := qK r n n
noncomputable def aNg (r : RT) (n : Nat) (x4 x5 x43 : DV) (h0 : Hp) : aH :=
 bHd r n x4 x5 x43 h0
noncomputable def aHz (r : RT) (n : Nat) (x4 x5 : DV) (h0 : Hp) : aH :=
 aNg r n x4 x5 (aE 0) h0
noncomputable def aSf (r : RT) (n : Nat) (x4 : DV) (h0 : Hp) : aH :=
 bnd (cB 1 8 [(aE 0)] (aE 18) (aE 18) h0) fun v1 h1 =>
 bnd (dL h1) fun v2 h2 =>
 bnd (dL h2) fun v3 h3 =>
 bnd (aZ [.p0, .l0, .m0, .m0] [(0, 1, x4), (1, 1, v1), (2, 1, v2), (3, 1, v3)] h3) fun v4 h4 =>
 bnd (bU v4 h4) fun v5 h5 =>
  aHz r n x4 v5 h5
noncomputable def bRt (r : RT) (n : Nat) (x0 x4 : DV) (h0 : Hp) : aH :=
 bnd (pEq (.pointer 104) true x4 .p0 h0) fun v1 h1 =>
 aS v1 (
 some (.t [.p0, (aE 1)], h1)) (
 bnd (aD .lss x0 (aE 16384) h1) fun v2 h2 =>
 aS v2 (
 some (.t [.p0, (aE 4)], h2)) (
   aSf r n x4 h2))
noncomputable def bEd (r : RT) (n : Nat) (x0 : DV) (h0 : Hp) : aH :=
 bnd (aKv [x0] h0) fun v1 h1 =>
  bRt r n x0 v1 h1
noncomputable def s10 (r : RT) (n : Nat) (x0 : DV) (h0 : Hp) : aH :=
 bEd r n x0 h0
noncomputable abbrev c10 : Code := cf Tryz.f10
noncomputable abbrev aQm : Code := cR c10
noncomputable abbrev aQt : Code := cR aQm
noncomputable abbrev aSt : Code := cR aQt
noncomputable abbrev aVt : Code := cR aSt
noncomputable abbrev aVu : Code := cR aVt
noncomputable abbrev aVr : Code := cR aVu
noncomputable abbrev cSb : Code := cR aVr
noncomputable abbrev aHh : Code := cL aVr
noncomputable abbrev bGy : Code := cR aHh
noncomputable abbrev aDu : Code := cL bGy
noncomputable abbrev mH : Code := cL aDu
noncomputable abbrev bJu : Code := cL aHh
noncomputable abbrev wG : Code := cL aVu
noncomputable abbrev aJi : Code := cR wG
noncomputable abbrev aDh : Code := cL aJi
noncomputable abbrev jB : Code := cL aDh
noncomputable abbrev aEm : Code := cR jB
noncomputable abbrev aAg : Code := cR aEm
noncomputable abbrev cKy : Code := cR aAg
noncomputable abbrev aFz : Code := cL aAg
noncomputable abbrev aEx : Code := cL aFz
noncomputable abbrev aAq : Code := cR aEx
noncomputable abbrev aFn : Code := cR aAq
noncomputable abbrev aEv : Code := cR aFn
noncomputable abbrev aBy : Code := cR aEv
noncomputable abbrev aDa : Code := cR aBy
noncomputable abbrev aCz : Code := cR aDa
noncomputable abbrev aFb : Code := cR aCz
noncomputable abbrev zX : Code := cR aFb
noncomputable abbrev cNm : Code := cR zX
noncomputable abbrev tM : Code := cL zX
noncomputable abbrev aOk : Code := cR tM
noncomputable abbrev aGm : Code := cL aOk
noncomputable abbrev nF : Code := cL aGm
noncomputable abbrev aQa : Code := cL tM
noncomputable abbrev bCq : Code := cL aFb
noncomputable abbrev aPx : Code := cL aCz
noncomputable abbrev bHv : Code := cL aDa
noncomputable abbrev bFg : Code := cL aBy
noncomputable abbrev bJk : Code := cL aEv
noncomputable abbrev bIf : Code := cL aFn
noncomputable abbrev bOg : Code := cL aAq
noncomputable abbrev aNo : Code := cL aEx
noncomputable abbrev bGj : Code := cL aEm
noncomputable abbrev bRs : Code := cL jB
noncomputable abbrev bNa : Code := cL wG
noncomputable abbrev vU : Code := cL aVt
noncomputable abbrev aPp : Code := cR vU
noncomputable abbrev aBv : Code := cL aPp
noncomputable abbrev nG : Code := cL aBv
noncomputable abbrev bNj : Code := cL vU
noncomputable abbrev aOx : Code := cL aSt
noncomputable abbrev bIx : Code := cL aQt
noncomputable abbrev bFz : Code := cL aQm
noncomputable abbrev bFv : Code := cL c10
noncomputable abbrev r10 : K := aO CF Tryz.f10
noncomputable def D10 (r : RT) (n : Nat) (c : Code) (X : Nat → K) (k : K) : K := aP CF r 179 n c X r10 k
theorem bRr : D10 r n cSb x0 r10 = (K1 (eP r n) 5) :=
 (by kernel_rfl)
theorem aSi (kk9 : dM) : D10 r n mH (xs x0 7 (K1 (eP r n) 5)) (K4 kk9 5 155 156 157) = (K4 (iX r n kk9) 5 155 156 157) :=
 (by kernel_rfl)
theorem bZi (m : Nat) : aN (fun kk => D10 r n mH (xs x0 7 (K1 (eP r n) 5)) kk) m = (K4 (iW r n m) 5 155 156 157) := by
 induction m with
 | zero => exact (by kernel_rfl : aN (fun kk => D10 r n mH (xs x0 7 (K1 (eP r n) 5)) kk) 0 = (K4 (iW r n 0) 5 155 156 157))
 | succ m ih =>
  refine (by kernel_rfl : aN (fun kk => D10 r n mH (xs x0 7 (K1 (eP r n) 5)) kk) (m + 1) = D10 r n mH (xs x0 7 (K1 (eP r n) 5)) (aN (fun kk => D10 r n mH (xs x0 7 (K1 (eP r n) 5)) kk) m)).trans ?_
  rw [ih]
  exact (aSi r n (iW r n m)).trans (by kernel_rfl)
theorem bMu : D10 r n aDu (xs x0 7 (K1 (eP r n) 5)) (K1 (eP r n) 5) = (K4 (aWs r n) 5 155 156 157) :=
 (by kernel_rfl : D10 r n aDu (xs x0 7 (K1 (eP r n) 5)) (K1 (eP r n) 5) = aN (fun kk => D10 r n mH (xs x0 7 (K1 (eP r n) 5)) kk) n).trans ((bZi r n n).trans (by kernel_rfl))
theorem cQu : D10 r n bGy x0 (K1 (eP r n) 5) = (K4 (bPj r n) 5 155 156 157) :=
 (by kernel_rfl : D10 r n bGy x0 (K1 (eP r n) 5) = D10 r n aDu (xs x0 7 (K1 (eP r n) 5)) (K1 (eP r n) 5)).trans
 ((bMu r n).trans (by kernel_rfl))
theorem bXj : D10 r n aVr x0 r10 = D10 r n aHh x0 (K1 (eP r n) 5) :=
 congrArg (fun k => D10 r n aHh x0 k) (bRr r n)
theorem bZd : D10 r n aHh x0 (K1 (eP r n) 5) = D10 r n bJu x0 (K4 (bPj r n) 5 155 156 157) :=
 congrArg (fun k => D10 r n bJu x0 k) (cQu r n)
theorem cId : D10 r n aVr x0 r10 = (K1 (bC r n) 5) :=
 (bXj r n).trans
 ((bZd r n).trans
 ((by kernel_rfl)))
theorem bWm (kk11 : bX) : D10 r n cKy (xs x0 3 (K1 (bC r n) 5)) (K5 kk11 4 5 59 60 61) = (K5 (aW r n kk11) 4 5 59 60 61) :=
 (by kernel_rfl)
theorem bSl (kk11 : bX) : D10 r n cNm (xs (xs x0 3 (K1 (bC r n) 5)) 4 (K5 (aW r n kk11) 4 5 59 60 61)) (K5 (aW r n kk11) 4 5 59 60 61) = (K7 (eK r n kk11) 4 5 8 9 59 60 61) :=
 (by kernel_rfl)
theorem bKq (kk11 : bX) (kk25 : aOn) : D10 r n nF (xs (xs (xs x0 3 (K1 (bC r n) 5)) 4 (K5 (aW r n kk11) 4 5 59 60 61)) 5 (K7 (eK r n kk11) 4 5 8 9 59 60 61)) (K10 kk25 4 5 8 9 59 60 61 117 118 119) = (K10 (aQg r n kk11 kk25) 4 5 8 9 59 60 61 117 118 119) :=
 (by kernel_rfl)
theorem bOl (kk11 : bX) (m : Nat) : aN (fun kk => D10 r n nF (xs (xs (xs x0 3 (K1 (bC r n) 5)) 4 (K5 (aW r n kk11) 4 5 59 60 61)) 5 (K7 (eK r n kk11) 4 5 8 9 59 60 61)) kk) m = (K10 (sZ r n kk11 m) 4 5 8 9 59 60 61 117 118 119) := by
 induction m with
 | zero => exact (by kernel_rfl : aN (fun kk => D10 r n nF (xs (xs (xs x0 3 (K1 (bC r n) 5)) 4 (K5 (aW r n kk11) 4 5 59 60 61)) 5 (K7 (eK r n kk11) 4 5 8 9 59 60 61)) kk) 0 = (K10 (sZ r n kk11 0) 4 5 8 9 59 60 61 117 118 119))
 | succ m ih =>
  refine (by kernel_rfl : aN (fun kk => D10 r n nF (xs (xs (xs x0 3 (K1 (bC r n) 5)) 4 (K5 (aW r n kk11) 4 5 59 60 61)) 5 (K7 (eK r n kk11) 4 5 8 9 59 60 61)) kk) (m + 1) = D10 r n nF (xs (xs (xs x0 3 (K1 (bC r n) 5)) 4 (K5 (aW r n kk11) 4 5 59 60 61)) 5 (K7 (eK r n kk11) 4 5 8 9 59 60 61)) (aN (fun kk => D10 r n nF (xs (xs (xs x0 3 (K1 (bC r n) 5)) 4 (K5 (aW r n kk11) 4 5 59 60 61)) 5 (K7 (eK r n kk11) 4 5 8 9 59 60 61)) kk) m)).trans ?_
  rw [ih]
  exact (bKq r n kk11 (sZ r n kk11 m)).trans (by kernel_rfl)
theorem bZr (kk11 : bX) : D10 r n aGm (xs (xs (xs x0 3 (K1 (bC r n) 5)) 4 (K5 (aW r n kk11) 4 5 59 60 61)) 5 (K7 (eK r n kk11) 4 5 8 9 59 60 61)) (K7 (eK r n kk11) 4 5 8 9 59 60 61) = (K10 (bCt r n kk11) 4 5 8 9 59 60 61 117 118 119) :=
 (by kernel_rfl : D10 r n aGm (xs (xs (xs x0 3 (K1 (bC r n) 5)) 4 (K5 (aW r n kk11) 4 5 59 60 61)) 5 (K7 (eK r n kk11) 4 5 8 9 59 60 61)) (K7 (eK r n kk11) 4 5 8 9 59 60 61) = aN (fun kk => D10 r n nF (xs (xs (xs x0 3 (K1 (bC r n) 5)) 4 (K5 (aW r n kk11) 4 5 59 60 61)) 5 (K7 (eK r n kk11) 4 5 8 9 59 60 61)) kk) n).trans ((bOl r n kk11 n).trans (by kernel_rfl))
theorem bZu (kk11 : bX) : D10 r n aOk (xs (xs x0 3 (K1 (bC r n) 5)) 4 (K5 (aW r n kk11) 4 5 59 60 61)) (K7 (eK r n kk11) 4 5 8 9 59 60 61) = (K10 (tU r n kk11) 4 5 8 9 59 60 61 117 118 119) :=
 (by kernel_rfl : D10 r n aOk (xs (xs x0 3 (K1 (bC r n) 5)) 4 (K5 (aW r n kk11) 4 5 59 60 61)) (K7 (eK r n kk11) 4 5 8 9 59 60 61) = D10 r n aGm (xs (xs (xs x0 3 (K1 (bC r n) 5)) 4 (K5 (aW r n kk11) 4 5 59 60 61)) 5 (K7 (eK r n kk11) 4 5 8 9 59 60 61)) (K7 (eK r n kk11) 4 5 8 9 59 60 61)).trans
 ((bZr r n kk11).trans (by kernel_rfl))
theorem bLs (kk11 : bX) : D10 r n zX (xs (xs x0 3 (K1 (bC r n) 5)) 4 (K5 (aW r n kk11) 4 5 59 60 61)) (K5 (aW r n kk11) 4 5 59 60 61) = D10 r n tM (xs (xs x0 3 (K1 (bC r n) 5)) 4 (K5 (aW r n kk11) 4 5 59 60 61)) (K7 (eK r n kk11) 4 5 8 9 59 60 61) :=
 congrArg (fun k => D10 r n tM (xs (xs x0 3 (K1 (bC r n) 5)) 4 (K5 (aW r n kk11) 4 5 59 60 61)) k) (bSl r n kk11)
theorem bIi (kk11 : bX) : D10 r n tM (xs (xs x0 3 (K1 (bC r n) 5)) 4 (K5 (aW r n kk11) 4 5 59 60 61)) (K7 (eK r n kk11) 4 5 8 9 59 60 61) = D10 r n aQa (xs (xs x0 3 (K1 (bC r n) 5)) 4 (K5 (aW r n kk11) 4 5 59 60 61)) (K10 (tU r n kk11) 4 5 8 9 59 60 61 117 118 119) :=
 congrArg (fun k => D10 r n aQa (xs (xs x0 3 (K1 (bC r n) 5)) 4 (K5 (aW r n kk11) 4 5 59 60 61)) k) (bZu r n kk11)
theorem bKi (kk11 : bX) (q0 : aOn) (q1 : TT1) (q2 : bX) : D10 r n aQa (xs (xs x0 3 (K1 q1 5)) 4 (K5 q2 4 5 59 60 61)) (K10 q0 4 5 8 9 59 60 61 117 118 119) = fun (env : aU) (h : Hp) =>
 bnd (r 46 [(env 13)] (resv 1 h)) fun v1 h1 =>
 bnd (aB 2 (env 8) h1) fun v2 h2 =>
 bnd (aA v2 h2) fun v3 h3 =>
 cnd (bJ (aA v2 (resv 1 h)) v3 && true) (
 bnd (r 46 [v3] h3) fun v4 h4 =>
 bnd (bH (bQ 0 h.next) [(aE 0), (aE 0), (aE 0), (aE 0), (aE 0), (aE 0)] 6 [(0, 1, (env 10)), (1, 1, (env 12)), (2, 1, v1), (3, 1, (env 19)), (4, 1, (aE 0)), (5, 1, v4)] h4) fun v5 h5 =>
 bnd (bS v5 h5) fun v6 h6 =>
  q0 (env 4) (env 5) (env 8) (env 9) (env 59) (env 60) (env 61) v5 v6 (aE 0) h6) := by kernel_rfl
theorem bAl (kk11 : bX) : (fun (env : aU) (h : Hp) =>
 bnd (r 46 [(env 13)] (resv 1 h)) fun v1 h1 =>
 bnd (aB 2 (env 8) h1) fun v2 h2 =>
 bnd (aA v2 h2) fun v3 h3 =>
 cnd (bJ (aA v2 (resv 1 h)) v3 && true) (
 bnd (r 46 [v3] h3) fun v4 h4 =>
 bnd (bH (bQ 0 h.next) [(aE 0), (aE 0), (aE 0), (aE 0), (aE 0), (aE 0)] 6 [(0, 1, (env 10)), (1, 1, (env 12)), (2, 1, v1), (3, 1, (env 19)), (4, 1, (aE 0)), (5, 1, v4)] h4) fun v5 h5 =>
 bnd (bS v5 h5) fun v6 h6 =>
  tU r n kk11 (env 4) (env 5) (env 8) (env 9) (env 59) (env 60) (env 61) v5 v6 (aE 0) h6)) = (K11 (yR r n kk11) 4 5 8 9 10 12 13 19 59 60 61) := by kernel_rfl
theorem cFw (kk11 : bX) : D10 r n zX (xs (xs x0 3 (K1 (bC r n) 5)) 4 (K5 (aW r n kk11) 4 5 59 60 61)) (K5 (aW r n kk11) 4 5 59 60 61) = (K11 (yR r n kk11) 4 5 8 9 10 12 13 19 59 60 61) :=
 (bLs r n kk11).trans
 ((bIi r n kk11).trans
 ((bKi r n kk11 (tU r n kk11) (bC r n) (aW r n kk11)).trans (bAl r n kk11)))
theorem bMs (kk11 : bX) : D10 r n aFb (xs (xs x0 3 (K1 (bC r n) 5)) 4 (K5 (aW r n kk11) 4 5 59 60 61)) (K5 (aW r n kk11) 4 5 59 60 61) = D10 r n bCq (xs (xs x0 3 (K1 (bC r n) 5)) 4 (K5 (aW r n kk11) 4 5 59 60 61)) (K11 (yR r n kk11) 4 5 8 9 10 12 13 19 59 60 61) :=
 congrArg (fun k => D10 r n bCq (xs (xs x0 3 (K1 (bC r n) 5)) 4 (K5 (aW r n kk11) 4 5 59 60 61)) k) (cFw r n kk11)
theorem cBx (kk11 : bX) : D10 r n aFb (xs (xs x0 3 (K1 (bC r n) 5)) 4 (K5 (aW r n kk11) 4 5 59 60 61)) (K5 (aW r n kk11) 4 5 59 60 61) = (K11 (mE r n kk11) 4 5 8 9 10 12 13 14 59 60 61) :=
 (bMs r n kk11).trans
 ((by kernel_rfl))
theorem bRl (kk11 : bX) : D10 r n aCz (xs (xs x0 3 (K1 (bC r n) 5)) 4 (K5 (aW r n kk11) 4 5 59 60 61)) (K5 (aW r n kk11) 4 5 59 60 61) = D10 r n aPx (xs (xs x0 3 (K1 (bC r n) 5)) 4 (K5 (aW r n kk11) 4 5 59 60 61)) (K11 (mE r n kk11) 4 5 8 9 10 12 13 14 59 60 61) :=
 congrArg (fun k => D10 r n aPx (xs (xs x0 3 (K1 (bC r n) 5)) 4 (K5 (aW r n kk11) 4 5 59 60 61)) k) (cBx r n kk11)
theorem bSc (kk11 : bX) (q0 : cXi) (q1 : TT1) (q2 : bX) : D10 r n aPx (xs (xs x0 3 (K1 q1 5)) 4 (K5 q2 4 5 59 60 61)) (K11 q0 4 5 8 9 10 12 13 14 59 60 61) = fun (env : aU) (h : Hp) =>
 bnd (aD .eql (env 7) (aE 15) h) fun v1 h1 =>
 aS v1 (
 bnd (r 11 [(env 5), (.s [115, 101, 108, 101, 99, 116, 111, 114])] h1) fun v2 h2 =>
 bnd (aC 0 v2 h2) fun v3 h3 =>
 bnd (aC 1 v2 h3) fun v4 h4 =>
 bnd (r 11 [(env 5), (.s [97, 114, 103, 117, 109, 101, 110, 116, 115])] h4) fun v5 h5 =>
 bnd (aC 0 v5 h5) fun v6 h6 =>
 bnd (aC 1 v5 h6) fun v7 h7 =>
 bnd (aL [(aE 0), (aE 0)] 2 [(0, 1, v3), (1, 1, v6)] h7) fun v8 h8 =>
      q0 (env 4) (env 5) (env 8) (env 9) (env 10) (env 12) (aE 2) v8 (env 59) (env 60) (env 61) h8) (
      q0 (env 4) (env 5) (env 8) (env 9) (env 10) (env 12) (env 13) (env 14) (env 59) (env 60) (env 61) h1) := by kernel_rfl
theorem aZz (kk11 : bX) : (fun (env : aU) (h : Hp) =>
 bnd (aD .eql (env 7) (aE 15) h) fun v1 h1 =>
 aS v1 (
 bnd (r 11 [(env 5), (.s [115, 101, 108, 101, 99, 116, 111, 114])] h1) fun v2 h2 =>
 bnd (aC 0 v2 h2) fun v3 h3 =>
 bnd (aC 1 v2 h3) fun v4 h4 =>
 bnd (r 11 [(env 5), (.s [97, 114, 103, 117, 109, 101, 110, 116, 115])] h4) fun v5 h5 =>
 bnd (aC 0 v5 h5) fun v6 h6 =>
 bnd (aC 1 v5 h6) fun v7 h7 =>
 bnd (aL [(aE 0), (aE 0)] 2 [(0, 1, v3), (1, 1, v6)] h7) fun v8 h8 =>
      mE r n kk11 (env 4) (env 5) (env 8) (env 9) (env 10) (env 12) (aE 2) v8 (env 59) (env 60) (env 61) h8) (
      mE r n kk11 (env 4) (env 5) (env 8) (env 9) (env 10) (env 12) (env 13) (env 14) (env 59) (env 60) (env 61) h1)) = (K12 (tQ r n kk11) 4 5 7 8 9 10 12 13 14 59 60 61) := by kernel_rfl
theorem bYy (kk11 : bX) : D10 r n aCz (xs (xs x0 3 (K1 (bC r n) 5)) 4 (K5 (aW r n kk11) 4 5 59 60 61)) (K5 (aW r n kk11) 4 5 59 60 61) = (K12 (tQ r n kk11) 4 5 7 8 9 10 12 13 14 59 60 61) :=
 (bRl r n kk11).trans
 ((bSc r n kk11 (mE r n kk11) (bC r n) (aW r n kk11)).trans (aZz r n kk11))
theorem bCc (kk11 : bX) : D10 r n aDa (xs (xs x0 3 (K1 (bC r n) 5)) 4 (K5 (aW r n kk11) 4 5 59 60 61)) (K5 (aW r n kk11) 4 5 59 60 61) = D10 r n bHv (xs (xs x0 3 (K1 (bC r n) 5)) 4 (K5 (aW r n kk11) 4 5 59 60 61)) (K12 (tQ r n kk11) 4 5 7 8 9 10 12 13 14 59 60 61) :=
 congrArg (fun k => D10 r n bHv (xs (xs x0 3 (K1 (bC r n) 5)) 4 (K5 (aW r n kk11) 4 5 59 60 61)) k) (bYy r n kk11)
theorem cCz (kk11 : bX) : D10 r n aDa (xs (xs x0 3 (K1 (bC r n) 5)) 4 (K5 (aW r n kk11) 4 5 59 60 61)) (K5 (aW r n kk11) 4 5 59 60 61) = (K12 (aNf r n kk11) 4 5 7 8 9 10 12 13 14 59 60 61) :=
 (bCc r n kk11).trans
 ((by kernel_rfl))
theorem aXm (kk11 : bX) : D10 r n aBy (xs (xs x0 3 (K1 (bC r n) 5)) 4 (K5 (aW r n kk11) 4 5 59 60 61)) (K5 (aW r n kk11) 4 5 59 60 61) = D10 r n bFg (xs (xs x0 3 (K1 (bC r n) 5)) 4 (K5 (aW r n kk11) 4 5 59 60 61)) (K12 (aNf r n kk11) 4 5 7 8 9 10 12 13 14 59 60 61) :=
 congrArg (fun k => D10 r n bFg (xs (xs x0 3 (K1 (bC r n) 5)) 4 (K5 (aW r n kk11) 4 5 59 60 61)) k) (cCz r n kk11)
theorem cEn (kk11 : bX) : D10 r n aBy (xs (xs x0 3 (K1 (bC r n) 5)) 4 (K5 (aW r n kk11) 4 5 59 60 61)) (K5 (aW r n kk11) 4 5 59 60 61) = (K9 (aKp r n kk11) 4 5 7 8 9 10 59 60 61) :=
 (aXm r n kk11).trans
 ((by kernel_rfl))
theorem aXt (kk11 : bX) : D10 r n aEv (xs (xs x0 3 (K1 (bC r n) 5)) 4 (K5 (aW r n kk11) 4 5 59 60 61)) (K5 (aW r n kk11) 4 5 59 60 61) = D10 r n bJk (xs (xs x0 3 (K1 (bC r n) 5)) 4 (K5 (aW r n kk11) 4 5 59 60 61)) (K9 (aKp r n kk11) 4 5 7 8 9 10 59 60 61) :=
 congrArg (fun k => D10 r n bJk (xs (xs x0 3 (K1 (bC r n) 5)) 4 (K5 (aW r n kk11) 4 5 59 60 61)) k) (cEn r n kk11)
theorem cDn (kk11 : bX) : D10 r n aEv (xs (xs x0 3 (K1 (bC r n) 5)) 4 (K5 (aW r n kk11) 4 5 59 60 61)) (K5 (aW r n kk11) 4 5 59 60 61) = (K8 (aOh r n kk11) 4 5 7 8 9 59 60 61) :=
 (aXt r n kk11).trans
 ((by kernel_rfl))
theorem aXk (kk11 : bX) : D10 r n aFn (xs (xs x0 3 (K1 (bC r n) 5)) 4 (K5 (aW r n kk11) 4 5 59 60 61)) (K5 (aW r n kk11) 4 5 59 60 61) = D10 r n bIf (xs (xs x0 3 (K1 (bC r n) 5)) 4 (K5 (aW r n kk11) 4 5 59 60 61)) (K8 (aOh r n kk11) 4 5 7 8 9 59 60 61) :=
 congrArg (fun k => D10 r n bIf (xs (xs x0 3 (K1 (bC r n) 5)) 4 (K5 (aW r n kk11) 4 5 59 60 61)) k) (cDn r n kk11)
theorem cEm (kk11 : bX) : D10 r n aFn (xs (xs x0 3 (K1 (bC r n) 5)) 4 (K5 (aW r n kk11) 4 5 59 60 61)) (K5 (aW r n kk11) 4 5 59 60 61) = (K8 (aMi r n kk11) 4 5 7 8 9 59 60 61) :=
 (aXk r n kk11).trans
 ((by kernel_rfl))
theorem aXl (kk11 : bX) : D10 r n aAq (xs (xs x0 3 (K1 (bC r n) 5)) 4 (K5 (aW r n kk11) 4 5 59 60 61)) (K5 (aW r n kk11) 4 5 59 60 61) = D10 r n bOg (xs (xs x0 3 (K1 (bC r n) 5)) 4 (K5 (aW r n kk11) 4 5 59 60 61)) (K8 (aMi r n kk11) 4 5 7 8 9 59 60 61) :=
 congrArg (fun k => D10 r n bOg (xs (xs x0 3 (K1 (bC r n) 5)) 4 (K5 (aW r n kk11) 4 5 59 60 61)) k) (cEm r n kk11)
theorem bXb (kk11 : bX) : D10 r n aAq (xs (xs x0 3 (K1 (bC r n) 5)) 4 (K5 (aW r n kk11) 4 5 59 60 61)) (K5 (aW r n kk11) 4 5 59 60 61) = (K7 (vX r n kk11) 4 5 7 8 59 60 61) :=
 (aXl r n kk11).trans
 ((by kernel_rfl))
theorem aYc (kk11 : bX) : D10 r n aAg (xs x0 3 (K1 (bC r n) 5)) (K5 kk11 4 5 59 60 61) = D10 r n aFz (xs x0 3 (K1 (bC r n) 5)) (K5 (aW r n kk11) 4 5 59 60 61) :=
 congrArg (fun k => D10 r n aFz (xs x0 3 (K1 (bC r n) 5)) k) (bWm r n kk11)
theorem aWz (kk11 : bX) : D10 r n aEx (xs (xs x0 3 (K1 (bC r n) 5)) 4 (K5 (aW r n kk11) 4 5 59 60 61)) (K5 (aW r n kk11) 4 5 59 60 61) = D10 r n aNo (xs (xs x0 3 (K1 (bC r n) 5)) 4 (K5 (aW r n kk11) 4 5 59 60 61)) (K7 (vX r n kk11) 4 5 7 8 59 60 61) :=
 congrArg (fun k => D10 r n aNo (xs (xs x0 3 (K1 (bC r n) 5)) 4 (K5 (aW r n kk11) 4 5 59 60 61)) k) (bXb r n kk11)
theorem aYm (kk11 : bX) (q0 : TT7) (q1 : TT1) (q2 : bX) : D10 r n aNo (xs (xs x0 3 (K1 q1 5)) 4 (K5 q2 4 5 59 60 61)) (K7 q0 4 5 7 8 59 60 61) = fun (env : aU) (h : Hp) =>
 bnd (aI 3 (env 59) (env 61) h) fun v1 h1 =>
 bnd (aK 3 v1 h1) fun v2 h2 =>
 bnd (bI [(.s []), (aE 0), (aE 0)] h2) fun v3 h3 =>
 bnd (aF 3 v3 v2 h3) fun _ h4 =>
  q0 (env 4) (env 5) (env 61) v3 (env 59) (env 60) (env 61) h4 := by kernel_rfl
theorem aLe (kk11 : bX) : (fun (env : aU) (h : Hp) =>
 bnd (aI 3 (env 59) (env 61) h) fun v1 h1 =>
 bnd (aK 3 v1 h1) fun v2 h2 =>
 bnd (bI [(.s []), (aE 0), (aE 0)] h2) fun v3 h3 =>
 bnd (aF 3 v3 v2 h3) fun _ h4 =>
  vX r n kk11 (env 4) (env 5) (env 61) v3 (env 59) (env 60) (env 61) h4) = (K5 (xU r n kk11) 4 5 59 60 61) := by kernel_rfl
theorem bSu (kk11 : bX) : D10 r n aAg (xs x0 3 (K1 (bC r n) 5)) (K5 kk11 4 5 59 60 61) = (K5 (xU r n kk11) 4 5 59 60 61) :=
 (aYc r n kk11).trans
 ((by kernel_rfl : D10 r n aFz (xs x0 3 (K1 (bC r n) 5)) (K5 (aW r n kk11) 4 5 59 60 61) = D10 r n aEx (xs (xs x0 3 (K1 (bC r n) 5)) 4 (K5 (aW r n kk11) 4 5 59 60 61)) (K5 (aW r n kk11) 4 5 59 60 61)).trans
 ((aWz r n kk11).trans
 ((aYm r n kk11 (vX r n kk11) (bC r n) (aW r n kk11)).trans (aLe r n kk11))))
theorem aYp (kk11 : bX) : D10 r n aEm (xs x0 3 (K1 (bC r n) 5)) (K5 kk11 4 5 59 60 61) = D10 r n bGj (xs x0 3 (K1 (bC r n) 5)) (K5 (xU r n kk11) 4 5 59 60 61) :=
 congrArg (fun k => D10 r n bGj (xs x0 3 (K1 (bC r n) 5)) k) (bSu r n kk11)
theorem bWo (kk11 : bX) : D10 r n aEm (xs x0 3 (K1 (bC r n) 5)) (K5 kk11 4 5 59 60 61) = (K6 (aNv r n kk11) 4 5 59 60 61 62) :=
 (aYp r n kk11).trans
 ((by kernel_rfl))
theorem aZc (kk11 : bX) : D10 r n jB (xs x0 3 (K1 (bC r n) 5)) (K5 kk11 4 5 59 60 61) = D10 r n bRs (xs x0 3 (K1 (bC r n) 5)) (K6 (aNv r n kk11) 4 5 59 60 61 62) :=
 congrArg (fun k => D10 r n bRs (xs x0 3 (K1 (bC r n) 5)) k) (bWo r n kk11)
theorem bHq (kk11 : bX) : D10 r n jB (xs x0 3 (K1 (bC r n) 5)) (K5 kk11 4 5 59 60 61) = (K5 (aQw r n kk11) 4 5 59 60 61) :=
 (aZc r n kk11).trans
 ((by kernel_rfl))
theorem bEq (m : Nat) : aN (fun kk => D10 r n jB (xs x0 3 (K1 (bC r n) 5)) kk) m = (K5 (sC r n m) 4 5 59 60 61) := by
 induction m with
 | zero => exact (by kernel_rfl : aN (fun kk => D10 r n jB (xs x0 3 (K1 (bC r n) 5)) kk) 0 = (K5 (sC r n 0) 4 5 59 60 61))
 | succ m ih =>
  refine (by kernel_rfl : aN (fun kk => D10 r n jB (xs x0 3 (K1 (bC r n) 5)) kk) (m + 1) = D10 r n jB (xs x0 3 (K1 (bC r n) 5)) (aN (fun kk => D10 r n jB (xs x0 3 (K1 (bC r n) 5)) kk) m)).trans ?_
  rw [ih]
  exact (bHq r n (sC r n m)).trans (by kernel_rfl)
theorem bVc : D10 r n aDh (xs x0 3 (K1 (bC r n) 5)) (K1 (bC r n) 5) = (K5 (bHe r n) 4 5 59 60 61) :=
 (by kernel_rfl : D10 r n aDh (xs x0 3 (K1 (bC r n) 5)) (K1 (bC r n) 5) = aN (fun kk => D10 r n jB (xs x0 3 (K1 (bC r n) 5)) kk) n).trans ((bEq r n n).trans (by kernel_rfl))
theorem bVe : D10 r n aJi x0 (K1 (bC r n) 5) = (K5 (aNd r n) 4 5 59 60 61) :=
 (by kernel_rfl : D10 r n aJi x0 (K1 (bC r n) 5) = D10 r n aDh (xs x0 3 (K1 (bC r n) 5)) (K1 (bC r n) 5)).trans
 ((bVc r n).trans (by kernel_rfl))
theorem bJe : D10 r n aVu x0 r10 = D10 r n wG x0 (K1 (bC r n) 5) :=
 congrArg (fun k => D10 r n wG x0 k) (cId r n)
theorem bNu : D10 r n wG x0 (K1 (bC r n) 5) = D10 r n bNa x0 (K5 (aNd r n) 4 5 59 60 61) :=
 congrArg (fun k => D10 r n bNa x0 k) (bVe r n)
theorem cOv : D10 r n aVu x0 r10 = (K2 (fX r n) 4 5) :=
 (bJe r n).trans
 ((bNu r n).trans
 ((by kernel_rfl)))
theorem bLj (kk27 : lO) : D10 r n nG (xs x0 1 (K2 (fX r n) 4 5)) (K3 kk27 4 5 43) = (K3 (aRb r n kk27) 4 5 43) :=
 (by kernel_rfl)
theorem bIs (m : Nat) : aN (fun kk => D10 r n nG (xs x0 1 (K2 (fX r n) 4 5)) kk) m = (K3 (qK r n m) 4 5 43) := by
 induction m with
 | zero => exact (by kernel_rfl : aN (fun kk => D10 r n nG (xs x0 1 (K2 (fX r n) 4 5)) kk) 0 = (K3 (qK r n 0) 4 5 43))
 | succ m ih =>
  refine (by kernel_rfl : aN (fun kk => D10 r n nG (xs x0 1 (K2 (fX r n) 4 5)) kk) (m + 1) = D10 r n nG (xs x0 1 (K2 (fX r n) 4 5)) (aN (fun kk => D10 r n nG (xs x0 1 (K2 (fX r n) 4 5)) kk) m)).trans ?_
  rw [ih]
  exact (bLj r n (qK r n m)).trans (by kernel_rfl)
theorem cFe : D10 r n aBv (xs x0 1 (K2 (fX r n) 4 5)) (K2 (fX r n) 4 5) = (K3 (bHd r n) 4 5 43) :=
 (by kernel_rfl : D10 r n aBv (xs x0 1 (K2 (fX r n) 4 5)) (K2 (fX r n) 4 5) = aN (fun kk => D10 r n nG (xs x0 1 (K2 (fX r n) 4 5)) kk) n).trans ((bIs r n n).trans (by kernel_rfl))
theorem bZn : D10 r n aPp x0 (K2 (fX r n) 4 5) = (K3 (aNg r n) 4 5 43) :=
 (by kernel_rfl : D10 r n aPp x0 (K2 (fX r n) 4 5) = D10 r n aBv (xs x0 1 (K2 (fX r n) 4 5)) (K2 (fX r n) 4 5)).trans
 ((cFe r n).trans (by kernel_rfl))
theorem bLh : D10 r n aVt x0 r10 = D10 r n vU x0 (K2 (fX r n) 4 5) :=
 congrArg (fun k => D10 r n vU x0 k) (cOv r n)
theorem bJq : D10 r n vU x0 (K2 (fX r n) 4 5) = D10 r n bNj x0 (K3 (aNg r n) 4 5 43) :=
 congrArg (fun k => D10 r n bNj x0 k) (bZn r n)
theorem cLm : D10 r n aVt x0 r10 = (K2 (aHz r n) 4 5) :=
 (bLh r n).trans
 ((bJq r n).trans
 ((by kernel_rfl)))
theorem bId : D10 r n aSt x0 r10 = D10 r n aOx x0 (K2 (aHz r n) 4 5) :=
 congrArg (fun k => D10 r n aOx x0 k) (cLm r n)
theorem bRe (q0 : gF) : D10 r n aOx x0 (K2 q0 4 5) = fun (env : aU) (h : Hp) =>
 bnd (cB 1 8 [(aE 0)] (aE 18) (aE 18) h) fun v1 h1 =>
 bnd (dL h1) fun v2 h2 =>
 bnd (dL h2) fun v3 h3 =>
 bnd (aZ [.p0, .l0, .m0, .m0] [(0, 1, (env 4)), (1, 1, v1), (2, 1, v2), (3, 1, v3)] h3) fun v4 h4 =>
 bnd (bU v4 h4) fun v5 h5 =>
  q0 (env 4) v5 h5 := by kernel_rfl
theorem aXv : (fun (env : aU) (h : Hp) =>
 bnd (cB 1 8 [(aE 0)] (aE 18) (aE 18) h) fun v1 h1 =>
 bnd (dL h1) fun v2 h2 =>
 bnd (dL h2) fun v3 h3 =>
 bnd (aZ [.p0, .l0, .m0, .m0] [(0, 1, (env 4)), (1, 1, v1), (2, 1, v2), (3, 1, v3)] h3) fun v4 h4 =>
 bnd (bU v4 h4) fun v5 h5 =>
  aHz r n (env 4) v5 h5) = (K1 (aSf r n) 4) := by kernel_rfl
theorem cOk : D10 r n aSt x0 r10 = (K1 (aSf r n) 4) :=
 (bId r n).trans
 ((bRe r n (aHz r n)).trans (aXv r n))
theorem bSd : D10 r n aQt x0 r10 = D10 r n bIx x0 (K1 (aSf r n) 4) :=
 congrArg (fun k => D10 r n bIx x0 k) (cOk r n)
theorem cIp : D10 r n aQt x0 r10 = (K2 (bRt r n) 0 4) :=
 (bSd r n).trans
 ((by kernel_rfl))
theorem bDb : D10 r n aQm x0 r10 = D10 r n bFz x0 (K2 (bRt r n) 0 4) :=
 congrArg (fun k => D10 r n bFz x0 k) (cIp r n)
theorem cHp : D10 r n aQm x0 r10 = (K1 (bEd r n) 0) :=
 (bDb r n).trans
 ((by kernel_rfl))
theorem cJk : D10 r n c10 x0 r10 = D10 r n bFv x0 (K1 (bEd r n) 0) :=
 congrArg (fun k => D10 r n bFv x0 k) (cHp r n)
theorem dBd : D10 r n c10 x0 r10 = (K1 (s10 r n) 0) :=
 (cJk r n).trans
 ((by kernel_rfl))
theorem cRw : aG CF r n 10 args h = s10 r n (aR args 0) h :=
 (by kernel_rfl : aG CF r n 10 args h = D10 r n c10 x0 r10 (aJ args) h).trans ((congrFun (congrFun (dBd r n) (aJ args)) h).trans (by kernel_rfl))
noncomputable def s11 (r : RT) (n : Nat) (x0 x1 : DV) (h0 : Hp) : aH :=
 bnd (cU x1 h0) fun v1 h1 =>
 bnd (aD .lss v1 (aE 1) h1) fun v2 h2 =>
 bnd (gD v2 false (some (x1, h2)) h2) fun v3 h3 =>
 bnd (gD v2 false (cU v3 h3) h3) fun v4 h4 =>
 bnd (gD v2 false (aD .gtr v4 (aE 60) h4) h4) fun v5 h5 =>
 bnd (aM v2 (.b true) v5 h5) fun v6 h6 =>
 aS v6 (
 some (.t [(aE 0), (aE 1)], h6)) (
 bnd (aQ x0 h6) fun v7 h7 =>
 bnd (aB 2 v7 h7) fun v8 h8 =>
 bnd (aA v8 h8) fun v9 h9 =>
 bnd (dV .string (aE 0) false v9 x1 h9) fun v10 h10 =>
 bnd (aD .neq v10 (aE 0) h10) fun v11 h11 =>
 aS v11 (
 some (.t [v10, (aE 0)], h11)) (
 bnd (r 15 [x0, (aE 11)] h11) fun v12 h12 =>
 bnd (r 49 [x0, v12, x1] h12) fun v13 h13 =>
 bnd (aC 0 v13 h13) fun v14 h14 =>
 bnd (aC 1 v13 h14) fun v15 h15 =>
 bnd (aD .neq v15 (aE 0) h15) fun v16 h16 =>
 aS v16 (
 some (.t [(aE 0), v15], h16)) (
 bnd (aQ x0 h16) fun v17 h17 =>
 bnd (aB 1 v17 h17) fun v18 h18 =>
 bnd (aA v18 h18) fun v19 h19 =>
 bnd (aI 1 v19 (aE 0) h19) fun v20 h20 =>
 bnd (aA v20 h20) fun v21 h21 =>
 bnd (r 48 [x0, v14, v21] h21) fun v22 h22 =>
 bnd (aC 0 v22 h22) fun v23 h23 =>
 bnd (aC 1 v22 h23) fun v24 h24 =>
 bnd (aD .neq v24 (aE 0) h24) fun v25 h25 =>
 aS v25 (
 some (.t [(aE 0), v24], h25)) (
 bnd (aQ x0 h25) fun v26 h26 =>
 bnd (aB 1 v26 h26) fun v27 h27 =>
 bnd (aA v27 h27) fun v28 h28 =>
 bnd (aQ x0 h28) fun v29 h29 =>
 bnd (aB 2 v29 h29) fun v30 h30 =>
 bnd (aA v30 h30) fun v31 h31 =>
 bnd (aI 1 v28 (aE 0) h31) fun v32 h32 =>
 bnd (aF 1 v32 v23 h32) fun v33 h33 =>
 bnd (fB .string (aE 0) v31 x1 h33) fun v34 h34 =>
 bnd (aC 1 v34 h34) fun v35 h35 =>
 bnd (dI v31 v35 v14 h35) fun v36 h36 =>
 some (.t [v14, (aE 0)], h36)))))
noncomputable abbrev c11 : Code := cf Tryz.f11
noncomputable abbrev r11 : K := aO CF Tryz.f11
noncomputable def D11 (r : RT) (n : Nat) (c : Code) (X : Nat → K) (k : K) : K := aP CF r 68 n c X r11 k
theorem dCr : D11 r n c11 x0 r11 = (K2 (s11 r n) 0 1) :=
 (by kernel_rfl)
theorem cGl : aG CF r n 11 args h = s11 r n (aR args 0) (aR args 1) h :=
 (by kernel_rfl : aG CF r n 11 args h = D11 r n c11 x0 r11 (aJ args) h).trans ((congrFun (congrFun (dCr r n) (aJ args)) h).trans (by kernel_rfl))
noncomputable def fD (r : RT) (n : Nat) (x7 : DV) (h0 : Hp) : aH :=
 bnd (fE x7 h0) fun v1 h1 =>
 some (.t [v1, (.b true)], h1)
noncomputable def nE (r : RT) (n : Nat) (kk7 : bX) (x0 x1 x7 x48 x49 : DV) (h0 : Hp) : aH :=
 bnd (aD .lss x49 x48 h0) fun v1 h1 =>
 aS v1 (
 bnd (r 53 [x0, x1, x49] h1) fun v2 h2 =>
 bnd (dH .u8 v2 h2) fun v3 h3 =>
 bnd (aL [(.i .u8 (Int.ofNat 0))] 1 [(0, 1, v3)] h3) fun v4 h4 =>
 bnd (aX 1 1 x7 v4 h4) fun v5 h5 =>
 bnd (aD .add x49 (aE 1) h5) fun v6 h6 =>
      kk7 x0 x1 v5 x48 v6 h6) (
      fD r n x7 h1)
noncomputable def mG (r : RT) (n : Nat) (m : Nat) : bX :=
 Nat.rec (motive := fun _ => bX) (fun _ _ _ _ _ _ => none) (fun _ ih => nE r n ih) m
noncomputable def bRv (r : RT) (n : Nat) : bX := mG r n n
noncomputable def aTv (r : RT) (n : Nat) (x0 x1 x7 x48 x49 : DV) (h0 : Hp) : aH :=
 bRv r n x0 x1 x7 x48 x49 h0
noncomputable def aUj (r : RT) (n : Nat) (x0 x1 x7 : DV) (h0 : Hp) : aH :=
 bnd (aQ x0 h0) fun v1 h1 =>
 bnd (aB 0 v1 h1) fun v2 h2 =>
 bnd (aA v2 h2) fun v3 h3 =>
 bnd (gX [v3, x1] h3) fun v4 h4 =>
  aTv r n x0 x1 x7 v4 (aE 0) h4
noncomputable def aHt (r : RT) (n : Nat) (x0 x1 : DV) (h0 : Hp) : aH :=
 aUj r n x0 x1 .l0 h0
noncomputable def aQh (r : RT) (n : Nat) (x0 x1 x6 : DV) (h0 : Hp) : aH :=
 bnd (aQ x0 h0) fun v1 h1 =>
 bnd (aB 0 v1 h1) fun v2 h2 =>
 bnd (aA v2 h2) fun v3 h3 =>
 bnd (isF [v3, x1] h3) fun v4 h4 =>
 bnd (gG .not v4 h4) fun v5 h5 =>
 bnd (gD v5 false (some (x6, h5)) h5) fun v6 h6 =>
 bnd (gD v5 false (some (x0, h6)) h6) fun v7 h7 =>
 bnd (gD v5 false (r 15 [v7, (aE 10)] h7) h7) fun v8 h8 =>
 bnd (gD v5 false (aD .neq v6 v8 h8) h8) fun v9 h9 =>
 bnd (gD v5 false (some (v9, h9)) h9) fun v10 h10 =>
 bnd (gD v10 true (some (x6, h10)) h10) fun v11 h11 =>
 bnd (gD v10 true (some (x0, h11)) h11) fun v12 h12 =>
 bnd (gD v10 true (r 15 [v12, (aE 11)] h12) h12) fun v13 h13 =>
 bnd (gD v10 true (aD .neq v11 v13 h13) h13) fun v14 h14 =>
 bnd (gD v5 false (aM v10 v14 (.b false) h14) h14) fun v15 h15 =>
 bnd (aM v5 (.b true) v15 h15) fun v16 h16 =>
 bnd (gD v16 false (some (x0, h16)) h16) fun v17 h17 =>
 bnd (gD v16 false (aQ v17 h17) h17) fun v18 h18 =>
 bnd (gD v16 false (aB 0 v18 h18) h18) fun v19 h19 =>
 bnd (gD v16 false (aA v19 h19) h19) fun v20 h20 =>
 bnd (gD v16 false (some (x1, h20)) h20) fun v21 h21 =>
 bnd (gD v16 false (iM [v20, v21] h21) h21) fun v22 h22 =>
 bnd (gD v16 false (aD .neq v22 (aE 2) h22) h22) fun v23 h23 =>
 bnd (aM v16 (.b true) v23 h23) fun v24 h24 =>
 aS v24 (
 some (.t [(.s []), (.b false)], h24)) (
  aHt r n x0 x1 h24)
noncomputable def aSh (r : RT) (n : Nat) (x0 x1 : DV) (h0 : Hp) : aH :=
 bnd (aQ x0 h0) fun v1 h1 =>
 bnd (aB 0 v1 h1) fun v2 h2 =>
 bnd (aA v2 h2) fun v3 h3 =>
 bnd (iU [v3, x1] h3) fun v4 h4 =>
  aQh r n x0 x1 v4 h4
noncomputable def s13 (r : RT) (n : Nat) (x0 x1 : DV) (h0 : Hp) : aH :=
 aSh r n x0 x1 h0
noncomputable abbrev c13 : Code := cf Tryz.f13
noncomputable abbrev aRd : Code := cR c13
noncomputable abbrev aTd : Code := cR aRd
noncomputable abbrev aSw : Code := cR aTd
noncomputable abbrev aWq : Code := cR aSw
noncomputable abbrev cUb : Code := cR aWq
noncomputable abbrev aHp : Code := cL aWq
noncomputable abbrev bOs : Code := cR aHp
noncomputable abbrev aWu : Code := cL bOs
noncomputable abbrev pX : Code := cL aWu
noncomputable abbrev bCr : Code := cL aHp
noncomputable abbrev bEi : Code := cL aSw
noncomputable abbrev bLz : Code := cL aTd
noncomputable abbrev bHl : Code := cL aRd
noncomputable abbrev bOu : Code := cL c13
noncomputable abbrev r13 : K := aO CF Tryz.f13
noncomputable def D13 (r : RT) (n : Nat) (c : Code) (X : Nat → K) (k : K) : K := aP CF r 63 n c X r13 k
theorem cKk : D13 r n cUb x0 r13 = (K1 (fD r n) 7) :=
 (by kernel_rfl)
theorem cAn (kk7 : bX) (q0 : TT1) : D13 r n pX (xs x0 0 (K1 q0 7)) (K5 kk7 0 1 7 48 49) = fun (env : aU) (h : Hp) =>
 bnd (aD .lss (env 49) (env 48) h) fun v1 h1 =>
 aS v1 (
 bnd (r 53 [(env 0), (env 1), (env 49)] h1) fun v2 h2 =>
 bnd (dH .u8 v2 h2) fun v3 h3 =>
 bnd (aL [(.i .u8 (Int.ofNat 0))] 1 [(0, 1, v3)] h3) fun v4 h4 =>
 bnd (aX 1 1 (env 7) v4 h4) fun v5 h5 =>
 bnd (aD .add (env 49) (aE 1) h5) fun v6 h6 =>
      kk7 (env 0) (env 1) v5 (env 48) v6 h6) (
      q0 (env 7) h1) := by kernel_rfl
theorem bJp (kk7 : bX) : (fun (env : aU) (h : Hp) =>
 bnd (aD .lss (env 49) (env 48) h) fun v1 h1 =>
 aS v1 (
 bnd (r 53 [(env 0), (env 1), (env 49)] h1) fun v2 h2 =>
 bnd (dH .u8 v2 h2) fun v3 h3 =>
 bnd (aL [(.i .u8 (Int.ofNat 0))] 1 [(0, 1, v3)] h3) fun v4 h4 =>
 bnd (aX 1 1 (env 7) v4 h4) fun v5 h5 =>
 bnd (aD .add (env 49) (aE 1) h5) fun v6 h6 =>
      kk7 (env 0) (env 1) v5 (env 48) v6 h6) (
      fD r n (env 7) h1)) = (K5 (nE r n kk7) 0 1 7 48 49) := by kernel_rfl
theorem cBs (kk7 : bX) : D13 r n pX (xs x0 0 (K1 (fD r n) 7)) (K5 kk7 0 1 7 48 49) = (K5 (nE r n kk7) 0 1 7 48 49) :=
 (cAn r n kk7 (fD r n)).trans (bJp r n kk7)
theorem bXx (m : Nat) : aN (fun kk => D13 r n pX (xs x0 0 (K1 (fD r n) 7)) kk) m = (K5 (mG r n m) 0 1 7 48 49) := by
 induction m with
 | zero => exact (by kernel_rfl : aN (fun kk => D13 r n pX (xs x0 0 (K1 (fD r n) 7)) kk) 0 = (K5 (mG r n 0) 0 1 7 48 49))
 | succ m ih =>
  refine (by kernel_rfl : aN (fun kk => D13 r n pX (xs x0 0 (K1 (fD r n) 7)) kk) (m + 1) = D13 r n pX (xs x0 0 (K1 (fD r n) 7)) (aN (fun kk => D13 r n pX (xs x0 0 (K1 (fD r n) 7)) kk) m)).trans ?_
  rw [ih]
  exact (cBs r n (mG r n m)).trans (by kernel_rfl)
theorem cMq : D13 r n aWu (xs x0 0 (K1 (fD r n) 7)) (K1 (fD r n) 7) = (K5 (bRv r n) 0 1 7 48 49) :=
 (by kernel_rfl : D13 r n aWu (xs x0 0 (K1 (fD r n) 7)) (K1 (fD r n) 7) = aN (fun kk => D13 r n pX (xs x0 0 (K1 (fD r n) 7)) kk) n).trans ((bXx r n n).trans (by kernel_rfl))
theorem cMx : D13 r n bOs x0 (K1 (fD r n) 7) = (K5 (aTv r n) 0 1 7 48 49) :=
 (by kernel_rfl : D13 r n bOs x0 (K1 (fD r n) 7) = D13 r n aWu (xs x0 0 (K1 (fD r n) 7)) (K1 (fD r n) 7)).trans
 ((cMq r n).trans (by kernel_rfl))
theorem bXa : D13 r n aWq x0 r13 = D13 r n aHp x0 (K1 (fD r n) 7) :=
 congrArg (fun k => D13 r n aHp x0 k) (cKk r n)
theorem bTz : D13 r n aHp x0 (K1 (fD r n) 7) = D13 r n bCr x0 (K5 (aTv r n) 0 1 7 48 49) :=
 congrArg (fun k => D13 r n bCr x0 k) (cMx r n)
theorem cQl : D13 r n aWq x0 r13 = (K3 (aUj r n) 0 1 7) :=
 (bXa r n).trans
 ((bTz r n).trans
 ((by kernel_rfl)))
theorem cCd : D13 r n aSw x0 r13 = D13 r n bEi x0 (K3 (aUj r n) 0 1 7) :=
 congrArg (fun k => D13 r n bEi x0 k) (cQl r n)
theorem cMz : D13 r n aSw x0 r13 = (K2 (aHt r n) 0 1) :=
 (cCd r n).trans
 ((by kernel_rfl))
theorem cBm : D13 r n aTd x0 r13 = D13 r n bLz x0 (K2 (aHt r n) 0 1) :=
 congrArg (fun k => D13 r n bLz x0 k) (cMz r n)
theorem cNh : D13 r n aTd x0 r13 = (K3 (aQh r n) 0 1 6) :=
 (cBm r n).trans
 ((by kernel_rfl))
theorem cFc : D13 r n aRd x0 r13 = D13 r n bHl x0 (K3 (aQh r n) 0 1 6) :=
 congrArg (fun k => D13 r n bHl x0 k) (cNh r n)
theorem cIl : D13 r n aRd x0 r13 = (K2 (aSh r n) 0 1) :=
 (cFc r n).trans
 ((by kernel_rfl))
theorem cRq : D13 r n c13 x0 r13 = D13 r n bOu x0 (K2 (aSh r n) 0 1) :=
 congrArg (fun k => D13 r n bOu x0 k) (cIl r n)
theorem dAa : D13 r n c13 x0 r13 = (K2 (s13 r n) 0 1) :=
 (cRq r n).trans
 ((by kernel_rfl))
theorem cGa : aG CF r n 13 args h = s13 r n (aR args 0) (aR args 1) h :=
 (by kernel_rfl : aG CF r n 13 args h = D13 r n c13 x0 r13 (aJ args) h).trans ((congrFun (congrFun (dAa r n) (aJ args)) h).trans (by kernel_rfl))
noncomputable def s14 (r : RT) (n : Nat) (x0 x1 : DV) (h0 : Hp) : aH :=
 bnd (aQ x0 h0) fun v1 h1 =>
 bnd (aB 0 v1 h1) fun v2 h2 =>
 bnd (aA v2 h2) fun v3 h3 =>
 bnd (isF [v3, x1] h3) fun v4 h4 =>
 aS v4 (
 bnd (aQ x0 h4) fun v5 h5 =>
 bnd (aB 0 v5 h5) fun v6 h6 =>
 bnd (aA v6 h6) fun v7 h7 =>
 bnd (iU [v7, x1] h7) fun v8 h8 =>
 some (v8, h8)) (
 bnd (gA [x1] h4) fun v9 h9 =>
 aS v9 (
 bnd (r 15 [x0, (aE 7)] h9) fun v10 h10 =>
 some (v10, h10)) (
 bnd (aD .eql x1 (aE 0) h9) fun v11 h11 =>
 aS v11 (
 bnd (r 15 [x0, (aE 2)] h11) fun v12 h12 =>
 some (v12, h12)) (
 bnd (aD .eql x1 (aE 2) h11) fun v13 h13 =>
 aS v13 (
 bnd (r 15 [x0, (aE 4)] h13) fun v14 h14 =>
 some (v14, h14)) (
 bnd (aD .eql x1 (aE 4) h13) fun v15 h15 =>
 aS v15 (
 bnd (r 15 [x0, (aE 5)] h15) fun v16 h16 =>
 some (v16, h16)) (
 some ((aE 0), h15))))))
noncomputable abbrev c14 : Code := cf Tryz.f14
noncomputable abbrev r14 : K := aO CF Tryz.f14
noncomputable def D14 (r : RT) (n : Nat) (c : Code) (X : Nat → K) (k : K) : K := aP CF r 38 n c X r14 k
theorem dBj : D14 r n c14 x0 r14 = (K2 (s14 r n) 0 1) :=
 (by kernel_rfl)
theorem cGk : aG CF r n 14 args h = s14 r n (aR args 0) (aR args 1) h :=
 (by kernel_rfl : aG CF r n 14 args h = D14 r n c14 x0 r14 (aJ args) h).trans ((congrFun (congrFun (dBj r n) (aJ args)) h).trans (by kernel_rfl))
noncomputable def s15 (r : RT) (n : Nat) (x0 x1 : DV) (h0 : Hp) : aH :=
 bnd (aD .lss x1 (aE 0) h0) fun v1 h1 =>
 bnd (gD v1 false (some (x1, h1)) h1) fun v2 h2 =>
 bnd (gD v1 false (aD .geq v2 (aE 16) h2) h2) fun v3 h3 =>
 bnd (aM v1 (.b true) v3 h3) fun v4 h4 =>
 aS v4 (
 some ((aE 0), h4)) (
 bnd (aQ x0 h4) fun v5 h5 =>
 bnd (aB 1 v5 h5) fun v6 h6 =>
 bnd (aA v6 h6) fun v7 h7 =>
 bnd (aD .add (aE 2) x1 h7) fun v8 h8 =>
 bnd (aI 1 v7 v8 h8) fun v9 h9 =>
 bnd (aA v9 h9) fun v10 h10 =>
 some (v10, h10))
noncomputable abbrev c15 : Code := cf Tryz.f15
noncomputable abbrev r15 : K := aO CF Tryz.f15
noncomputable def D15 (r : RT) (n : Nat) (c : Code) (X : Nat → K) (k : K) : K := aP CF r 19 n c X r15 k
theorem dBp : D15 r n c15 x0 r15 = (K2 (s15 r n) 0 1) :=
 (by kernel_rfl)
theorem cGf : aG CF r n 15 args h = s15 r n (aR args 0) (aR args 1) h :=
 (by kernel_rfl : aG CF r n 15 args h = D15 r n c15 x0 r15 (aJ args) h).trans ((congrFun (congrFun (dBp r n) (aJ args)) h).trans (by kernel_rfl))
noncomputable def s16 (r : RT) (n : Nat) (h0 : Hp) : aH :=
 bnd (r 10 [(aE 20000)] h0) fun v1 h1 =>
 bnd (aC 0 v1 h1) fun v2 h2 =>
 bnd (aC 1 v1 h2) fun v3 h3 =>
 bnd (pEq (.pointer 83) true v2 .p0 h3) fun v4 h4 =>
 bnd (gD v4 false (some (v3, h4)) h4) fun v5 h5 =>
 bnd (gD v4 false (aD .neq v5 (aE 0) h5) h5) fun v6 h6 =>
 bnd (aM v4 (.b true) v6 h6) fun v7 h7 =>
 aS v7 (
 some ((.b false), h7)) (
 bnd (aL [(.s []), (.s [])] 2 [(0, 1, (.s [120])), (1, 1, (.s [121]))] h7) fun v8 h8 =>
 bnd (r 32 [v2, (.s [80, 111, 105, 110, 116]), (.s [79, 98, 106, 101, 99, 116]), v8] h8) fun v9 h9 =>
 bnd (aC 0 v9 h9) fun v10 h10 =>
 bnd (aC 1 v9 h10) fun v11 h11 =>
 bnd (r 55 [v2, v10] h11) fun v12 h12 =>
 bnd (r 34 [v2, (.s [80, 111, 105, 110, 116]), (.s [120, 32, 94, 120])] h12) fun v13 h13 =>
 bnd (aC 0 v13 h13) fun v14 h14 =>
 bnd (aC 1 v13 h14) fun v15 h15 =>
 bnd (aC 2 v13 h15) fun v16 h16 =>
 bnd (aC 3 v13 h16) fun v17 h17 =>
 bnd (r 56 [v2, v14] h17) fun v18 h18 =>
 bnd (aC 0 v18 h18) fun v19 h19 =>
 bnd (aC 1 v18 h19) fun v20 h20 =>
 bnd (bI [(.s []), (aE 0), (aE 0), (aE 0), .l0, .l0] h20) fun v21 h21 =>
 bnd (aF 6 v21 v19 h21) fun _ h22 =>
 bnd (r 17 [v2, (aE 1073741824)] h22) fun v23 h23 =>
 bnd (aC 0 v23 h23) fun v24 h24 =>
 bnd (aC 1 v23 h24) fun v25 h25 =>
 bnd (r 58 [v2, (.s [73, 110, 116, 101, 103, 101, 114])] h25) fun v26 h26 =>
 bnd (r 57 [v2, v26] h26) fun v27 h27 =>
 bnd (eB .eql v27 (.s [73, 110, 116, 101, 103, 101, 114]) h27) fun v28 h28 =>
 bnd (gD v28 true (some (v11, h28)) h28) fun v29 h29 =>
 bnd (gD v28 true (aD .eql v29 (aE 0) h29) h29) fun v30 h30 =>
 bnd (aM v28 v30 (.b false) h30) fun v31 h31 =>
 bnd (gD v31 true (some (v12, h31)) h31) fun v32 h32 =>
 bnd (gD v31 true (bS v32 h32) h32) fun v33 h33 =>
 bnd (gD v31 true (aD .eql v33 (aE 2) h33) h33) fun v34 h34 =>
 bnd (aM v31 v34 (.b false) h34) fun v35 h35 =>
 bnd (gD v35 true (some (v12, h35)) h35) fun v36 h36 =>
 bnd (gD v35 true (aI 1 v36 (aE 1) h36) h36) fun v37 h37 =>
 bnd (gD v35 true (aA v37 h37) h37) fun v38 h38 =>
 bnd (gD v35 true (eB .eql v38 (.s [121]) h38) h38) fun v39 h39 =>
 bnd (aM v35 v39 (.b false) h39) fun v40 h40 =>
 bnd (gD v40 true (some (v17, h40)) h40) fun v41 h41 =>
 bnd (gD v40 true (aD .eql v41 (aE 0) h41) h41) fun v42 h42 =>
 bnd (aM v40 v42 (.b false) h42) fun v43 h43 =>
 bnd (gD v43 true (some (v20, h43)) h43) fun v44 h44 =>
 bnd (aM v43 v44 (.b false) h44) fun v45 h45 =>
 bnd (gD v45 true (aB 5 v21 h45) h45) fun v46 h46 =>
 bnd (gD v45 true (aA v46 h46) h46) fun v47 h47 =>
 bnd (gD v45 true (r 59 [v47] h47) h47) fun v48 h48 =>
 bnd (gD v45 true (eB .eql v48 (.s [105, 118, 97, 114, 32, 48, 10, 114, 101, 116, 117, 114, 110, 10]) h48) h48) fun v49 h49 =>
 bnd (aM v45 v49 (.b false) h49) fun v50 h50 =>
 bnd (gD v50 true (some (v25, h50)) h50) fun v51 h51 =>
 bnd (gD v50 true (aD .eql v51 (aE 0) h51) h51) fun v52 h52 =>
 bnd (aM v50 v52 (.b false) h52) fun v53 h53 =>
 bnd (gD v53 true (some (v2, h53)) h53) fun v54 h54 =>
 bnd (gD v53 true (some (v24, h54)) h54) fun v55 h55 =>
 bnd (gD v53 true (r 14 [v54, v55] h55) h55) fun v56 h56 =>
 bnd (gD v53 true (some (v2, h56)) h56) fun v57 h57 =>
 bnd (gD v53 true (r 58 [v57, (.s [76, 97, 114, 103, 101, 73, 110, 116, 101, 103, 101, 114])] h57) h57) fun v58 h58 =>
 bnd (gD v53 true (aD .eql v56 v58 h58) h58) fun v59 h59 =>
 bnd (aM v53 v59 (.b false) h59) fun v60 h60 =>
 some (v60, h60))
noncomputable abbrev c16 : Code := cf Tryz.f16
noncomputable abbrev r16 : K := aO CF Tryz.f16
noncomputable def D16 (r : RT) (n : Nat) (c : Code) (X : Nat → K) (k : K) : K := aP CF r 96 n c X r16 k
theorem dBm : D16 r n c16 x0 r16 = (K0 (s16 r n)) :=
 (by kernel_rfl)
theorem cGc : aG CF r n 16 args h = s16 r n h :=
 (by kernel_rfl : aG CF r n 16 args h = D16 r n c16 x0 r16 (aJ args) h).trans ((congrFun (congrFun (dBm r n) (aJ args)) h).trans (by kernel_rfl))
noncomputable def s17 (r : RT) (n : Nat) (x0 x1 : DV) (h0 : Hp) : aH :=
 bnd (aD .lss x1 (.i .i64 (Int.negSucc 1152921504606846975)) h0) fun v1 h1 =>
 bnd (gD v1 false (some (x1, h1)) h1) fun v2 h2 =>
 bnd (gD v1 false (aD .gtr v2 (aE 1152921504606846976) h2) h2) fun v3 h3 =>
 bnd (aM v1 (.b true) v3 h3) fun v4 h4 =>
 aS v4 (
 some (.t [(aE 0), (aE 2)], h4)) (
 bnd (kU [x1] h4) fun v5 h5 =>
 bnd (aC 0 v5 h5) fun v6 h6 =>
 bnd (aC 1 v5 h6) fun v7 h7 =>
 aS v7 (
 some (.t [v6, (aE 0)], h7)) (
 bnd (r 15 [x0, (aE 8)] h7) fun v8 h8 =>
 bnd (aL [(aE 0)] 1 [(0, 1, x1)] h8) fun v9 h9 =>
 bnd (r 61 [x0, v8, (aE 1), v9] h9) fun v10 h10 =>
 bnd (aC 0 v10 h10) fun v11 h11 =>
 bnd (aC 1 v10 h11) fun v12 h12 =>
 some (.t [v11, v12], h12)))
noncomputable abbrev c17 : Code := cf Tryz.f17
noncomputable abbrev r17 : K := aO CF Tryz.f17
noncomputable def D17 (r : RT) (n : Nat) (c : Code) (X : Nat → K) (k : K) : K := aP CF r 29 n c X r17 k
theorem dAz : D17 r n c17 x0 r17 = (K2 (s17 r n) 0 1) :=
 (by kernel_rfl)
theorem cYc : aG CF r n 17 args h = s17 r n (aR args 0) (aR args 1) h :=
 (by kernel_rfl : aG CF r n 17 args h = D17 r n c17 x0 r17 (aJ args) h).trans ((congrFun (congrFun (dAz r n) (aJ args)) h).trans (by kernel_rfl))
noncomputable def s34 (r : RT) (n : Nat) (x0 x1 x2 : DV) (h0 : Hp) : aH :=
 bnd (r 58 [x0, x1] h0) fun v1 h1 =>
 bnd (aD .eql v1 (aE 0) h1) fun v2 h2 =>
 aS v2 (
 some (.t [(aE 0), (aE 0), (.s []), (aE 24)], h2)) (
 bnd (r 86 [x2] h2) fun v3 h3 =>
 bnd (aC 0 v3 h3) fun v4 h4 =>
 bnd (aC 1 v3 h4) fun v5 h5 =>
 bnd (aC 2 v3 h5) fun v6 h6 =>
 bnd (bI gC h6) fun v7 h7 =>
 bnd (aF 6 v7 v4 h7) fun _ h8 =>
 bnd (aD .neq v6 (aE 0) h8) fun v9 h9 =>
 aS v9 (
 some (.t [(aE 0), v5, (.s []), v6], h9)) (
 bnd (aK 6 v7 (resv 1 h9)) fun v10 h10 =>
 bnd (r 55 [x0, v1] h10) fun v11 h11 =>
 cnd (bJ (aK 6 v7 h11) v10 && true) (
 bnd (r 87 [v10, v11] h11) fun v12 h12 =>
 bnd (aC 0 v12 h12) fun v13 h13 =>
 bnd (aC 1 v12 h13) fun v14 h14 =>
 bnd (aC 2 v12 h14) fun v15 h15 =>
 bnd (kH (bQ 0 h9.next) [(.s []), (aE 0), (aE 0), (aE 0), .l0, .l0] h15) fun v16 h16 =>
 bnd (aF 6 v16 v13 h16) fun v17 h17 =>
 bnd (aD .neq v15 (aE 0) h17) fun v18 h18 =>
 aS v18 (
 some (.t [(aE 0), (aE 0), v14, v15], h18)) (
 bnd (aK 6 v16 h18) fun v19 h19 =>
 bnd (r 88 [x0, v1, v19] h19) fun v20 h20 =>
 bnd (aC 0 v20 h20) fun v21 h21 =>
 bnd (aC 1 v20 h21) fun v22 h22 =>
 bnd (aD .neq v22 (aE 0) h22) fun v23 h23 =>
 aS v23 (
 some (.t [(aE 0), (aE 0), (.s []), v22], h23)) (
 some (.t [v21, (aE 0), (.s []), (aE 0)], h23))))))
noncomputable abbrev c34 : Code := cf Tryz.f34
noncomputable abbrev r34 : K := aO CF Tryz.f34
noncomputable def D34 (r : RT) (n : Nat) (c : Code) (X : Nat → K) (k : K) : K := aP CF r 56 n c X r34 k
theorem dDh : D34 r n c34 x0 r34 = (K3 (s34 r n) 0 1 2) :=
 (by kernel_rfl)
theorem cWx : aG CF r n 34 args h = s34 r n (aR args 0) (aR args 1) (aR args 2) h :=
 (by kernel_rfl : aG CF r n 34 args h = D34 r n c34 x0 r34 (aJ args) h).trans ((congrFun (congrFun (dDh r n) (aJ args)) h).trans (by kernel_rfl))
noncomputable def s45 (r : RT) (n : Nat) (x0 x1 : DV) (h0 : Hp) : aH :=
 bnd (bU x0 h0) fun v1 h1 =>
 bnd (bS x1 h1) fun v2 h2 =>
 bnd (aD .gtr v2 (aE 250) h2) fun v3 h3 =>
 bnd (gD v3 false (some (x1, h3)) h3) fun v4 h4 =>
 bnd (gD v3 false (some ((.f 106 [] [v1]), h4)) h4) fun v5 h5 =>
 bnd (gD v3 false (r 97 [v4, v5] h5) h5) fun v6 h6 =>
 bnd (aM v3 (.b true) v6 h6) fun v7 h7 =>
 aS v7 (
 some (.t [(aE 0), (aE 1)], h7)) (
 bnd (aA v1 h7) fun v8 h8 =>
 bnd (aA v1 h8) fun v9 h9 =>
 bnd (r 15 [v9, (aE 9)] h9) fun v10 h10 =>
 cnd (bJ (aA v1 h10) v8 && true) (
 bnd (r 61 [v8, v10, (aE 0), x1] h10) fun v11 h11 =>
 bnd (aC 0 v11 h11) fun v12 h12 =>
 bnd (aC 1 v11 h12) fun v13 h13 =>
 some (.t [v12, v13], h13)))
noncomputable abbrev c45 : Code := cf Tryz.f45
noncomputable abbrev r45 : K := aO CF Tryz.f45
noncomputable def D45 (r : RT) (n : Nat) (c : Code) (X : Nat → K) (k : K) : K := aP CF r 21 n c X r45 k
theorem dCf : D45 r n c45 x0 r45 = (K2 (s45 r n) 0 1) :=
 (by kernel_rfl)
theorem cWr : aG CF r n 45 args h = s45 r n (aR args 0) (aR args 1) h :=
 (by kernel_rfl : aG CF r n 45 args h = D45 r n c45 x0 r45 (aJ args) h).trans ((congrFun (congrFun (dCf r n) (aJ args)) h).trans (by kernel_rfl))
noncomputable def s46 (r : RT) (n : Nat) (x0 : DV) (h0 : Hp) : aH :=
 bnd (kU [x0] h0) fun v1 h1 =>
 bnd (aC 0 v1 h1) fun v2 h2 =>
 bnd (aC 1 v1 h2) fun v3 h3 =>
 some (v2, h3)
noncomputable abbrev c46 : Code := cf Tryz.f46
noncomputable abbrev r46 : K := aO CF Tryz.f46
noncomputable def D46 (r : RT) (n : Nat) (c : Code) (X : Nat → K) (k : K) : K := aP CF r 11 n c X r46 k
theorem cZc : D46 r n c46 x0 r46 = (K1 (s46 r n) 0) :=
 (by kernel_rfl)
theorem cVz : aG CF r n 46 args h = s46 r n (aR args 0) h :=
 (by kernel_rfl : aG CF r n 46 args h = D46 r n c46 x0 r46 (aJ args) h).trans ((congrFun (congrFun (cZc r n) (aJ args)) h).trans (by kernel_rfl))
noncomputable def s48 (r : RT) (n : Nat) (x0 x1 x2 : DV) (h0 : Hp) : aH :=
 bnd (r 15 [x0, (aE 9)] h0) fun v1 h1 =>
 bnd (aL [(aE 0), (aE 0)] 2 [(0, 1, x1), (1, 1, x2)] h1) fun v2 h2 =>
 bnd (r 61 [x0, v1, (aE 0), v2] h2) fun v3 h3 =>
 bnd (aC 0 v3 h3) fun v4 h4 =>
 bnd (aC 1 v3 h4) fun v5 h5 =>
 some (.t [v4, v5], h5)
noncomputable abbrev c48 : Code := cf Tryz.f48
noncomputable abbrev r48 : K := aO CF Tryz.f48
noncomputable def D48 (r : RT) (n : Nat) (c : Code) (X : Nat → K) (k : K) : K := aP CF r 17 n c X r48 k
theorem cZm : D48 r n c48 x0 r48 = (K3 (s48 r n) 0 1 2) :=
 (by kernel_rfl)
theorem cGd : aG CF r n 48 args h = s48 r n (aR args 0) (aR args 1) (aR args 2) h :=
 (by kernel_rfl : aG CF r n 48 args h = D48 r n c48 x0 r48 (aJ args) h).trans ((congrFun (congrFun (cZm r n) (aJ args)) h).trans (by kernel_rfl))
end Go.Dd

namespace Go.Dd
open Go.Proofs
variable (r : RT) (n : Nat) (args : List DV) (h : Hp)
noncomputable def eY (r : RT) (n : Nat) (x0 x1 x8 : DV) (h0 : Hp) : aH :=
 bnd (r 61 [x0, x1, (aE 2), x8] h0) fun v1 h1 =>
 bnd (aC 0 v1 h1) fun v2 h2 =>
 bnd (aC 1 v1 h2) fun v3 h3 =>
 some (.t [v2, v3], h3)
noncomputable def mM (r : RT) (n : Nat) (kk5 : eT) (x0 x1 x2 x8 x11 x12 : DV) (h0 : Hp) : aH :=
 bnd (aD .lss x12 x11 h0) fun v1 h1 =>
 aS v1 (
 bnd (eS x2 x12 h1) fun v2 h2 =>
 bnd (dH .i64 v2 h2) fun v3 h3 =>
 bnd (aL [(aE 0)] 1 [(0, 1, v3)] h3) fun v4 h4 =>
 bnd (aX 1 8 x8 v4 h4) fun v5 h5 =>
 bnd (aD .add x12 (aE 1) h5) fun v6 h6 =>
      kk5 x0 x1 x2 v5 x11 v6 h6) (
      eY r n x0 x1 x8 h1)
noncomputable def mP (r : RT) (n : Nat) (m : Nat) : eT :=
 Nat.rec (motive := fun _ => eT) (fun _ _ _ _ _ _ _ => none) (fun _ ih => mM r n ih) m
noncomputable def bDv (r : RT) (n : Nat) : eT := mP r n n
noncomputable def aSo (r : RT) (n : Nat) (x0 x1 x2 x8 x11 x12 : DV) (h0 : Hp) : aH :=
 bDv r n x0 x1 x2 x8 x11 x12 h0
noncomputable def aUo (r : RT) (n : Nat) (x0 x1 x2 x8 : DV) (h0 : Hp) : aH :=
 bnd (cU x2 h0) fun v1 h1 =>
  aSo r n x0 x1 x2 x8 v1 (aE 0) h1
noncomputable def aQb (r : RT) (n : Nat) (x0 x1 x2 : DV) (h0 : Hp) : aH :=
 aUo r n x0 x1 x2 .l0 h0
noncomputable def s49 (r : RT) (n : Nat) (x0 x1 x2 : DV) (h0 : Hp) : aH :=
 aQb r n x0 x1 x2 h0
noncomputable abbrev c49 : Code := cf Tryz.f49
noncomputable abbrev aUe : Code := cR c49
noncomputable abbrev aRl : Code := cR aUe
noncomputable abbrev cXc : Code := cR aRl
noncomputable abbrev aIk : Code := cL aRl
noncomputable abbrev bFy : Code := cR aIk
noncomputable abbrev aTp : Code := cL bFy
noncomputable abbrev qG : Code := cL aTp
noncomputable abbrev cGh : Code := cL aIk
noncomputable abbrev cGi : Code := cL aUe
noncomputable abbrev bFb : Code := cL c49
noncomputable abbrev r49 : K := aO CF Tryz.f49
noncomputable def D49 (r : RT) (n : Nat) (c : Code) (X : Nat → K) (k : K) : K := aP CF r 29 n c X r49 k
theorem cOh : D49 r n cXc x0 r49 = (K3 (eY r n) 0 1 8) :=
 (by kernel_rfl)
theorem cAo (kk5 : eT) (q0 : lO) : D49 r n qG (xs x0 0 (K3 q0 0 1 8)) (K6 kk5 0 1 2 8 11 12) = fun (env : aU) (h : Hp) =>
 bnd (aD .lss (env 12) (env 11) h) fun v1 h1 =>
 aS v1 (
 bnd (eS (env 2) (env 12) h1) fun v2 h2 =>
 bnd (dH .i64 v2 h2) fun v3 h3 =>
 bnd (aL [(aE 0)] 1 [(0, 1, v3)] h3) fun v4 h4 =>
 bnd (aX 1 8 (env 8) v4 h4) fun v5 h5 =>
 bnd (aD .add (env 12) (aE 1) h5) fun v6 h6 =>
      kk5 (env 0) (env 1) (env 2) v5 (env 11) v6 h6) (
      q0 (env 0) (env 1) (env 8) h1) := by kernel_rfl
theorem bOj (kk5 : eT) : (fun (env : aU) (h : Hp) =>
 bnd (aD .lss (env 12) (env 11) h) fun v1 h1 =>
 aS v1 (
 bnd (eS (env 2) (env 12) h1) fun v2 h2 =>
 bnd (dH .i64 v2 h2) fun v3 h3 =>
 bnd (aL [(aE 0)] 1 [(0, 1, v3)] h3) fun v4 h4 =>
 bnd (aX 1 8 (env 8) v4 h4) fun v5 h5 =>
 bnd (aD .add (env 12) (aE 1) h5) fun v6 h6 =>
      kk5 (env 0) (env 1) (env 2) v5 (env 11) v6 h6) (
      eY r n (env 0) (env 1) (env 8) h1)) = (K6 (mM r n kk5) 0 1 2 8 11 12) := by kernel_rfl
theorem bXr (kk5 : eT) : D49 r n qG (xs x0 0 (K3 (eY r n) 0 1 8)) (K6 kk5 0 1 2 8 11 12) = (K6 (mM r n kk5) 0 1 2 8 11 12) :=
 (cAo r n kk5 (eY r n)).trans (bOj r n kk5)
theorem cEq (m : Nat) : aN (fun kk => D49 r n qG (xs x0 0 (K3 (eY r n) 0 1 8)) kk) m = (K6 (mP r n m) 0 1 2 8 11 12) := by
 induction m with
 | zero => exact (by kernel_rfl : aN (fun kk => D49 r n qG (xs x0 0 (K3 (eY r n) 0 1 8)) kk) 0 = (K6 (mP r n 0) 0 1 2 8 11 12))
 | succ m ih =>
  refine (by kernel_rfl : aN (fun kk => D49 r n qG (xs x0 0 (K3 (eY r n) 0 1 8)) kk) (m + 1) = D49 r n qG (xs x0 0 (K3 (eY r n) 0 1 8)) (aN (fun kk => D49 r n qG (xs x0 0 (K3 (eY r n) 0 1 8)) kk) m)).trans ?_
  rw [ih]
  exact (bXr r n (mP r n m)).trans (by kernel_rfl)
theorem cHm : D49 r n aTp (xs x0 0 (K3 (eY r n) 0 1 8)) (K3 (eY r n) 0 1 8) = (K6 (bDv r n) 0 1 2 8 11 12) :=
 (by kernel_rfl : D49 r n aTp (xs x0 0 (K3 (eY r n) 0 1 8)) (K3 (eY r n) 0 1 8) = aN (fun kk => D49 r n qG (xs x0 0 (K3 (eY r n) 0 1 8)) kk) n).trans ((cEq r n n).trans (by kernel_rfl))
theorem cHv : D49 r n bFy x0 (K3 (eY r n) 0 1 8) = (K6 (aSo r n) 0 1 2 8 11 12) :=
 (by kernel_rfl : D49 r n bFy x0 (K3 (eY r n) 0 1 8) = D49 r n aTp (xs x0 0 (K3 (eY r n) 0 1 8)) (K3 (eY r n) 0 1 8)).trans
 ((cHm r n).trans (by kernel_rfl))
theorem bWr : D49 r n aRl x0 r49 = D49 r n aIk x0 (K3 (eY r n) 0 1 8) :=
 congrArg (fun k => D49 r n aIk x0 k) (cOh r n)
theorem bXk : D49 r n aIk x0 (K3 (eY r n) 0 1 8) = D49 r n cGh x0 (K6 (aSo r n) 0 1 2 8 11 12) :=
 congrArg (fun k => D49 r n cGh x0 k) (cHv r n)
theorem cQn : D49 r n aRl x0 r49 = (K4 (aUo r n) 0 1 2 8) :=
 (bWr r n).trans
 ((bXk r n).trans
 ((by kernel_rfl)))
theorem bVq : D49 r n aUe x0 r49 = D49 r n cGi x0 (K4 (aUo r n) 0 1 2 8) :=
 congrArg (fun k => D49 r n cGi x0 k) (cQn r n)
theorem cRg : D49 r n aUe x0 r49 = (K3 (aQb r n) 0 1 2) :=
 (bVq r n).trans
 ((by kernel_rfl))
theorem cUs : D49 r n c49 x0 r49 = D49 r n bFb x0 (K3 (aQb r n) 0 1 2) :=
 congrArg (fun k => D49 r n bFb x0 k) (cRg r n)
theorem dDf : D49 r n c49 x0 r49 = (K3 (s49 r n) 0 1 2) :=
 (cUs r n).trans
 ((by kernel_rfl))
theorem cGp : aG CF r n 49 args h = s49 r n (aR args 0) (aR args 1) (aR args 2) h :=
 (by kernel_rfl : aG CF r n 49 args h = D49 r n c49 x0 r49 (aJ args) h).trans ((congrFun (congrFun (dDf r n) (aJ args)) h).trans (by kernel_rfl))
noncomputable def s53 (r : RT) (n : Nat) (x0 x1 x2 : DV) (h0 : Hp) : aH :=
 bnd (aQ x0 h0) fun v1 h1 =>
 bnd (aB 0 v1 h1) fun v2 h2 =>
 bnd (aA v2 h2) fun v3 h3 =>
 bnd (aOb [v3, x1, x2] h3) fun v4 h4 =>
 bnd (aC 0 v4 h4) fun v5 h5 =>
 bnd (aC 1 v4 h5) fun v6 h6 =>
 some (v5, h6)
noncomputable abbrev c53 : Code := cf Tryz.f53
noncomputable abbrev r53 : K := aO CF Tryz.f53
noncomputable def D53 (r : RT) (n : Nat) (c : Code) (X : Nat → K) (k : K) : K := aP CF r 20 n c X r53 k
theorem dAi : D53 r n c53 x0 r53 = (K3 (s53 r n) 0 1 2) :=
 (by kernel_rfl)
theorem cGb : aG CF r n 53 args h = s53 r n (aR args 0) (aR args 1) (aR args 2) h :=
 (by kernel_rfl : aG CF r n 53 args h = D53 r n c53 x0 r53 (aJ args) h).trans ((congrFun (congrFun (dAi r n) (aJ args)) h).trans (by kernel_rfl))
noncomputable def bR (r : RT) (n : Nat) (x5 : DV) (h0 : Hp) : aH :=
 some (x5, h0)
noncomputable def cK (r : RT) (n : Nat) (kk5 : dM) (x0 x1 x5 x6 : DV) (h0 : Hp) : aH :=
 bnd (aD .sub x6 (aE 1) h0) fun v1 h1 =>
  kk5 x0 x1 x5 v1 h1
noncomputable def dN (r : RT) (n : Nat) (kk5 : dM) (x0 x1 x5 x6 x7 : DV) (h0 : Hp) : aH :=
 bnd (aX 1 16 x7 x5 h0) fun v1 h1 =>
 bnd (r 93 [x0, x1] h1) fun v2 h2 =>
  cK r n kk5 x0 v2 v1 x6 h2
noncomputable def aDf (r : RT) (n : Nat) (kk5 : dM) (kk12 : TT8) (x0 x1 x5 x6 x7 x8 x34 x35 : DV) (h0 : Hp) : aH :=
 bnd (aD .lss x35 x34 h0) fun v1 h1 =>
 aS v1 (
 bnd (r 53 [x0, x8, x35] h1) fun v2 h2 =>
 bnd (r 13 [x0, v2] h2) fun v3 h3 =>
 bnd (aC 0 v3 h3) fun v4 h4 =>
 bnd (aC 1 v3 h4) fun v5 h5 =>
 bnd (aL [(.s [])] 1 [(0, 1, v4)] h5) fun v6 h6 =>
 bnd (aX 1 16 x7 v6 h6) fun v7 h7 =>
 bnd (aD .add x35 (aE 1) h7) fun v8 h8 =>
      kk12 x0 x1 x5 x6 v7 x8 x34 v8 h8) (
      dN r n kk5 x0 x1 x5 x6 x7 h1)
noncomputable def qN (r : RT) (n : Nat) (kk5 : dM) (m : Nat) : TT8 :=
 Nat.rec (motive := fun _ => TT8) (fun _ _ _ _ _ _ _ _ _ => none) (fun _ ih => aDf r n kk5 ih) m
noncomputable def bRi (r : RT) (n : Nat) (kk5 : dM) : TT8 := qN r n kk5 n
noncomputable def aMq (r : RT) (n : Nat) (kk5 : dM) (x0 x1 x5 x6 x7 x8 x34 x35 : DV) (h0 : Hp) : aH :=
 bRi r n kk5 x0 x1 x5 x6 x7 x8 x34 x35 h0
noncomputable def bPo (r : RT) (n : Nat) (kk5 : dM) (x0 x1 x5 x6 x7 x8 : DV) (h0 : Hp) : aH :=
 bnd (aQ x0 h0) fun v1 h1 =>
 bnd (aB 0 v1 h1) fun v2 h2 =>
 bnd (aA v2 h2) fun v3 h3 =>
 bnd (gX [v3, x8] h3) fun v4 h4 =>
  aMq r n kk5 x0 x1 x5 x6 x7 x8 v4 (aE 0) h4
noncomputable def bQg (r : RT) (n : Nat) (kk5 : dM) (x0 x1 x5 x6 x7 : DV) (h0 : Hp) : aH :=
 bnd (r 53 [x0, x1, (aE 3)] h0) fun v1 h1 =>
  bPo r n kk5 x0 x1 x5 x6 x7 v1 h1
noncomputable def bCw (r : RT) (n : Nat) (kk5 : dM) (x0 x1 x5 x6 : DV) (h0 : Hp) : aH :=
 bQg r n kk5 x0 x1 x5 x6 .l0 h0
noncomputable def bPi (r : RT) (n : Nat) (kk5 : dM) (x0 x1 x5 x6 : DV) (h0 : Hp) : aH :=
 bnd (aD .gtr x6 (aE 0) h0) fun v1 h1 =>
 bnd (gD v1 true (some (x0, h1)) h1) fun v2 h2 =>
 bnd (gD v1 true (some (x1, h2)) h2) fun v3 h3 =>
 bnd (gD v1 true (r 109 [v2, v3] h3) h3) fun v4 h4 =>
 bnd (aM v1 v4 (.b false) h4) fun v5 h5 =>
 aS v5 (
   bCw r n kk5 x0 x1 x5 x6 h5) (
   bR r n x5 h5)
noncomputable def aAh (r : RT) (n : Nat) (m : Nat) : dM :=
 Nat.rec (motive := fun _ => dM) (fun _ _ _ _ _ => none) (fun _ ih => bPi r n ih) m
noncomputable def cGo (r : RT) (n : Nat) : dM := aAh r n n
noncomputable def bJz (r : RT) (n : Nat) (x0 x1 x5 x6 : DV) (h0 : Hp) : aH :=
 cGo r n x0 x1 x5 x6 h0
noncomputable def bQj (r : RT) (n : Nat) (x0 x1 x5 : DV) (h0 : Hp) : aH :=
 bnd (aQ x0 h0) fun v1 h1 =>
 bnd (aB 0 v1 h1) fun v2 h2 =>
 bnd (aA v2 h2) fun v3 h3 =>
 bnd (xI [v3] h3) fun v4 h4 =>
  bJz r n x0 x1 x5 v4 h4
noncomputable def bFd (r : RT) (n : Nat) (x0 x1 : DV) (h0 : Hp) : aH :=
 bQj r n x0 x1 .l0 h0
noncomputable def s55 (r : RT) (n : Nat) (x0 x1 : DV) (h0 : Hp) : aH :=
 bFd r n x0 x1 h0
noncomputable abbrev c55 : Code := cf Tryz.f55
noncomputable abbrev aWb : Code := cR c55
noncomputable abbrev aSm : Code := cR aWb
noncomputable abbrev cTe : Code := cR aSm
noncomputable abbrev aIp : Code := cL aSm
noncomputable abbrev bMm : Code := cR aIp
noncomputable abbrev aRr : Code := cL bMm
noncomputable abbrev lZ : Code := cL aRr
noncomputable abbrev aQp : Code := cR lZ
noncomputable abbrev cWk : Code := cR aQp
noncomputable abbrev aAc : Code := cL aQp
noncomputable abbrev aEc : Code := cL aAc
noncomputable abbrev yQ : Code := cR aEc
noncomputable abbrev aAn : Code := cR yQ
noncomputable abbrev cJg : Code := cR aAn
noncomputable abbrev tB : Code := cL aAn
noncomputable abbrev aJo : Code := cR tB
noncomputable abbrev aCe : Code := cL aJo
noncomputable abbrev kX : Code := cL aCe
noncomputable abbrev bNm : Code := cL tB
noncomputable abbrev bDi : Code := cL yQ
noncomputable abbrev bMn : Code := cL aEc
noncomputable abbrev bEa : Code := cL lZ
noncomputable abbrev bHo : Code := cL aIp
noncomputable abbrev bMi : Code := cL aWb
noncomputable abbrev bBy : Code := cL c55
noncomputable abbrev r55 : K := aO CF Tryz.f55
noncomputable def D55 (r : RT) (n : Nat) (c : Code) (X : Nat → K) (k : K) : K := aP CF r 59 n c X r55 k
theorem cRj : D55 r n cTe x0 r55 = (K1 (bR r n) 5) :=
 (by kernel_rfl)
theorem cPg (kk5 : dM) : D55 r n cWk (xs x0 0 (K1 (bR r n) 5)) (K4 kk5 0 1 5 6) = (K4 (cK r n kk5) 0 1 5 6) :=
 (by kernel_rfl)
theorem bUi (kk5 : dM) : D55 r n cJg (xs (xs x0 0 (K1 (bR r n) 5)) 1 (K4 (cK r n kk5) 0 1 5 6)) (K4 (cK r n kk5) 0 1 5 6) = (K5 (dN r n kk5) 0 1 5 6 7) :=
 (by kernel_rfl)
theorem bNk (kk5 : dM) (kk12 : TT8) (q0 : TT1) (q1 : dM) (q2 : bX) : D55 r n kX (xs (xs (xs x0 0 (K1 q0 5)) 1 (K4 q1 0 1 5 6)) 2 (K5 q2 0 1 5 6 7)) (K8 kk12 0 1 5 6 7 8 34 35) = fun (env : aU) (h : Hp) =>
 bnd (aD .lss (env 35) (env 34) h) fun v1 h1 =>
 aS v1 (
 bnd (r 53 [(env 0), (env 8), (env 35)] h1) fun v2 h2 =>
 bnd (r 13 [(env 0), v2] h2) fun v3 h3 =>
 bnd (aC 0 v3 h3) fun v4 h4 =>
 bnd (aC 1 v3 h4) fun v5 h5 =>
 bnd (aL [(.s [])] 1 [(0, 1, v4)] h5) fun v6 h6 =>
 bnd (aX 1 16 (env 7) v6 h6) fun v7 h7 =>
 bnd (aD .add (env 35) (aE 1) h7) fun v8 h8 =>
      kk12 (env 0) (env 1) (env 5) (env 6) v7 (env 8) (env 34) v8 h8) (
      q2 (env 0) (env 1) (env 5) (env 6) (env 7) h1) := by kernel_rfl
theorem aZg (kk5 : dM) (kk12 : TT8) : (fun (env : aU) (h : Hp) =>
 bnd (aD .lss (env 35) (env 34) h) fun v1 h1 =>
 aS v1 (
 bnd (r 53 [(env 0), (env 8), (env 35)] h1) fun v2 h2 =>
 bnd (r 13 [(env 0), v2] h2) fun v3 h3 =>
 bnd (aC 0 v3 h3) fun v4 h4 =>
 bnd (aC 1 v3 h4) fun v5 h5 =>
 bnd (aL [(.s [])] 1 [(0, 1, v4)] h5) fun v6 h6 =>
 bnd (aX 1 16 (env 7) v6 h6) fun v7 h7 =>
 bnd (aD .add (env 35) (aE 1) h7) fun v8 h8 =>
      kk12 (env 0) (env 1) (env 5) (env 6) v7 (env 8) (env 34) v8 h8) (
      dN r n kk5 (env 0) (env 1) (env 5) (env 6) (env 7) h1)) = (K8 (aDf r n kk5 kk12) 0 1 5 6 7 8 34 35) := by kernel_rfl
theorem bEx (kk5 : dM) (kk12 : TT8) : D55 r n kX (xs (xs (xs x0 0 (K1 (bR r n) 5)) 1 (K4 (cK r n kk5) 0 1 5 6)) 2 (K5 (dN r n kk5) 0 1 5 6 7)) (K8 kk12 0 1 5 6 7 8 34 35) = (K8 (aDf r n kk5 kk12) 0 1 5 6 7 8 34 35) :=
 (bNk r n kk5 kk12 (bR r n) (cK r n kk5) (dN r n kk5)).trans (aZg r n kk5 kk12)
theorem bBi (kk5 : dM) (m : Nat) : aN (fun kk => D55 r n kX (xs (xs (xs x0 0 (K1 (bR r n) 5)) 1 (K4 (cK r n kk5) 0 1 5 6)) 2 (K5 (dN r n kk5) 0 1 5 6 7)) kk) m = (K8 (qN r n kk5 m) 0 1 5 6 7 8 34 35) := by
 induction m with
 | zero => exact (by kernel_rfl : aN (fun kk => D55 r n kX (xs (xs (xs x0 0 (K1 (bR r n) 5)) 1 (K4 (cK r n kk5) 0 1 5 6)) 2 (K5 (dN r n kk5) 0 1 5 6 7)) kk) 0 = (K8 (qN r n kk5 0) 0 1 5 6 7 8 34 35))
 | succ m ih =>
  refine (by kernel_rfl : aN (fun kk => D55 r n kX (xs (xs (xs x0 0 (K1 (bR r n) 5)) 1 (K4 (cK r n kk5) 0 1 5 6)) 2 (K5 (dN r n kk5) 0 1 5 6 7)) kk) (m + 1) = D55 r n kX (xs (xs (xs x0 0 (K1 (bR r n) 5)) 1 (K4 (cK r n kk5) 0 1 5 6)) 2 (K5 (dN r n kk5) 0 1 5 6 7)) (aN (fun kk => D55 r n kX (xs (xs (xs x0 0 (K1 (bR r n) 5)) 1 (K4 (cK r n kk5) 0 1 5 6)) 2 (K5 (dN r n kk5) 0 1 5 6 7)) kk) m)).trans ?_
  rw [ih]
  exact (bEx r n kk5 (qN r n kk5 m)).trans (by kernel_rfl)
theorem cBa (kk5 : dM) : D55 r n aCe (xs (xs (xs x0 0 (K1 (bR r n) 5)) 1 (K4 (cK r n kk5) 0 1 5 6)) 2 (K5 (dN r n kk5) 0 1 5 6 7)) (K5 (dN r n kk5) 0 1 5 6 7) = (K8 (bRi r n kk5) 0 1 5 6 7 8 34 35) :=
 (by kernel_rfl : D55 r n aCe (xs (xs (xs x0 0 (K1 (bR r n) 5)) 1 (K4 (cK r n kk5) 0 1 5 6)) 2 (K5 (dN r n kk5) 0 1 5 6 7)) (K5 (dN r n kk5) 0 1 5 6 7) = aN (fun kk => D55 r n kX (xs (xs (xs x0 0 (K1 (bR r n) 5)) 1 (K4 (cK r n kk5) 0 1 5 6)) 2 (K5 (dN r n kk5) 0 1 5 6 7)) kk) n).trans ((bBi r n kk5 n).trans (by kernel_rfl))
theorem bZy (kk5 : dM) : D55 r n aJo (xs (xs x0 0 (K1 (bR r n) 5)) 1 (K4 (cK r n kk5) 0 1 5 6)) (K5 (dN r n kk5) 0 1 5 6 7) = (K8 (aMq r n kk5) 0 1 5 6 7 8 34 35) :=
 (by kernel_rfl : D55 r n aJo (xs (xs x0 0 (K1 (bR r n) 5)) 1 (K4 (cK r n kk5) 0 1 5 6)) (K5 (dN r n kk5) 0 1 5 6 7) = D55 r n aCe (xs (xs (xs x0 0 (K1 (bR r n) 5)) 1 (K4 (cK r n kk5) 0 1 5 6)) 2 (K5 (dN r n kk5) 0 1 5 6 7)) (K5 (dN r n kk5) 0 1 5 6 7)).trans
 ((cBa r n kk5).trans (by kernel_rfl))
theorem cBd (kk5 : dM) : D55 r n aAn (xs (xs x0 0 (K1 (bR r n) 5)) 1 (K4 (cK r n kk5) 0 1 5 6)) (K4 (cK r n kk5) 0 1 5 6) = D55 r n tB (xs (xs x0 0 (K1 (bR r n) 5)) 1 (K4 (cK r n kk5) 0 1 5 6)) (K5 (dN r n kk5) 0 1 5 6 7) :=
 congrArg (fun k => D55 r n tB (xs (xs x0 0 (K1 (bR r n) 5)) 1 (K4 (cK r n kk5) 0 1 5 6)) k) (bUi r n kk5)
theorem cEl (kk5 : dM) : D55 r n tB (xs (xs x0 0 (K1 (bR r n) 5)) 1 (K4 (cK r n kk5) 0 1 5 6)) (K5 (dN r n kk5) 0 1 5 6 7) = D55 r n bNm (xs (xs x0 0 (K1 (bR r n) 5)) 1 (K4 (cK r n kk5) 0 1 5 6)) (K8 (aMq r n kk5) 0 1 5 6 7 8 34 35) :=
 congrArg (fun k => D55 r n bNm (xs (xs x0 0 (K1 (bR r n) 5)) 1 (K4 (cK r n kk5) 0 1 5 6)) k) (bZy r n kk5)
theorem cHe (kk5 : dM) : D55 r n aAn (xs (xs x0 0 (K1 (bR r n) 5)) 1 (K4 (cK r n kk5) 0 1 5 6)) (K4 (cK r n kk5) 0 1 5 6) = (K6 (bPo r n kk5) 0 1 5 6 7 8) :=
 (cBd r n kk5).trans
 ((cEl r n kk5).trans
 ((by kernel_rfl)))
theorem bZe (kk5 : dM) : D55 r n yQ (xs (xs x0 0 (K1 (bR r n) 5)) 1 (K4 (cK r n kk5) 0 1 5 6)) (K4 (cK r n kk5) 0 1 5 6) = D55 r n bDi (xs (xs x0 0 (K1 (bR r n) 5)) 1 (K4 (cK r n kk5) 0 1 5 6)) (K6 (bPo r n kk5) 0 1 5 6 7 8) :=
 congrArg (fun k => D55 r n bDi (xs (xs x0 0 (K1 (bR r n) 5)) 1 (K4 (cK r n kk5) 0 1 5 6)) k) (cHe r n kk5)
theorem cQx (kk5 : dM) : D55 r n yQ (xs (xs x0 0 (K1 (bR r n) 5)) 1 (K4 (cK r n kk5) 0 1 5 6)) (K4 (cK r n kk5) 0 1 5 6) = (K5 (bQg r n kk5) 0 1 5 6 7) :=
 (bZe r n kk5).trans
 ((by kernel_rfl))
theorem bUw (kk5 : dM) : D55 r n aQp (xs x0 0 (K1 (bR r n) 5)) (K4 kk5 0 1 5 6) = D55 r n aAc (xs x0 0 (K1 (bR r n) 5)) (K4 (cK r n kk5) 0 1 5 6) :=
 congrArg (fun k => D55 r n aAc (xs x0 0 (K1 (bR r n) 5)) k) (cPg r n kk5)
theorem cCt (kk5 : dM) : D55 r n aEc (xs (xs x0 0 (K1 (bR r n) 5)) 1 (K4 (cK r n kk5) 0 1 5 6)) (K4 (cK r n kk5) 0 1 5 6) = D55 r n bMn (xs (xs x0 0 (K1 (bR r n) 5)) 1 (K4 (cK r n kk5) 0 1 5 6)) (K5 (bQg r n kk5) 0 1 5 6 7) :=
 congrArg (fun k => D55 r n bMn (xs (xs x0 0 (K1 (bR r n) 5)) 1 (K4 (cK r n kk5) 0 1 5 6)) k) (cQx r n kk5)
theorem cHq (kk5 : dM) : D55 r n aQp (xs x0 0 (K1 (bR r n) 5)) (K4 kk5 0 1 5 6) = (K4 (bCw r n kk5) 0 1 5 6) :=
 (bUw r n kk5).trans
 ((by kernel_rfl : D55 r n aAc (xs x0 0 (K1 (bR r n) 5)) (K4 (cK r n kk5) 0 1 5 6) = D55 r n aEc (xs (xs x0 0 (K1 (bR r n) 5)) 1 (K4 (cK r n kk5) 0 1 5 6)) (K4 (cK r n kk5) 0 1 5 6)).trans
 ((cCt r n kk5).trans
 ((by kernel_rfl))))
theorem cBw (kk5 : dM) : D55 r n lZ (xs x0 0 (K1 (bR r n) 5)) (K4 kk5 0 1 5 6) = D55 r n bEa (xs x0 0 (K1 (bR r n) 5)) (K4 (bCw r n kk5) 0 1 5 6) :=
 congrArg (fun k => D55 r n bEa (xs x0 0 (K1 (bR r n) 5)) k) (cHq r n kk5)
theorem bTw (kk5 : dM) : D55 r n lZ (xs x0 0 (K1 (bR r n) 5)) (K4 kk5 0 1 5 6) = (K4 (bPi r n kk5) 0 1 5 6) :=
 (cBw r n kk5).trans
 ((by kernel_rfl))
theorem bVx (m : Nat) : aN (fun kk => D55 r n lZ (xs x0 0 (K1 (bR r n) 5)) kk) m = (K4 (aAh r n m) 0 1 5 6) := by
 induction m with
 | zero => exact (by kernel_rfl : aN (fun kk => D55 r n lZ (xs x0 0 (K1 (bR r n) 5)) kk) 0 = (K4 (aAh r n 0) 0 1 5 6))
 | succ m ih =>
  refine (by kernel_rfl : aN (fun kk => D55 r n lZ (xs x0 0 (K1 (bR r n) 5)) kk) (m + 1) = D55 r n lZ (xs x0 0 (K1 (bR r n) 5)) (aN (fun kk => D55 r n lZ (xs x0 0 (K1 (bR r n) 5)) kk) m)).trans ?_
  rw [ih]
  exact (bTw r n (aAh r n m)).trans (by kernel_rfl)
theorem cHu : D55 r n aRr (xs x0 0 (K1 (bR r n) 5)) (K1 (bR r n) 5) = (K4 (cGo r n) 0 1 5 6) :=
 (by kernel_rfl : D55 r n aRr (xs x0 0 (K1 (bR r n) 5)) (K1 (bR r n) 5) = aN (fun kk => D55 r n lZ (xs x0 0 (K1 (bR r n) 5)) kk) n).trans ((bVx r n n).trans (by kernel_rfl))
theorem cLh : D55 r n bMm x0 (K1 (bR r n) 5) = (K4 (bJz r n) 0 1 5 6) :=
 (by kernel_rfl : D55 r n bMm x0 (K1 (bR r n) 5) = D55 r n aRr (xs x0 0 (K1 (bR r n) 5)) (K1 (bR r n) 5)).trans
 ((cHu r n).trans (by kernel_rfl))
theorem cDw : D55 r n aSm x0 r55 = D55 r n aIp x0 (K1 (bR r n) 5) :=
 congrArg (fun k => D55 r n aIp x0 k) (cRj r n)
theorem cCo : D55 r n aIp x0 (K1 (bR r n) 5) = D55 r n bHo x0 (K4 (bJz r n) 0 1 5 6) :=
 congrArg (fun k => D55 r n bHo x0 k) (cLh r n)
theorem cPz : D55 r n aSm x0 r55 = (K3 (bQj r n) 0 1 5) :=
 (cDw r n).trans
 ((cCo r n).trans
 ((by kernel_rfl)))
theorem bBa : D55 r n aWb x0 r55 = D55 r n bMi x0 (K3 (bQj r n) 0 1 5) :=
 congrArg (fun k => D55 r n bMi x0 k) (cPz r n)
theorem cRn : D55 r n aWb x0 r55 = (K2 (bFd r n) 0 1) :=
 (bBa r n).trans
 ((by kernel_rfl))
theorem cKe : D55 r n c55 x0 r55 = D55 r n bBy x0 (K2 (bFd r n) 0 1) :=
 congrArg (fun k => D55 r n bBy x0 k) (cRn r n)
theorem dDg : D55 r n c55 x0 r55 = (K2 (s55 r n) 0 1) :=
 (cKe r n).trans
 ((by kernel_rfl))
theorem cSm : aG CF r n 55 args h = s55 r n (aR args 0) (aR args 1) h :=
 (by kernel_rfl : aG CF r n 55 args h = D55 r n c55 x0 r55 (aJ args) h).trans ((congrFun (congrFun (dDg r n) (aJ args)) h).trans (by kernel_rfl))
noncomputable def s58 (r : RT) (n : Nat) (x0 x1 : DV) (h0 : Hp) : aH :=
 bnd (aQ x0 h0) fun v1 h1 =>
 bnd (aB 3 v1 h1) fun v2 h2 =>
 bnd (aA v2 h2) fun v3 h3 =>
 bnd (dV .string (aE 0) false v3 x1 h3) fun v4 h4 =>
 some (v4, h4)
noncomputable abbrev c58 : Code := cf Tryz.f58
noncomputable abbrev r58 : K := aO CF Tryz.f58
noncomputable def D58 (r : RT) (n : Nat) (c : Code) (X : Nat → K) (k : K) : K := aP CF r 11 n c X r58 k
theorem dAm : D58 r n c58 x0 r58 = (K2 (s58 r n) 0 1) :=
 (by kernel_rfl)
theorem cVj : aG CF r n 58 args h = s58 r n (aR args 0) (aR args 1) h :=
 (by kernel_rfl : aG CF r n 58 args h = D58 r n c58 x0 r58 (aJ args) h).trans ((congrFun (congrFun (dAm r n) (aJ args)) h).trans (by kernel_rfl))
noncomputable def fR (r : RT) (n : Nat) (x10 : DV) (h0 : Hp) : aH :=
 some (.t [x10, (aE 0)], h0)
noncomputable def oV (r : RT) (n : Nat) (kk6 : bX) (x0 x10 x29 x30 x31 : DV) (h0 : Hp) : aH :=
 bnd (aD .lss x31 x30 h0) fun v1 h1 =>
 aS v1 (
 bnd (aI 1 x29 x31 h1) fun v2 h2 =>
 bnd (aA v2 h2) fun v3 h3 =>
 bnd (aQ x0 h3) fun v4 h4 =>
 bnd (aB 0 v4 h4) fun v5 h5 =>
 bnd (aA v5 h5) fun v6 h6 =>
 bnd (wQ [v6, x10, x31, v3] h6) fun v7 h7 =>
 bnd (aD .add x31 (aE 1) h7) fun v8 h8 =>
      kk6 x0 x10 x29 x30 v8 h8) (
      fR r n x10 h1)
noncomputable def mF (r : RT) (n : Nat) (m : Nat) : bX :=
 Nat.rec (motive := fun _ => bX) (fun _ _ _ _ _ _ => none) (fun _ ih => oV r n ih) m
noncomputable def bQk (r : RT) (n : Nat) : bX := mF r n n
noncomputable def aQe (r : RT) (n : Nat) (x0 x10 x29 x30 x31 : DV) (h0 : Hp) : aH :=
 bQk r n x0 x10 x29 x30 x31 h0
noncomputable def aWl (r : RT) (n : Nat) (x0 x3 x10 : DV) (h0 : Hp) : aH :=
 bnd (bS x3 h0) fun v1 h1 =>
  aQe r n x0 x10 x3 v1 (aE 0) h1
noncomputable def aQj (r : RT) (n : Nat) (x0 x3 x10 x11 : DV) (h0 : Hp) : aH :=
 bnd (aD .neq x11 (aE 0) h0) fun v1 h1 =>
 aS v1 (
 some (.t [(aE 0), x11], h1)) (
  aWl r n x0 x3 x10 h1)
noncomputable def aSk (r : RT) (n : Nat) (x0 x1 x2 x3 : DV) (h0 : Hp) : aH :=
 bnd (aQ x0 h0) fun v1 h1 =>
 bnd (aB 0 v1 h1) fun v2 h2 =>
 bnd (aA v2 h2) fun v3 h3 =>
 bnd (bS x3 h3) fun v4 h4 =>
 bnd (mD [v3, x1, x2, v4] h4) fun v5 h5 =>
 bnd (aC 0 v5 h5) fun v6 h6 =>
 bnd (aC 1 v5 h6) fun v7 h7 =>
  aQj r n x0 x3 v6 v7 h7
noncomputable def s61 (r : RT) (n : Nat) (x0 x1 x2 x3 : DV) (h0 : Hp) : aH :=
 aSk r n x0 x1 x2 x3 h0
noncomputable abbrev c61 : Code := cf Tryz.f61
noncomputable abbrev aWp : Code := cR c61
noncomputable abbrev aRo : Code := cR aWp
noncomputable abbrev aWc : Code := cR aRo
noncomputable abbrev cWv : Code := cR aWc
noncomputable abbrev aIv : Code := cL aWc
noncomputable abbrev bPq : Code := cR aIv
noncomputable abbrev aSs : Code := cL bPq
noncomputable abbrev vH : Code := cL aSs
noncomputable abbrev cGe : Code := cL aIv
noncomputable abbrev bQy : Code := cL aRo
noncomputable abbrev bOn : Code := cL aWp
noncomputable abbrev bBl : Code := cL c61
noncomputable abbrev r61 : K := aO CF Tryz.f61
noncomputable def D61 (r : RT) (n : Nat) (c : Code) (X : Nat → K) (k : K) : K := aP CF r 46 n c X r61 k
theorem cKi : D61 r n cWv x0 r61 = (K1 (fR r n) 10) :=
 (by kernel_rfl)
theorem cEw (kk6 : bX) : D61 r n vH (xs x0 0 (K1 (fR r n) 10)) (K5 kk6 0 10 29 30 31) = (K5 (oV r n kk6) 0 10 29 30 31) :=
 (by kernel_rfl)
theorem bTp (m : Nat) : aN (fun kk => D61 r n vH (xs x0 0 (K1 (fR r n) 10)) kk) m = (K5 (mF r n m) 0 10 29 30 31) := by
 induction m with
 | zero => exact (by kernel_rfl : aN (fun kk => D61 r n vH (xs x0 0 (K1 (fR r n) 10)) kk) 0 = (K5 (mF r n 0) 0 10 29 30 31))
 | succ m ih =>
  refine (by kernel_rfl : aN (fun kk => D61 r n vH (xs x0 0 (K1 (fR r n) 10)) kk) (m + 1) = D61 r n vH (xs x0 0 (K1 (fR r n) 10)) (aN (fun kk => D61 r n vH (xs x0 0 (K1 (fR r n) 10)) kk) m)).trans ?_
  rw [ih]
  exact (cEw r n (mF r n m)).trans (by kernel_rfl)
theorem cKd : D61 r n aSs (xs x0 0 (K1 (fR r n) 10)) (K1 (fR r n) 10) = (K5 (bQk r n) 0 10 29 30 31) :=
 (by kernel_rfl : D61 r n aSs (xs x0 0 (K1 (fR r n) 10)) (K1 (fR r n) 10) = aN (fun kk => D61 r n vH (xs x0 0 (K1 (fR r n) 10)) kk) n).trans ((bTp r n n).trans (by kernel_rfl))
theorem cIn : D61 r n bPq x0 (K1 (fR r n) 10) = (K5 (aQe r n) 0 10 29 30 31) :=
 (by kernel_rfl : D61 r n bPq x0 (K1 (fR r n) 10) = D61 r n aSs (xs x0 0 (K1 (fR r n) 10)) (K1 (fR r n) 10)).trans
 ((cKd r n).trans (by kernel_rfl))
theorem cBy : D61 r n aWc x0 r61 = D61 r n aIv x0 (K1 (fR r n) 10) :=
 congrArg (fun k => D61 r n aIv x0 k) (cKi r n)
theorem bYq : D61 r n aIv x0 (K1 (fR r n) 10) = D61 r n cGe x0 (K5 (aQe r n) 0 10 29 30 31) :=
 congrArg (fun k => D61 r n cGe x0 k) (cIn r n)
theorem cNy : D61 r n aWc x0 r61 = (K3 (aWl r n) 0 3 10) :=
 (cBy r n).trans
 ((bYq r n).trans
 ((by kernel_rfl)))
theorem cEe : D61 r n aRo x0 r61 = D61 r n bQy x0 (K3 (aWl r n) 0 3 10) :=
 congrArg (fun k => D61 r n bQy x0 k) (cNy r n)
theorem cIh : D61 r n aRo x0 r61 = (K4 (aQj r n) 0 3 10 11) :=
 (cEe r n).trans
 ((by kernel_rfl))
theorem bWv : D61 r n aWp x0 r61 = D61 r n bOn x0 (K4 (aQj r n) 0 3 10 11) :=
 congrArg (fun k => D61 r n bOn x0 k) (cIh r n)
theorem cQk : D61 r n aWp x0 r61 = (K4 (aSk r n) 0 1 2 3) :=
 (bWv r n).trans
 ((by kernel_rfl))
theorem cWa : D61 r n c61 x0 r61 = D61 r n bBl x0 (K4 (aSk r n) 0 1 2 3) :=
 congrArg (fun k => D61 r n bBl x0 k) (cQk r n)
theorem dCh : D61 r n c61 x0 r61 = (K4 (s61 r n) 0 1 2 3) :=
 (cWa r n).trans
 ((by kernel_rfl))
theorem cGv : aG CF r n 61 args h = s61 r n (aR args 0) (aR args 1) (aR args 2) (aR args 3) h :=
 (by kernel_rfl : aG CF r n 61 args h = D61 r n c61 x0 r61 (aJ args) h).trans ((congrFun (congrFun (dCh r n) (aJ args)) h).trans (by kernel_rfl))
noncomputable def s65 (r : RT) (n : Nat) (x0 x1 : DV) (h0 : Hp) : aH :=
 bnd (bU x0 h0) fun v1 h1 =>
 bnd (aK 6 v1 h1) fun v2 h2 =>
 bnd (r 114 [v2, x1] h2) fun v3 h3 =>
 bnd (aC 0 v3 h3) fun v4 h4 =>
 bnd (aC 1 v3 h4) fun v5 h5 =>
 some (v5, h5)
noncomputable abbrev c65 : Code := cf Tryz.f65
noncomputable abbrev r65 : K := aO CF Tryz.f65
noncomputable def D65 (r : RT) (n : Nat) (c : Code) (X : Nat → K) (k : K) : K := aP CF r 14 n c X r65 k
theorem cZk : D65 r n c65 x0 r65 = (K2 (s65 r n) 0 1) :=
 (by kernel_rfl)
theorem cVa : aG CF r n 65 args h = s65 r n (aR args 0) (aR args 1) h :=
 (by kernel_rfl : aG CF r n 65 args h = D65 r n c65 x0 r65 (aJ args) h).trans ((congrFun (congrFun (cZk r n) (aJ args)) h).trans (by kernel_rfl))
noncomputable def fJ (r : RT) (n : Nat) (x0 x6 : DV) (h0 : Hp) : aH :=
 bnd (r 45 [x0, x6] h0) fun v1 h1 =>
 bnd (aC 0 v1 h1) fun v2 h2 =>
 bnd (aC 1 v1 h2) fun v3 h3 =>
 some (.t [v2, v3], h3)
noncomputable def aNn (r : RT) (n : Nat) (kk6 : bX) (x0 x6 x38 x39 x40 : DV) (h0 : Hp) : aH :=
 bnd (aD .lss x40 x39 h0) fun v1 h1 =>
 aS v1 (
 bnd (aI 4 x38 x40 h1) fun v2 h2 =>
 bnd (aK 4 v2 h2) fun v3 h3 =>
 bnd (bI [(aE 0), (.s []), (aE 0), .l0] h3) fun v4 h4 =>
 bnd (aF 4 v4 v3 h4) fun _ h5 =>
 bnd (aK 4 v4 h5) fun v6 h6 =>
 bnd (r 66 [x0, v6] h6) fun v7 h7 =>
 bnd (aC 0 v7 h7) fun v8 h8 =>
 bnd (aC 1 v7 h8) fun v9 h9 =>
 bnd (aD .neq v9 (aE 0) h9) fun v10 h10 =>
 aS v10 (
 some (.t [(aE 0), v9], h10)) (
 bnd (aL [(aE 0)] 1 [(0, 1, v8)] h10) fun v11 h11 =>
 bnd (aX 1 8 x6 v11 h11) fun v12 h12 =>
 bnd (aD .add x40 (aE 1) h12) fun v13 h13 =>
    kk6 x0 v12 x38 x39 v13 h13)) (
      fJ r n x0 x6 h1)
noncomputable def aGh (r : RT) (n : Nat) (m : Nat) : bX :=
 Nat.rec (motive := fun _ => bX) (fun _ _ _ _ _ _ => none) (fun _ ih => aNn r n ih) m
noncomputable def cGs (r : RT) (n : Nat) : bX := aGh r n n
noncomputable def bHm (r : RT) (n : Nat) (x0 x6 x38 x39 x40 : DV) (h0 : Hp) : aH :=
 cGs r n x0 x6 x38 x39 x40 h0
noncomputable def bPc (r : RT) (n : Nat) (x0 x3 x6 : DV) (h0 : Hp) : aH :=
 bnd (aB 3 x3 h0) fun v1 h1 =>
 bnd (aA v1 h1) fun v2 h2 =>
 bnd (bS v2 h2) fun v3 h3 =>
  bHm r n x0 x6 v2 v3 (aE 0) h3
noncomputable def bEl (r : RT) (n : Nat) (x0 x3 : DV) (h0 : Hp) : aH :=
 bPc r n x0 x3 .l0 h0
noncomputable def aHx (r : RT) (n : Nat) (x0 x3 : DV) (h0 : Hp) : aH :=
 bnd (aB 0 x3 h0) fun v1 h1 =>
 bnd (aA v1 h1) fun v2 h2 =>
 bnd (aD .eql v2 (aE 1) h2) fun v3 h3 =>
 aS v3 (
 bnd (aB 2 x3 h3) fun v4 h4 =>
 bnd (aA v4 h4) fun v5 h5 =>
 bnd (r 17 [x0, v5] h5) fun v6 h6 =>
 bnd (aC 0 v6 h6) fun v7 h7 =>
 bnd (aC 1 v6 h7) fun v8 h8 =>
 some (.t [v7, v8], h8)) (
 bnd (aD .eql v2 (aE 2) h3) fun v9 h9 =>
 aS v9 (
 bnd (aB 1 x3 h9) fun v10 h10 =>
 bnd (aA v10 h10) fun v11 h11 =>
 bnd (r 12 [x0, v11] h11) fun v12 h12 =>
 bnd (aC 0 v12 h12) fun v13 h13 =>
 bnd (aC 1 v12 h13) fun v14 h14 =>
 some (.t [v13, v14], h14)) (
 bnd (aD .eql v2 (aE 3) h9) fun v15 h15 =>
 aS v15 (
 bnd (aB 1 x3 h15) fun v16 h16 =>
 bnd (aA v16 h16) fun v17 h17 =>
 bnd (r 11 [x0, v17] h17) fun v18 h18 =>
 bnd (aC 0 v18 h18) fun v19 h19 =>
 bnd (aC 1 v18 h19) fun v20 h20 =>
 some (.t [v19, v20], h20)) (
    bEl r n x0 x3 h15)))
noncomputable def s66 (r : RT) (n : Nat) (x0 x1 : DV) (h0 : Hp) : aH :=
 bnd (bU x1 h0) fun v1 h1 =>
  aHx r n x0 v1 h1
noncomputable abbrev c66 : Code := cf Tryz.f66
noncomputable abbrev aSv : Code := cR c66
noncomputable abbrev aQv : Code := cR aSv
noncomputable abbrev aQd : Code := cR aQv
noncomputable abbrev cUv : Code := cR aQd
noncomputable abbrev aIb : Code := cL aQd
noncomputable abbrev bQz : Code := cR aIb
noncomputable abbrev aTk : Code := cL bQz
noncomputable abbrev qD : Code := cL aTk
noncomputable abbrev cGq : Code := cL aIb
noncomputable abbrev bPl : Code := cL aQv
noncomputable abbrev bGh : Code := cL aSv
noncomputable abbrev aMx : Code := cL c66
noncomputable abbrev r66 : K := aO CF Tryz.f66
noncomputable def D66 (r : RT) (n : Nat) (c : Code) (X : Nat → K) (k : K) : K := aP CF r 63 n c X r66 k
theorem cPq : D66 r n cUv x0 r66 = (K2 (fJ r n) 0 6) :=
 (by kernel_rfl)
theorem bYn (kk6 : bX) (q0 : gF) : D66 r n qD (xs x0 1 (K2 q0 0 6)) (K5 kk6 0 6 38 39 40) = fun (env : aU) (h : Hp) =>
 bnd (aD .lss (env 40) (env 39) h) fun v1 h1 =>
 aS v1 (
 bnd (aI 4 (env 38) (env 40) h1) fun v2 h2 =>
 bnd (aK 4 v2 h2) fun v3 h3 =>
 bnd (bI [(aE 0), (.s []), (aE 0), .l0] h3) fun v4 h4 =>
 bnd (aF 4 v4 v3 h4) fun _ h5 =>
 bnd (aK 4 v4 h5) fun v6 h6 =>
 bnd (r 66 [(env 0), v6] h6) fun v7 h7 =>
 bnd (aC 0 v7 h7) fun v8 h8 =>
 bnd (aC 1 v7 h8) fun v9 h9 =>
 bnd (aD .neq v9 (aE 0) h9) fun v10 h10 =>
 aS v10 (
 some (.t [(aE 0), v9], h10)) (
 bnd (aL [(aE 0)] 1 [(0, 1, v8)] h10) fun v11 h11 =>
 bnd (aX 1 8 (env 6) v11 h11) fun v12 h12 =>
 bnd (aD .add (env 40) (aE 1) h12) fun v13 h13 =>
    kk6 (env 0) v12 (env 38) (env 39) v13 h13)) (
      q0 (env 0) (env 6) h1) := by kernel_rfl
theorem bFp (kk6 : bX) : (fun (env : aU) (h : Hp) =>
 bnd (aD .lss (env 40) (env 39) h) fun v1 h1 =>
 aS v1 (
 bnd (aI 4 (env 38) (env 40) h1) fun v2 h2 =>
 bnd (aK 4 v2 h2) fun v3 h3 =>
 bnd (bI [(aE 0), (.s []), (aE 0), .l0] h3) fun v4 h4 =>
 bnd (aF 4 v4 v3 h4) fun _ h5 =>
 bnd (aK 4 v4 h5) fun v6 h6 =>
 bnd (r 66 [(env 0), v6] h6) fun v7 h7 =>
 bnd (aC 0 v7 h7) fun v8 h8 =>
 bnd (aC 1 v7 h8) fun v9 h9 =>
 bnd (aD .neq v9 (aE 0) h9) fun v10 h10 =>
 aS v10 (
 some (.t [(aE 0), v9], h10)) (
 bnd (aL [(aE 0)] 1 [(0, 1, v8)] h10) fun v11 h11 =>
 bnd (aX 1 8 (env 6) v11 h11) fun v12 h12 =>
 bnd (aD .add (env 40) (aE 1) h12) fun v13 h13 =>
    kk6 (env 0) v12 (env 38) (env 39) v13 h13)) (
      fJ r n (env 0) (env 6) h1)) = (K5 (aNn r n kk6) 0 6 38 39 40) := by kernel_rfl
theorem cFu (kk6 : bX) : D66 r n qD (xs x0 1 (K2 (fJ r n) 0 6)) (K5 kk6 0 6 38 39 40) = (K5 (aNn r n kk6) 0 6 38 39 40) :=
 (bYn r n kk6 (fJ r n)).trans (bFp r n kk6)
theorem bUx (m : Nat) : aN (fun kk => D66 r n qD (xs x0 1 (K2 (fJ r n) 0 6)) kk) m = (K5 (aGh r n m) 0 6 38 39 40) := by
 induction m with
 | zero => exact (by kernel_rfl : aN (fun kk => D66 r n qD (xs x0 1 (K2 (fJ r n) 0 6)) kk) 0 = (K5 (aGh r n 0) 0 6 38 39 40))
 | succ m ih =>
  refine (by kernel_rfl : aN (fun kk => D66 r n qD (xs x0 1 (K2 (fJ r n) 0 6)) kk) (m + 1) = D66 r n qD (xs x0 1 (K2 (fJ r n) 0 6)) (aN (fun kk => D66 r n qD (xs x0 1 (K2 (fJ r n) 0 6)) kk) m)).trans ?_
  rw [ih]
  exact (cFu r n (aGh r n m)).trans (by kernel_rfl)
theorem cLq : D66 r n aTk (xs x0 1 (K2 (fJ r n) 0 6)) (K2 (fJ r n) 0 6) = (K5 (cGs r n) 0 6 38 39 40) :=
 (by kernel_rfl : D66 r n aTk (xs x0 1 (K2 (fJ r n) 0 6)) (K2 (fJ r n) 0 6) = aN (fun kk => D66 r n qD (xs x0 1 (K2 (fJ r n) 0 6)) kk) n).trans ((bUx r n n).trans (by kernel_rfl))
theorem cQw : D66 r n bQz x0 (K2 (fJ r n) 0 6) = (K5 (bHm r n) 0 6 38 39 40) :=
 (by kernel_rfl : D66 r n bQz x0 (K2 (fJ r n) 0 6) = D66 r n aTk (xs x0 1 (K2 (fJ r n) 0 6)) (K2 (fJ r n) 0 6)).trans
 ((cLq r n).trans (by kernel_rfl))
theorem bXl : D66 r n aQd x0 r66 = D66 r n aIb x0 (K2 (fJ r n) 0 6) :=
 congrArg (fun k => D66 r n aIb x0 k) (cPq r n)
theorem bZp : D66 r n aIb x0 (K2 (fJ r n) 0 6) = D66 r n cGq x0 (K5 (bHm r n) 0 6 38 39 40) :=
 congrArg (fun k => D66 r n cGq x0 k) (cQw r n)
theorem cMc : D66 r n aQd x0 r66 = (K3 (bPc r n) 0 3 6) :=
 (bXl r n).trans
 ((bZp r n).trans
 ((by kernel_rfl)))
theorem bWi : D66 r n aQv x0 r66 = D66 r n bPl x0 (K3 (bPc r n) 0 3 6) :=
 congrArg (fun k => D66 r n bPl x0 k) (cMc r n)
theorem cNo : D66 r n aQv x0 r66 = (K2 (bEl r n) 0 3) :=
 (bWi r n).trans
 ((by kernel_rfl))
theorem bVw : D66 r n aSv x0 r66 = D66 r n bGh x0 (K2 (bEl r n) 0 3) :=
 congrArg (fun k => D66 r n bGh x0 k) (cNo r n)
theorem cJo : D66 r n aSv x0 r66 = (K2 (aHx r n) 0 3) :=
 (bVw r n).trans
 ((by kernel_rfl))
theorem cSi : D66 r n c66 x0 r66 = D66 r n aMx x0 (K2 (aHx r n) 0 3) :=
 congrArg (fun k => D66 r n aMx x0 k) (cJo r n)
theorem cYo (q0 : gF) : D66 r n aMx x0 (K2 q0 0 3) = fun (env : aU) (h : Hp) =>
 bnd (bU (env 1) h) fun v1 h1 =>
  q0 (env 0) v1 h1 := by kernel_rfl
theorem cMn : (fun (env : aU) (h : Hp) =>
 bnd (bU (env 1) h) fun v1 h1 =>
  aHx r n (env 0) v1 h1) = (K2 (s66 r n) 0 1) := by kernel_rfl
theorem dAl : D66 r n c66 x0 r66 = (K2 (s66 r n) 0 1) :=
 (cSi r n).trans
 ((cYo r n (aHx r n)).trans (cMn r n))
theorem cYg : aG CF r n 66 args h = s66 r n (aR args 0) (aR args 1) h :=
 (by kernel_rfl : aG CF r n 66 args h = D66 r n c66 x0 r66 (aJ args) h).trans ((congrFun (congrFun (dAl r n) (aJ args)) h).trans (by kernel_rfl))
noncomputable def s74 (r : RT) (n : Nat) (x0 x1 : DV) (h0 : Hp) : aH :=
 bnd (aD .eql x1 (aE 0) h0) fun v1 h1 =>
 bnd (gD v1 false (some (x0, h1)) h1) fun v2 h2 =>
 bnd (gD v1 false (some (x1, h2)) h2) fun v3 h3 =>
 bnd (gD v1 false (isF [v2, v3] h3) h3) fun v4 h4 =>
 bnd (aM v1 (.b true) v4 h4) fun v5 h5 =>
 some (v5, h5)
noncomputable abbrev c74 : Code := cf Tryz.f74
noncomputable abbrev r74 : K := aO CF Tryz.f74
noncomputable def D74 (r : RT) (n : Nat) (c : Code) (X : Nat → K) (k : K) : K := aP CF r 12 n c X r74 k
theorem dDc : D74 r n c74 x0 r74 = (K2 (s74 r n) 0 1) :=
 (by kernel_rfl)
theorem cTk : aG CF r n 74 args h = s74 r n (aR args 0) (aR args 1) h :=
 (by kernel_rfl : aG CF r n 74 args h = D74 r n c74 x0 r74 (aJ args) h).trans ((congrFun (congrFun (dDc r n) (aJ args)) h).trans (by kernel_rfl))
noncomputable def s75 (r : RT) (n : Nat) (x0 : DV) (h0 : Hp) : aH :=
 bnd (r 108 [x0, (aE 3), (aE 131072)] h0) fun v1 h1 =>
 bnd (gG .not v1 h1) fun v2 h2 =>
 aS v2 (
 some (.t [(aE 0), (.b false)], h2)) (
 bnd (cV .shl x0 (.i .u64 (Int.ofNat 1)) h2) fun v3 h3 =>
 some (.t [v3, (.b true)], h3))
noncomputable abbrev c75 : Code := cf Tryz.f75
noncomputable abbrev r75 : K := aO CF Tryz.f75
noncomputable def D75 (r : RT) (n : Nat) (c : Code) (X : Nat → K) (k : K) : K := aP CF r 9 n c X r75 k
theorem cZd : D75 r n c75 x0 r75 = (K1 (s75 r n) 0) :=
 (by kernel_rfl)
theorem cWh : aG CF r n 75 args h = s75 r n (aR args 0) h :=
 (by kernel_rfl : aG CF r n 75 args h = D75 r n c75 x0 r75 (aJ args) h).trans ((congrFun (congrFun (cZd r n) (aJ args)) h).trans (by kernel_rfl))
end Go.Dd

namespace Go.Dd
open Go.Proofs
variable (r : RT) (n : Nat) (args : List DV) (h : Hp)
noncomputable def s86 (r : RT) (n : Nat) (x0 : DV) (h0 : Hp) : aH :=
 bnd (bI gC h0) fun v1 h1 =>
 bnd (r 120 [x0, (.f 121 [] [])] h1) fun v2 h2 =>
 bnd (aC 0 v2 h2) fun v3 h3 =>
 bnd (aC 1 v2 h3) fun v4 h4 =>
 bnd (aC 2 v2 h4) fun v5 h5 =>
 bnd (aF 6 v1 v3 h5) fun _ h6 =>
 bnd (aK 6 v1 h6) fun v7 _ =>
 some (.t [v7, v4, v5], h6)
noncomputable abbrev c86 : Code := cf Tryz.f86
noncomputable abbrev r86 : K := aO CF Tryz.f86
noncomputable def D86 (r : RT) (n : Nat) (c : Code) (X : Nat → K) (k : K) : K := aP CF r 10 n c X r86 k
theorem dCy : D86 r n c86 x0 r86 = (K1 (s86 r n) 0) :=
 (by kernel_rfl)
theorem cUt : aG CF r n 86 args h = s86 r n (aR args 0) h :=
 (by kernel_rfl : aG CF r n 86 args h = D86 r n c86 x0 r86 (aJ args) h).trans ((congrFun (congrFun (dCy r n) (aJ args)) h).trans (by kernel_rfl))
noncomputable def s87 (r : RT) (n : Nat) (x0 x1 : DV) (h0 : Hp) : aH :=
 bnd (bU x0 h0) fun v1 h1 =>
 bnd (bI [(.s []), (aE 0), (aE 0), (aE 0), .l0, .l0] h1) fun v2 h2 =>
 bnd (aK 6 v1 h2) fun v3 h3 =>
 bnd (r 122 [v3, x1, (.b false)] h3) fun v4 h4 =>
 bnd (aC 0 v4 h4) fun v5 h5 =>
 bnd (aC 1 v4 h5) fun v6 h6 =>
 bnd (aC 2 v4 h6) fun v7 h7 =>
 bnd (aF 6 v2 v5 h7) fun _ h8 =>
 bnd (aK 6 v2 h8) fun v9 _ =>
 some (.t [v9, v6, v7], h8)
noncomputable abbrev c87 : Code := cf Tryz.f87
noncomputable abbrev r87 : K := aO CF Tryz.f87
noncomputable def D87 (r : RT) (n : Nat) (c : Code) (X : Nat → K) (k : K) : K := aP CF r 13 n c X r87 k
theorem cZs : D87 r n c87 x0 r87 = (K2 (s87 r n) 0 1) :=
 (by kernel_rfl)
theorem cVu : aG CF r n 87 args h = s87 r n (aR args 0) (aR args 1) h :=
 (by kernel_rfl : aG CF r n 87 args h = D87 r n c87 x0 r87 (aJ args) h).trans ((congrFun (congrFun (cZs r n) (aJ args)) h).trans (by kernel_rfl))
noncomputable def s88 (r : RT) (n : Nat) (x0 x1 x2 : DV) (h0 : Hp) : aH :=
 bnd (bU x2 h0) fun v1 h1 =>
 bnd (aK 6 v1 h1) fun v2 h2 =>
 bnd (r 123 [x0, x1, v2] h2) fun v3 h3 =>
 bnd (aC 0 v3 h3) fun v4 h4 =>
 bnd (aC 1 v3 h4) fun v5 h5 =>
 bnd (aD .neq v5 (aE 0) h5) fun v6 h6 =>
 aS v6 (
 some (.t [(aE 0), v5], h6)) (
 bnd (r 53 [x0, v4, (aE 0)] h6) fun v7 h7 =>
 bnd (r 124 [x0, x1, v7, v4] h7) fun v8 h8 =>
 bnd (aD .neq v8 (aE 0) h8) fun v9 h9 =>
 aS v9 (
 some (.t [(aE 0), v8], h9)) (
 some (.t [v4, (aE 0)], h9)))
noncomputable abbrev c88 : Code := cf Tryz.f88
noncomputable abbrev r88 : K := aO CF Tryz.f88
noncomputable def D88 (r : RT) (n : Nat) (c : Code) (X : Nat → K) (k : K) : K := aP CF r 32 n c X r88 k
theorem dCj : D88 r n c88 x0 r88 = (K3 (s88 r n) 0 1 2) :=
 (by kernel_rfl)
theorem cSw : aG CF r n 88 args h = s88 r n (aR args 0) (aR args 1) (aR args 2) h :=
 (by kernel_rfl : aG CF r n 88 args h = D88 r n c88 x0 r88 (aJ args) h).trans ((congrFun (congrFun (dCj r n) (aJ args)) h).trans (by kernel_rfl))
noncomputable def s92 (r : RT) (n : Nat) (x0 x1 : DV) (h0 : Hp) : aH :=
 bnd (r 109 [x0, x1] h0) fun v1 h1 =>
 bnd (gG .not v1 h1) fun v2 h2 =>
 aS v2 (
 some ((aE 0), h2)) (
 bnd (r 53 [x0, x1, (aE 2)] h2) fun v3 h3 =>
 bnd (kT [v3] h3) fun v4 h4 =>
 some (v4, h4))
noncomputable abbrev c92 : Code := cf Tryz.f92
noncomputable abbrev r92 : K := aO CF Tryz.f92
noncomputable def D92 (r : RT) (n : Nat) (c : Code) (X : Nat → K) (k : K) : K := aP CF r 13 n c X r92 k
theorem dAp : D92 r n c92 x0 r92 = (K2 (s92 r n) 0 1) :=
 (by kernel_rfl)
theorem cUu : aG CF r n 92 args h = s92 r n (aR args 0) (aR args 1) h :=
 (by kernel_rfl : aG CF r n 92 args h = D92 r n c92 x0 r92 (aJ args) h).trans ((congrFun (congrFun (dAp r n) (aJ args)) h).trans (by kernel_rfl))
noncomputable def s93 (r : RT) (n : Nat) (x0 x1 : DV) (h0 : Hp) : aH :=
 bnd (r 109 [x0, x1] h0) fun v1 h1 =>
 bnd (gG .not v1 h1) fun v2 h2 =>
 aS v2 (
 some ((aE 0), h2)) (
 bnd (r 53 [x0, x1, (aE 1)] h2) fun v3 h3 =>
 some (v3, h3))
noncomputable abbrev c93 : Code := cf Tryz.f93
noncomputable abbrev r93 : K := aO CF Tryz.f93
noncomputable def D93 (r : RT) (n : Nat) (c : Code) (X : Nat → K) (k : K) : K := aP CF r 12 n c X r93 k
theorem dBv : D93 r n c93 x0 r93 = (K2 (s93 r n) 0 1) :=
 (by kernel_rfl)
theorem cWn : aG CF r n 93 args h = s93 r n (aR args 0) (aR args 1) h :=
 (by kernel_rfl : aG CF r n 93 args h = D93 r n c93 x0 r93 (aJ args) h).trans ((congrFun (congrFun (dBv r n) (aJ args)) h).trans (by kernel_rfl))
noncomputable def s97 (r : RT) (n : Nat) (x0 x1 : DV) (h0 : Hp) : aH :=
 bnd (r 135 [x0, x1] h0) fun v1 h1 =>
 bnd (aD .geq v1 (aE 0) h1) fun v2 h2 =>
 some (v2, h2)
noncomputable abbrev c97 : Code := cf Tryz.f97
noncomputable abbrev r97 : K := aO CF Tryz.f97
noncomputable def D97 (r : RT) (n : Nat) (c : Code) (X : Nat → K) (k : K) : K := aP CF r 9 n c X r97 k
theorem dCv : D97 r n c97 x0 r97 = (K2 (s97 r n) 0 1) :=
 (by kernel_rfl)
theorem cUx : aG CF r n 97 args h = s97 r n (aR args 0) (aR args 1) h :=
 (by kernel_rfl : aG CF r n 97 args h = D97 r n c97 x0 r97 (aJ args) h).trans ((congrFun (congrFun (dCv r n) (aJ args)) h).trans (by kernel_rfl))
noncomputable def s106 (r : RT) (n : Nat) (x0 x1 : DV) (h0 : Hp) : aH :=
 bnd (aA x1 h0) fun v1 h1 =>
 bnd (aQ v1 h1) fun v2 h2 =>
 bnd (aB 0 v2 h2) fun v3 h3 =>
 bnd (aA v3 h3) fun v4 h4 =>
 bnd (bAx [v4, x0] h4) fun v5 h5 =>
 bnd (gG .not v5 h5) fun v6 h6 =>
 some (v6, h6)
noncomputable abbrev c106 : Code := cf Tryz.f106
noncomputable abbrev r106 : K := aO CF Tryz.f106
noncomputable def D106 (r : RT) (n : Nat) (c : Code) (X : Nat → K) (k : K) : K := aP CF r 11 n c X r106 k
theorem cTj : D106 r n c106 x0 r106 = (K2 (s106 r n) 0 1) :=
 (by kernel_rfl)
theorem cPt : aG CF r n 106 args h = s106 r n (aR args 0) (aR args 1) h :=
 (by kernel_rfl : aG CF r n 106 args h = D106 r n c106 x0 r106 (aJ args) h).trans ((congrFun (congrFun (cTj r n) (aJ args)) h).trans (by kernel_rfl))
noncomputable def s109 (r : RT) (n : Nat) (x0 x1 : DV) (h0 : Hp) : aH :=
 bnd (aQ x0 h0) fun v1 h1 =>
 bnd (aB 0 v1 h1) fun v2 h2 =>
 bnd (aA v2 h2) fun v3 h3 =>
 bnd (isF [v3, x1] h3) fun v4 h4 =>
 bnd (gD v4 true (some (x0, h4)) h4) fun v5 h5 =>
 bnd (gD v4 true (aQ v5 h5) h5) fun v6 h6 =>
 bnd (gD v4 true (aB 0 v6 h6) h6) fun v7 h7 =>
 bnd (gD v4 true (aA v7 h7) h7) fun v8 h8 =>
 bnd (gD v4 true (some (x1, h8)) h8) fun v9 h9 =>
 bnd (gD v4 true (iU [v8, v9] h9) h9) fun v10 h10 =>
 bnd (gD v4 true (some (x0, h10)) h10) fun v11 h11 =>
 bnd (gD v4 true (r 15 [v11, (aE 1)] h11) h11) fun v12 h12 =>
 bnd (gD v4 true (aD .eql v10 v12 h12) h12) fun v13 h13 =>
 bnd (aM v4 v13 (.b false) h13) fun v14 h14 =>
 bnd (gD v14 true (some (x0, h14)) h14) fun v15 h15 =>
 bnd (gD v14 true (aQ v15 h15) h15) fun v16 h16 =>
 bnd (gD v14 true (aB 0 v16 h16) h16) fun v17 h17 =>
 bnd (gD v14 true (aA v17 h17) h17) fun v18 h18 =>
 bnd (gD v14 true (some (x1, h18)) h18) fun v19 h19 =>
 bnd (gD v14 true (gX [v18, v19] h19) h19) fun v20 h20 =>
 bnd (gD v14 true (aD .eql v20 (aE 6) h20) h20) fun v21 h21 =>
 bnd (aM v14 v21 (.b false) h21) fun v22 h22 =>
 some (v22, h22)
noncomputable abbrev c109 : Code := cf Tryz.f109
noncomputable abbrev r109 : K := aO CF Tryz.f109
noncomputable def D109 (r : RT) (n : Nat) (c : Code) (X : Nat → K) (k : K) : K := aP CF r 31 n c X r109 k
theorem cSg : D109 r n c109 x0 r109 = (K2 (s109 r n) 0 1) :=
 (by kernel_rfl)
theorem cOb : aG CF r n 109 args h = s109 r n (aR args 0) (aR args 1) h :=
 (by kernel_rfl : aG CF r n 109 args h = D109 r n c109 x0 r109 (aJ args) h).trans ((congrFun (congrFun (cSg r n) (aJ args)) h).trans (by kernel_rfl))
noncomputable def dO (r : RT) (n : Nat) (x2 : DV) (h0 : Hp) : aH :=
 bnd (aB 5 x2 h0) fun v1 h1 =>
 bnd (aA v1 h1) fun v2 h2 =>
 bnd (r 151 [v2] h2) fun v3 h3 =>
 bnd (aB 5 x2 h3) fun v4 h4 =>
 bnd (aA v4 h4) fun v5 h5 =>
 bnd (r 152 [v5, v3] h5) fun v6 h6 =>
 bnd (gG .not v6 h6) fun v7 h7 =>
 aS v7 (
 some (.t [.l0, (aE 19)], h7)) (
 bnd (aB 5 x2 h7) fun v8 h8 =>
 bnd (aA v8 h8) fun v9 h9 =>
 bnd (r 153 [v9, v3] h9) fun v10 h10 =>
 bnd (aC 0 v10 h10) fun v11 h11 =>
 bnd (aC 1 v10 h11) fun v12 h12 =>
 bnd (gG .not v12 h12) fun v13 h13 =>
 aS v13 (
 some (.t [.l0, (aE 19)], h13)) (
 some (.t [v11, (aE 0)], h13)))
noncomputable def aGz (r : RT) (n : Nat) (kk7 : bX) (x1 x2 x60 x61 x62 : DV) (h0 : Hp) : aH :=
 bnd (aD .lss x62 x61 h0) fun v1 h1 =>
 aS v1 (
 bnd (aI 3 x60 x62 h1) fun v2 h2 =>
 bnd (aK 3 v2 h2) fun v3 h3 =>
 bnd (bI [(aE 0), (aE 0), (aE 0)] h3) fun v4 h4 =>
 bnd (aF 3 v4 v3 h4) fun _ h5 =>
 bnd (aK 3 v4 h5) fun v6 h6 =>
 bnd (r 149 [v6] h6) fun v7 h7 =>
 bnd (gG .not v7 h7) fun v8 h8 =>
 bnd (gD v8 false (aK 6 x2 h8) h8) fun v9 h9 =>
 bnd (gD v8 false (aK 3 v4 h9) h9) fun v10 h10 =>
 bnd (gD v8 false (some (x1, h10)) h10) fun v11 h11 =>
 bnd (gD v8 false (r 150 [v9, v10, v11] h11) h11) fun v12 h12 =>
 bnd (gD v8 false (gG .not v12 h12) h12) fun v13 h13 =>
 bnd (aM v8 (.b true) v13 h13) fun v14 h14 =>
 aS v14 (
 some (.t [.l0, (aE 19)], h14)) (
 bnd (aD .add x62 (aE 1) h14) fun v15 h15 =>
    kk7 x1 x2 x60 x61 v15 h15)) (
      dO r n x2 h1)
noncomputable def sF (r : RT) (n : Nat) (m : Nat) : bX :=
 Nat.rec (motive := fun _ => bX) (fun _ _ _ _ _ _ => none) (fun _ ih => aGz r n ih) m
noncomputable def bDx (r : RT) (n : Nat) : bX := sF r n n
noncomputable def aOv (r : RT) (n : Nat) (x1 x2 x60 x61 x62 : DV) (h0 : Hp) : aH :=
 bDx r n x1 x2 x60 x61 x62 h0
noncomputable def aKa (r : RT) (n : Nat) (x1 x2 : DV) (h0 : Hp) : aH :=
 bnd (aB 5 x2 h0) fun v1 h1 =>
 bnd (aA v1 h1) fun v2 h2 =>
 bnd (bS v2 h2) fun v3 h3 =>
  aOv r n x1 x2 v2 v3 (aE 0) h3
noncomputable def aJx (r : RT) (n : Nat) (x1 x2 x6 x7 : DV) (h0 : Hp) : aH :=
 bnd (gG .not x6 h0) fun v1 h1 =>
 bnd (gD v1 false (some (x7, h1)) h1) fun v2 h2 =>
 bnd (aM v1 (.b true) v2 h2) fun v3 h3 =>
 bnd (gD v3 false (aB 4 x2 h3) h3) fun v4 h4 =>
 bnd (gD v3 false (aA v4 h4) h4) fun v5 h5 =>
 bnd (gD v3 false (bS v5 h5) h5) fun v6 h6 =>
 bnd (gD v3 false (aD .gtr v6 (aE 60) h6) h6) fun v7 h7 =>
 bnd (aM v3 (.b true) v7 h7) fun v8 h8 =>
 bnd (gD v8 false (aB 5 x2 h8) h8) fun v9 h9 =>
 bnd (gD v8 false (aA v9 h9) h9) fun v10 h10 =>
 bnd (gD v8 false (bS v10 h10) h10) fun v11 h11 =>
 bnd (gD v8 false (r 145 [v11, (aE 1), (aE 400)] h11) h11) fun v12 h12 =>
 bnd (gD v8 false (gG .not v12 h12) h12) fun v13 h13 =>
 bnd (aM v8 (.b true) v13 h13) fun v14 h14 =>
 aS v14 (
 some (.t [.l0, (aE 19)], h14)) (
  aKa r n x1 x2 h14)
noncomputable def aNu (r : RT) (n : Nat) (x1 x2 x6 : DV) (h0 : Hp) : aH :=
 bnd (aB 4 x2 h0) fun v1 h1 =>
 bnd (aA v1 h1) fun v2 h2 =>
 bnd (r 146 [v2, (.f 147 [] [])] h2) fun v3 h3 =>
  aJx r n x1 x2 x6 v3 h3
noncomputable def tP (r : RT) (n : Nat) (x1 x2 : DV) (h0 : Hp) : aH :=
 bnd (r 145 [x1, (aE 0), (aE 8)] h0) fun v1 h1 =>
 bnd (gD v1 true (aB 0 x2 h1) h1) fun v2 h2 =>
 bnd (gD v1 true (aA v2 h2) h2) fun v3 h3 =>
 bnd (gD v1 true (cU v3 h3) h3) fun v4 h4 =>
 bnd (gD v1 true (r 145 [v4, (aE 1), (aE 60)] h4) h4) fun v5 h5 =>
 bnd (aM v1 v5 (.b false) h5) fun v6 h6 =>
 bnd (gD v6 true (aB 1 x2 h6) h6) fun v7 h7 =>
 bnd (gD v6 true (aA v7 h7) h7) fun v8 h8 =>
 bnd (gD v6 true (r 145 [v8, (aE 0), (aE 4)] h8) h8) fun v9 h9 =>
 bnd (aM v6 v9 (.b false) h9) fun v10 h10 =>
 bnd (gD v10 true (aB 2 x2 h10) h10) fun v11 h11 =>
 bnd (gD v10 true (aA v11 h11) h11) fun v12 h12 =>
 bnd (gD v10 true (aB 1 x2 h12) h12) fun v13 h13 =>
 bnd (gD v10 true (aA v13 h13) h13) fun v14 h14 =>
 bnd (gD v10 true (r 145 [v12, v14, (aE 24)] h14) h14) fun v15 h15 =>
 bnd (aM v10 v15 (.b false) h15) fun v16 h16 =>
 bnd (gD v16 true (aB 3 x2 h16) h16) fun v17 h17 =>
 bnd (gD v16 true (aA v17 h17) h17) fun v18 h18 =>
 bnd (gD v16 true (r 145 [v18, (aE 0), (aE 255)] h18) h18) fun v19 h19 =>
 bnd (aM v16 v19 (.b false) h19) fun v20 h20 =>
  aNu r n x1 x2 v20 h20
noncomputable def s114 (r : RT) (n : Nat) (x0 x1 : DV) (h0 : Hp) : aH :=
 bnd (bU x0 h0) fun v1 h1 =>
  tP r n x1 v1 h1
noncomputable abbrev c114 : Code := cf Tryz.f114
noncomputable abbrev aDk : Code := cR c114
noncomputable abbrev yG : Code := cR aDk
noncomputable abbrev aCf : Code := cR yG
noncomputable abbrev aEw : Code := cR aCf
noncomputable abbrev cIw : Code := cR aEw
noncomputable abbrev vG : Code := cL aEw
noncomputable abbrev aOf : Code := cR vG
noncomputable abbrev aCa : Code := cL aOf
noncomputable abbrev kW : Code := cL aCa
noncomputable abbrev aVe : Code := cL vG
noncomputable abbrev aTo : Code := cL aCf
noncomputable abbrev aVy : Code := cL yG
noncomputable abbrev aVi : Code := cL aDk
noncomputable abbrev aDd : Code := cL c114
noncomputable abbrev r114 : K := aO CF Tryz.f114
noncomputable def D114 (r : RT) (n : Nat) (c : Code) (X : Nat → K) (k : K) : K := aP CF r 95 n c X r114 k
theorem bYw : D114 r n cIw x0 r114 = (K1 (dO r n) 2) :=
 (by kernel_rfl)
theorem bBg (kk7 : bX) (q0 : TT1) : D114 r n kW (xs x0 0 (K1 q0 2)) (K5 kk7 1 2 60 61 62) = fun (env : aU) (h : Hp) =>
 bnd (aD .lss (env 62) (env 61) h) fun v1 h1 =>
 aS v1 (
 bnd (aI 3 (env 60) (env 62) h1) fun v2 h2 =>
 bnd (aK 3 v2 h2) fun v3 h3 =>
 bnd (bI [(aE 0), (aE 0), (aE 0)] h3) fun v4 h4 =>
 bnd (aF 3 v4 v3 h4) fun _ h5 =>
 bnd (aK 3 v4 h5) fun v6 h6 =>
 bnd (r 149 [v6] h6) fun v7 h7 =>
 bnd (gG .not v7 h7) fun v8 h8 =>
 bnd (gD v8 false (aK 6 (env 2) h8) h8) fun v9 h9 =>
 bnd (gD v8 false (aK 3 v4 h9) h9) fun v10 h10 =>
 bnd (gD v8 false (some ((env 1), h10)) h10) fun v11 h11 =>
 bnd (gD v8 false (r 150 [v9, v10, v11] h11) h11) fun v12 h12 =>
 bnd (gD v8 false (gG .not v12 h12) h12) fun v13 h13 =>
 bnd (aM v8 (.b true) v13 h13) fun v14 h14 =>
 aS v14 (
 some (.t [.l0, (aE 19)], h14)) (
 bnd (aD .add (env 62) (aE 1) h14) fun v15 h15 =>
    kk7 (env 1) (env 2) (env 60) (env 61) v15 h15)) (
      q0 (env 2) h1) := by kernel_rfl
theorem bAr (kk7 : bX) : (fun (env : aU) (h : Hp) =>
 bnd (aD .lss (env 62) (env 61) h) fun v1 h1 =>
 aS v1 (
 bnd (aI 3 (env 60) (env 62) h1) fun v2 h2 =>
 bnd (aK 3 v2 h2) fun v3 h3 =>
 bnd (bI [(aE 0), (aE 0), (aE 0)] h3) fun v4 h4 =>
 bnd (aF 3 v4 v3 h4) fun _ h5 =>
 bnd (aK 3 v4 h5) fun v6 h6 =>
 bnd (r 149 [v6] h6) fun v7 h7 =>
 bnd (gG .not v7 h7) fun v8 h8 =>
 bnd (gD v8 false (aK 6 (env 2) h8) h8) fun v9 h9 =>
 bnd (gD v8 false (aK 3 v4 h9) h9) fun v10 h10 =>
 bnd (gD v8 false (some ((env 1), h10)) h10) fun v11 h11 =>
 bnd (gD v8 false (r 150 [v9, v10, v11] h11) h11) fun v12 h12 =>
 bnd (gD v8 false (gG .not v12 h12) h12) fun v13 h13 =>
 bnd (aM v8 (.b true) v13 h13) fun v14 h14 =>
 aS v14 (
 some (.t [.l0, (aE 19)], h14)) (
 bnd (aD .add (env 62) (aE 1) h14) fun v15 h15 =>
    kk7 (env 1) (env 2) (env 60) (env 61) v15 h15)) (
      dO r n (env 2) h1)) = (K5 (aGz r n kk7) 1 2 60 61 62) := by kernel_rfl
theorem bAz (kk7 : bX) : D114 r n kW (xs x0 0 (K1 (dO r n) 2)) (K5 kk7 1 2 60 61 62) = (K5 (aGz r n kk7) 1 2 60 61 62) :=
 (bBg r n kk7 (dO r n)).trans (bAr r n kk7)
theorem bGl (m : Nat) : aN (fun kk => D114 r n kW (xs x0 0 (K1 (dO r n) 2)) kk) m = (K5 (sF r n m) 1 2 60 61 62) := by
 induction m with
 | zero => exact (by kernel_rfl : aN (fun kk => D114 r n kW (xs x0 0 (K1 (dO r n) 2)) kk) 0 = (K5 (sF r n 0) 1 2 60 61 62))
 | succ m ih =>
  refine (by kernel_rfl : aN (fun kk => D114 r n kW (xs x0 0 (K1 (dO r n) 2)) kk) (m + 1) = D114 r n kW (xs x0 0 (K1 (dO r n) 2)) (aN (fun kk => D114 r n kW (xs x0 0 (K1 (dO r n) 2)) kk) m)).trans ?_
  rw [ih]
  exact (bAz r n (sF r n m)).trans (by kernel_rfl)
theorem bVt : D114 r n aCa (xs x0 0 (K1 (dO r n) 2)) (K1 (dO r n) 2) = (K5 (bDx r n) 1 2 60 61 62) :=
 (by kernel_rfl : D114 r n aCa (xs x0 0 (K1 (dO r n) 2)) (K1 (dO r n) 2) = aN (fun kk => D114 r n kW (xs x0 0 (K1 (dO r n) 2)) kk) n).trans ((bGl r n n).trans (by kernel_rfl))
theorem cDs : D114 r n aOf x0 (K1 (dO r n) 2) = (K5 (aOv r n) 1 2 60 61 62) :=
 (by kernel_rfl : D114 r n aOf x0 (K1 (dO r n) 2) = D114 r n aCa (xs x0 0 (K1 (dO r n) 2)) (K1 (dO r n) 2)).trans
 ((bVt r n).trans (by kernel_rfl))
theorem bCa : D114 r n aEw x0 r114 = D114 r n vG x0 (K1 (dO r n) 2) :=
 congrArg (fun k => D114 r n vG x0 k) (bYw r n)
theorem bGv : D114 r n vG x0 (K1 (dO r n) 2) = D114 r n aVe x0 (K5 (aOv r n) 1 2 60 61 62) :=
 congrArg (fun k => D114 r n aVe x0 k) (cDs r n)
theorem cFd : D114 r n aEw x0 r114 = (K2 (aKa r n) 1 2) :=
 (bCa r n).trans
 ((bGv r n).trans
 ((by kernel_rfl)))
theorem bIk : D114 r n aCf x0 r114 = D114 r n aTo x0 (K2 (aKa r n) 1 2) :=
 congrArg (fun k => D114 r n aTo x0 k) (cFd r n)
theorem bYx : D114 r n aCf x0 r114 = (K4 (aJx r n) 1 2 6 7) :=
 (bIk r n).trans
 ((by kernel_rfl))
theorem bCh : D114 r n yG x0 r114 = D114 r n aVy x0 (K4 (aJx r n) 1 2 6 7) :=
 congrArg (fun k => D114 r n aVy x0 k) (bYx r n)
theorem cDz : D114 r n yG x0 r114 = (K3 (aNu r n) 1 2 6) :=
 (bCh r n).trans
 ((by kernel_rfl))
theorem bIr : D114 r n aDk x0 r114 = D114 r n aVi x0 (K3 (aNu r n) 1 2 6) :=
 congrArg (fun k => D114 r n aVi x0 k) (cDz r n)
theorem bYe : D114 r n aDk x0 r114 = (K2 (tP r n) 1 2) :=
 (bIr r n).trans
 ((by kernel_rfl))
theorem cKg : D114 r n c114 x0 r114 = D114 r n aDd x0 (K2 (tP r n) 1 2) :=
 congrArg (fun k => D114 r n aDd x0 k) (bYe r n)
theorem cHf (q0 : gF) : D114 r n aDd x0 (K2 q0 1 2) = fun (env : aU) (h : Hp) =>
 bnd (bU (env 0) h) fun v1 h1 =>
  q0 (env 1) v1 h1 := by kernel_rfl
theorem bZf : (fun (env : aU) (h : Hp) =>
 bnd (bU (env 0) h) fun v1 h1 =>
  tP r n (env 1) v1 h1) = (K2 (s114 r n) 0 1) := by kernel_rfl
theorem cVo : D114 r n c114 x0 r114 = (K2 (s114 r n) 0 1) :=
 (cKg r n).trans
 ((cHf r n (tP r n)).trans (bZf r n))
theorem cQv : aG CF r n 114 args h = s114 r n (aR args 0) (aR args 1) h :=
 (by kernel_rfl : aG CF r n 114 args h = D114 r n c114 x0 r114 (aJ args) h).trans ((congrFun (congrFun (cVo r n) (aJ args)) h).trans (by kernel_rfl))
noncomputable def s120 (r : RT) (n : Nat) (x0 x1 : DV) (h0 : Hp) : aH :=
 bnd (bI gC h0) fun v1 h1 =>
 bnd (r 154 [x0] h1) fun v2 h2 =>
 bnd (aC 0 v2 h2) fun v3 h3 =>
 bnd (aC 1 v2 h3) fun v4 h4 =>
 bnd (aC 2 v2 h4) fun v5 h5 =>
 bnd (aD .neq v5 (aE 0) h5) fun v6 h6 =>
 aS v6 (
 bnd (aZ gC [] h6) fun v7 h7 =>
 bnd (aF 6 v1 v7 h7) fun _ h8 =>
 bnd (aK 6 v1 h8) fun v9 _ =>
 some (.t [v9, v4, v5], h8)) (
 bnd (aZ [.l0, (aE 0), (aE 0), (aE 0)] [(0, 1, v3)] h6) fun v10 h10 =>
 bnd (bU v10 h10) fun v11 h11 =>
 bnd (dE CF r x1 [v11] h11) fun v12 h12 =>
 bnd (bI gC h12) fun v13 h13 =>
 bnd (aF 6 v13 v12 h13) fun _ h14 =>
 bnd (r 155 [v11] h14) fun v15 h15 =>
 bnd (aB 4 v13 h15) fun v16 h16 =>
 bnd (aF 1 v16 v15 h16) fun _ h17 =>
 bnd (r 156 [v11] h17) fun v18 h18 =>
 bnd (aB 5 v13 h18) fun v19 h19 =>
 bnd (aF 1 v19 v18 h19) fun _ h20 =>
 bnd (r 157 [v11, (aE 0), (.s [])] h20) fun v21 h21 =>
 bnd (aQ v11 h21) fun v22 h22 =>
 bnd (aB 3 v22 h22) fun v23 h23 =>
 bnd (aA v23 h23) fun v24 h24 =>
 bnd (aD .neq v24 (aE 0) h24) fun v25 h25 =>
 aS v25 (
 bnd (aZ gC [] h25) fun v26 h26 =>
 bnd (aQ v11 h26) fun v27 h27 =>
 bnd (aB 2 v27 h27) fun v28 h28 =>
 bnd (aA v28 h28) fun v29 h29 =>
 bnd (aQ v11 h29) fun v30 h30 =>
 bnd (aB 3 v30 h30) fun v31 h31 =>
 bnd (aA v31 h31) fun v32 h32 =>
 bnd (aF 6 v1 v26 h32) fun v33 h33 =>
 cnd (bJ (aA v31 h33) v32 && (bJ (aA v28 h33) v29 && true)) (
 bnd (aK 6 v1 h33) fun v34 _ =>
 some (.t [v34, v29, v32], h33))) (
 bnd (aK 6 v13 h25) fun v35 h35 =>
 bnd (aF 6 v1 v35 h35) fun _ h36 =>
 bnd (aK 6 v1 h36) fun v37 _ =>
 some (.t [v37, (aE 0), (aE 0)], h36)))
noncomputable abbrev c120 : Code := cf Tryz.f120
noncomputable abbrev r120 : K := aO CF Tryz.f120
noncomputable def D120 (r : RT) (n : Nat) (c : Code) (X : Nat → K) (k : K) : K := aP CF r 52 n c X r120 k
theorem cWf : D120 r n c120 x0 r120 = (K2 (s120 r n) 0 1) :=
 (by kernel_rfl)
theorem cQf : aG CF r n 120 args h = s120 r n (aR args 0) (aR args 1) h :=
 (by kernel_rfl : aG CF r n 120 args h = D120 r n c120 x0 r120 (aJ args) h).trans ((congrFun (congrFun (cWf r n) (aJ args)) h).trans (by kernel_rfl))
noncomputable def s121 (r : RT) (n : Nat) (x0 : DV) (h0 : Hp) : aH :=
 bnd (bI gC h0) fun v1 h1 =>
 bnd (aZ gC [(0, 1, (aE 11))] h1) fun v2 h2 =>
 bnd (bI gC h2) fun v3 h3 =>
 bnd (aF 6 v3 v2 h3) fun _ h4 =>
 bnd (r 158 [x0, v3] h4) fun v5 h5 =>
 bnd (r 159 [x0] h5) fun v6 h6 =>
 bnd (aB 2 v3 h6) fun v7 h7 =>
 bnd (aF 1 v7 v6 h7) fun _ h8 =>
 bnd (aK 6 v3 h8) fun v9 h9 =>
 bnd (aF 6 v1 v9 h9) fun _ h10 =>
 bnd (aK 6 v1 h10) fun v11 _ =>
 some (v11, h10)
noncomputable abbrev c121 : Code := cf Tryz.f121
noncomputable abbrev r121 : K := aO CF Tryz.f121
noncomputable def D121 (r : RT) (n : Nat) (c : Code) (X : Nat → K) (k : K) : K := aP CF r 11 n c X r121 k
theorem cYb : D121 r n c121 x0 r121 = (K1 (s121 r n) 0) :=
 (by kernel_rfl)
theorem cOn : aG CF r n 121 args h = s121 r n (aR args 0) h :=
 (by kernel_rfl : aG CF r n 121 args h = D121 r n c121 x0 r121 (aJ args) h).trans ((congrFun (congrFun (cYb r n) (aJ args)) h).trans (by kernel_rfl))
end Go.Dd

namespace Go.Dd
open Go.Proofs
variable (r : RT) (n : Nat) (args : List DV) (h : Hp)
noncomputable def dR (r : RT) (n : Nat) (x6 x9 : DV) (h0 : Hp) : aH :=
 bnd (aQ x9 h0) fun v1 h1 =>
 bnd (aB 0 v1 h1) fun v2 h2 =>
 bnd (aK 6 v2 h2) fun v3 h3 =>
 bnd (aF 6 x6 v3 h3) fun _ h4 =>
 bnd (aK 6 x6 h4) fun v5 _ =>
 some (.t [v5, (.s []), (aE 0)], h4)
noncomputable def zT (r : RT) (n : Nat) (kk9 : bX) (x6 x9 x94 x95 x96 : DV) (h0 : Hp) : aH :=
 bnd (aD .lss x96 x95 h0) fun v1 h1 =>
 aS v1 (
 bnd (aI 3 x94 x96 h1) fun v2 h2 =>
 bnd (aK 3 v2 h2) fun v3 h3 =>
 bnd (bI [(aE 0), (aE 0), (aE 0)] h3) fun v4 h4 =>
 bnd (aF 3 v4 v3 h4) fun _ h5 =>
 bnd (aK 3 v4 h5) fun v6 h6 =>
 bnd (r 149 [v6] h6) fun v7 h7 =>
 bnd (gG .not v7 h7) fun v8 h8 =>
 aS v8 (
 bnd (aZ [(.s []), (aE 0), (aE 0), (aE 0), .l0, .l0] [] h8) fun v9 h9 =>
 bnd (aF 6 x6 v9 h9) fun _ h10 =>
 bnd (aK 6 x6 h10) fun v11 _ =>
 some (.t [v11, (.s []), (aE 12)], h10)) (
 bnd (aD .add x96 (aE 1) h8) fun v12 h12 =>
    kk9 x6 x9 x94 x95 v12 h12)) (
      dR r n x6 x9 h1)
noncomputable def qL (r : RT) (n : Nat) (m : Nat) : bX :=
 Nat.rec (motive := fun _ => bX) (fun _ _ _ _ _ _ => none) (fun _ ih => zT r n ih) m
noncomputable def bPr (r : RT) (n : Nat) : bX := qL r n n
noncomputable def aNi (r : RT) (n : Nat) (x6 x9 x94 x95 x96 : DV) (h0 : Hp) : aH :=
 bPr r n x6 x9 x94 x95 x96 h0
noncomputable def wD (r : RT) (n : Nat) (x6 x9 : DV) (h0 : Hp) : aH :=
 bnd (aQ x9 h0) fun v1 h1 =>
 bnd (aB 0 v1 h1) fun v2 h2 =>
 bnd (aB 5 v2 h2) fun v3 h3 =>
 bnd (aA v3 h3) fun v4 h4 =>
 bnd (bS v4 h4) fun v5 h5 =>
  aNi r n x6 x9 v4 v5 (aE 0) h5
noncomputable def aEk (r : RT) (n : Nat) (x6 x9 : DV) (h0 : Hp) : aH :=
 bnd (aQ x9 h0) fun v1 h1 =>
 bnd (aB 8 v1 h1) fun v2 h2 =>
 bnd (aA v2 h2) fun v3 h3 =>
 bnd (aD .neq v3 (aE 0) h3) fun v4 h4 =>
 aS v4 (
 bnd (aZ [(.s []), (aE 0), (aE 0), (aE 0), .l0, .l0] [] h4) fun v5 h5 =>
 bnd (aQ x9 h5) fun v6 h6 =>
 bnd (aB 7 v6 h6) fun v7 h7 =>
 bnd (aA v7 h7) fun v8 h8 =>
 bnd (aQ x9 h8) fun v9 h9 =>
 bnd (aB 8 v9 h9) fun v10 h10 =>
 bnd (aA v10 h10) fun v11 h11 =>
 bnd (aF 6 x6 v5 h11) fun v12 h12 =>
 cnd (bJ (aA v10 h12) v11 && (bJ (aA v7 h12) v8 && true)) (
 bnd (aK 6 x6 h12) fun v13 _ =>
 some (.t [v13, v8, v11], h12))) (
 bnd (aQ x9 h4) fun v14 h14 =>
 bnd (aB 0 v14 h14) fun v15 h15 =>
 bnd (aB 4 v15 h15) fun v16 h16 =>
 bnd (aA v16 h16) fun v17 h17 =>
 bnd (bS v17 h17) fun v18 h18 =>
 bnd (aD .gtr v18 (aE 60) h18) fun v19 h19 =>
 aS v19 (
 bnd (aZ [(.s []), (aE 0), (aE 0), (aE 0), .l0, .l0] [] h19) fun v20 h20 =>
 bnd (aF 6 x6 v20 h20) fun _ h21 =>
 bnd (aK 6 x6 h21) fun v22 _ =>
 some (.t [v22, (.s []), (aE 18)], h21)) (
 bnd (aQ x9 h19) fun v23 h23 =>
 bnd (aB 0 v23 h23) fun v24 h24 =>
 bnd (aB 5 v24 h24) fun v25 h25 =>
 bnd (aA v25 h25) fun v26 h26 =>
 bnd (bS v26 h26) fun v27 h27 =>
 bnd (aD .gtr v27 (aE 400) h27) fun v28 h28 =>
 aS v28 (
 bnd (aZ [(.s []), (aE 0), (aE 0), (aE 0), .l0, .l0] [] h28) fun v29 h29 =>
 bnd (aF 6 x6 v29 h29) fun _ h30 =>
 bnd (aK 6 x6 h30) fun v31 _ =>
 some (.t [v31, (.s []), (aE 12)], h30)) (
    wD r n x6 x9 h28)))
noncomputable def dP (r : RT) (n : Nat) (x2 x3 x6 x9 : DV) (h0 : Hp) : aH :=
 bnd (aK 6 x3 h0) fun v1 h1 =>
 bnd (r 160 [x9, v1, x2] h1) fun v2 h2 =>
  aEk r n x6 x9 h2
noncomputable def uM (r : RT) (n : Nat) (kk11 : TT7) (x2 x3 x6 x9 x33 x34 x35 : DV) (h0 : Hp) : aH :=
 bnd (aD .lss x35 x34 h0) fun v1 h1 =>
 aS v1 (
 bnd (aI 1 x33 x35 h1) fun v2 h2 =>
 bnd (aA v2 h2) fun v3 h3 =>
 bnd (aQ x9 h3) fun v4 h4 =>
 bnd (aB 6 v4 h4) fun v5 h5 =>
 bnd (aA v5 h5) fun v6 h6 =>
 bnd (aZ [(.s []), (.b false), (.b false), (aE 0)] [(0, 1, v3), (1, 1, (.b true)), (2, 1, (.b false)), (3, 1, x35)] h6) fun v7 h7 =>
 bnd (aL [(.s []), (.b false), (.b false), (aE 0)] 1 [(0, 4, v7)] h7) fun v8 h8 =>
 bnd (aX 4 32 v6 v8 h8) fun v9 h9 =>
 bnd (aQ x9 h9) fun v10 h10 =>
 bnd (aB 6 v10 h10) fun v11 h11 =>
 bnd (aF 1 v11 v9 h11) fun _ h12 =>
 bnd (aD .add x35 (aE 1) h12) fun v13 h13 =>
      kk11 x2 x3 x6 x9 x33 x34 v13 h13) (
      dP r n x2 x3 x6 x9 h1)
noncomputable def nR (r : RT) (n : Nat) (m : Nat) : TT7 :=
 Nat.rec (motive := fun _ => TT7) (fun _ _ _ _ _ _ _ _ => none) (fun _ ih => uM r n ih) m
noncomputable def aRv (r : RT) (n : Nat) : TT7 := nR r n n
noncomputable def aBn (r : RT) (n : Nat) (x2 x3 x6 x9 x33 x34 x35 : DV) (h0 : Hp) : aH :=
 aRv r n x2 x3 x6 x9 x33 x34 x35 h0
noncomputable def tN (r : RT) (n : Nat) (x1 x2 x3 x6 x9 : DV) (h0 : Hp) : aH :=
 bnd (bS x1 h0) fun v1 h1 =>
  aBn r n x2 x3 x6 x9 x1 v1 (aE 0) h1
noncomputable def pA (r : RT) (n : Nat) (x1 x2 x3 x6 : DV) (h0 : Hp) : aH :=
 bnd (aB 1 x3 h0) fun v1 h1 =>
 bnd (aA v1 h1) fun v2 h2 =>
 bnd (aB 3 x3 h2) fun v3 h3 =>
 bnd (aA v3 h3) fun v4 h4 =>
 bnd (bS v4 h4) fun v5 h5 =>
 bnd (aB 2 x3 h5) fun v6 h6 =>
 bnd (aA v6 h6) fun v7 h7 =>
 bnd (aZ [(.s []), (aE 0), (aE 0), (aE 0), .l0, .l0] [(0, 1, v2), (1, 1, v5), (3, 1, v7)] h7) fun v8 h8 =>
 bnd (aZ [(.s []), (aE 0), (aE 0), (aE 0), .l0, .l0, .l0, (.s []), (aE 0)] [(0, 6, v8)] h8) fun v9 h9 =>
 bnd (bU v9 h9) fun v10 h10 =>
  tN r n x1 x2 x3 x6 v10 h10
noncomputable def oK (r : RT) (n : Nat) (x1 x2 x3 x6 : DV) (h0 : Hp) : aH :=
 bnd (aB 0 x3 h0) fun v1 h1 =>
 bnd (aA v1 h1) fun v2 h2 =>
 bnd (aD .neq v2 (aE 11) h2) fun v3 h3 =>
 bnd (gD v3 false (some (x1, h3)) h3) fun v4 h4 =>
 bnd (gD v3 false (bS v4 h4) h4) fun v5 h5 =>
 bnd (gD v3 false (aD .gtr v5 (aE 8) h5) h5) fun v6 h6 =>
 bnd (aM v3 (.b true) v6 h6) fun v7 h7 =>
 aS v7 (
 bnd (aZ [(.s []), (aE 0), (aE 0), (aE 0), .l0, .l0] [] h7) fun v8 h8 =>
 bnd (aF 6 x6 v8 h8) fun _ h9 =>
 bnd (aK 6 x6 h9) fun v10 _ =>
 some (.t [v10, (.s []), (aE 1)], h9)) (
  pA r n x1 x2 x3 x6 h7)
noncomputable def s122 (r : RT) (n : Nat) (x0 x1 x2 : DV) (h0 : Hp) : aH :=
 bnd (bU x0 h0) fun v1 h1 =>
 bnd (bI [(.s []), (aE 0), (aE 0), (aE 0), .l0, .l0] h1) fun v2 h2 =>
  oK r n x1 x2 v1 v2 h2
noncomputable abbrev c122 : Code := cf Tryz.f122
noncomputable abbrev aBh : Code := cR c122
noncomputable abbrev aFa : Code := cR aBh
noncomputable abbrev aGi : Code := cR aFa
noncomputable abbrev yX : Code := cR aGi
noncomputable abbrev yI : Code := cR yX
noncomputable abbrev aCp : Code := cR yI
noncomputable abbrev cIe : Code := cR aCp
noncomputable abbrev tD : Code := cL aCp
noncomputable abbrev aPq : Code := cR tD
noncomputable abbrev rM : Code := cL aPq
noncomputable abbrev iP : Code := cL rM
noncomputable abbrev aVw : Code := cL tD
noncomputable abbrev aAv : Code := cL yI
noncomputable abbrev aTc : Code := cL yX
noncomputable abbrev nJ : Code := cL aGi
noncomputable abbrev aCq : Code := cR nJ
noncomputable abbrev sX : Code := cL aCq
noncomputable abbrev iL : Code := cL sX
noncomputable abbrev aRp : Code := cL nJ
noncomputable abbrev aDe : Code := cL aFa
noncomputable abbrev aDi : Code := cL aBh
noncomputable abbrev aDn : Code := cL c122
noncomputable abbrev r122 : K := aO CF Tryz.f122
noncomputable def D122 (r : RT) (n : Nat) (c : Code) (X : Nat → K) (k : K) : K := aP CF r 109 n c X r122 k
theorem bZs : D122 r n cIe x0 r122 = (K2 (dR r n) 6 9) :=
 (by kernel_rfl)
theorem bPx (kk9 : bX) (q0 : gF) : D122 r n iP (xs x0 3 (K2 q0 6 9)) (K5 kk9 6 9 94 95 96) = fun (env : aU) (h : Hp) =>
 bnd (aD .lss (env 96) (env 95) h) fun v1 h1 =>
 aS v1 (
 bnd (aI 3 (env 94) (env 96) h1) fun v2 h2 =>
 bnd (aK 3 v2 h2) fun v3 h3 =>
 bnd (bI [(aE 0), (aE 0), (aE 0)] h3) fun v4 h4 =>
 bnd (aF 3 v4 v3 h4) fun _ h5 =>
 bnd (aK 3 v4 h5) fun v6 h6 =>
 bnd (r 149 [v6] h6) fun v7 h7 =>
 bnd (gG .not v7 h7) fun v8 h8 =>
 aS v8 (
 bnd (aZ [(.s []), (aE 0), (aE 0), (aE 0), .l0, .l0] [] h8) fun v9 h9 =>
 bnd (aF 6 (env 6) v9 h9) fun _ h10 =>
 bnd (aK 6 (env 6) h10) fun v11 _ =>
 some (.t [v11, (.s []), (aE 12)], h10)) (
 bnd (aD .add (env 96) (aE 1) h8) fun v12 h12 =>
    kk9 (env 6) (env 9) (env 94) (env 95) v12 h12)) (
      q0 (env 6) (env 9) h1) := by kernel_rfl
theorem aYu (kk9 : bX) : (fun (env : aU) (h : Hp) =>
 bnd (aD .lss (env 96) (env 95) h) fun v1 h1 =>
 aS v1 (
 bnd (aI 3 (env 94) (env 96) h1) fun v2 h2 =>
 bnd (aK 3 v2 h2) fun v3 h3 =>
 bnd (bI [(aE 0), (aE 0), (aE 0)] h3) fun v4 h4 =>
 bnd (aF 3 v4 v3 h4) fun _ h5 =>
 bnd (aK 3 v4 h5) fun v6 h6 =>
 bnd (r 149 [v6] h6) fun v7 h7 =>
 bnd (gG .not v7 h7) fun v8 h8 =>
 aS v8 (
 bnd (aZ [(.s []), (aE 0), (aE 0), (aE 0), .l0, .l0] [] h8) fun v9 h9 =>
 bnd (aF 6 (env 6) v9 h9) fun _ h10 =>
 bnd (aK 6 (env 6) h10) fun v11 _ =>
 some (.t [v11, (.s []), (aE 12)], h10)) (
 bnd (aD .add (env 96) (aE 1) h8) fun v12 h12 =>
    kk9 (env 6) (env 9) (env 94) (env 95) v12 h12)) (
      dR r n (env 6) (env 9) h1)) = (K5 (zT r n kk9) 6 9 94 95 96) := by kernel_rfl
theorem bBp (kk9 : bX) : D122 r n iP (xs x0 3 (K2 (dR r n) 6 9)) (K5 kk9 6 9 94 95 96) = (K5 (zT r n kk9) 6 9 94 95 96) :=
 (bPx r n kk9 (dR r n)).trans (aYu r n kk9)
theorem bDu (m : Nat) : aN (fun kk => D122 r n iP (xs x0 3 (K2 (dR r n) 6 9)) kk) m = (K5 (qL r n m) 6 9 94 95 96) := by
 induction m with
 | zero => exact (by kernel_rfl : aN (fun kk => D122 r n iP (xs x0 3 (K2 (dR r n) 6 9)) kk) 0 = (K5 (qL r n 0) 6 9 94 95 96))
 | succ m ih =>
  refine (by kernel_rfl : aN (fun kk => D122 r n iP (xs x0 3 (K2 (dR r n) 6 9)) kk) (m + 1) = D122 r n iP (xs x0 3 (K2 (dR r n) 6 9)) (aN (fun kk => D122 r n iP (xs x0 3 (K2 (dR r n) 6 9)) kk) m)).trans ?_
  rw [ih]
  exact (bBp r n (qL r n m)).trans (by kernel_rfl)
theorem bYp : D122 r n rM (xs x0 3 (K2 (dR r n) 6 9)) (K2 (dR r n) 6 9) = (K5 (bPr r n) 6 9 94 95 96) :=
 (by kernel_rfl : D122 r n rM (xs x0 3 (K2 (dR r n) 6 9)) (K2 (dR r n) 6 9) = aN (fun kk => D122 r n iP (xs x0 3 (K2 (dR r n) 6 9)) kk) n).trans ((bDu r n n).trans (by kernel_rfl))
theorem bTi : D122 r n aPq x0 (K2 (dR r n) 6 9) = (K5 (aNi r n) 6 9 94 95 96) :=
 (by kernel_rfl : D122 r n aPq x0 (K2 (dR r n) 6 9) = D122 r n rM (xs x0 3 (K2 (dR r n) 6 9)) (K2 (dR r n) 6 9)).trans
 ((bYp r n).trans (by kernel_rfl))
theorem bDa : D122 r n aCp x0 r122 = D122 r n tD x0 (K2 (dR r n) 6 9) :=
 congrArg (fun k => D122 r n tD x0 k) (bZs r n)
theorem bPf : D122 r n tD x0 (K2 (dR r n) 6 9) = D122 r n aVw x0 (K5 (aNi r n) 6 9 94 95 96) :=
 congrArg (fun k => D122 r n aVw x0 k) (bTi r n)
theorem bYl : D122 r n aCp x0 r122 = (K2 (wD r n) 6 9) :=
 (bDa r n).trans
 ((bPf r n).trans
 ((by kernel_rfl)))
theorem bLl : D122 r n yI x0 r122 = D122 r n aAv x0 (K2 (wD r n) 6 9) :=
 congrArg (fun k => D122 r n aAv x0 k) (bYl r n)
theorem bIq (q0 : gF) : D122 r n aAv x0 (K2 q0 6 9) = fun (env : aU) (h : Hp) =>
 bnd (aQ (env 9) h) fun v1 h1 =>
 bnd (aB 8 v1 h1) fun v2 h2 =>
 bnd (aA v2 h2) fun v3 h3 =>
 bnd (aD .neq v3 (aE 0) h3) fun v4 h4 =>
 aS v4 (
 bnd (aZ [(.s []), (aE 0), (aE 0), (aE 0), .l0, .l0] [] h4) fun v5 h5 =>
 bnd (aQ (env 9) h5) fun v6 h6 =>
 bnd (aB 7 v6 h6) fun v7 h7 =>
 bnd (aA v7 h7) fun v8 h8 =>
 bnd (aQ (env 9) h8) fun v9 h9 =>
 bnd (aB 8 v9 h9) fun v10 h10 =>
 bnd (aA v10 h10) fun v11 h11 =>
 bnd (aF 6 (env 6) v5 h11) fun v12 h12 =>
 cnd (bJ (aA v10 h12) v11 && (bJ (aA v7 h12) v8 && true)) (
 bnd (aK 6 (env 6) h12) fun v13 _ =>
 some (.t [v13, v8, v11], h12))) (
 bnd (aQ (env 9) h4) fun v14 h14 =>
 bnd (aB 0 v14 h14) fun v15 h15 =>
 bnd (aB 4 v15 h15) fun v16 h16 =>
 bnd (aA v16 h16) fun v17 h17 =>
 bnd (bS v17 h17) fun v18 h18 =>
 bnd (aD .gtr v18 (aE 60) h18) fun v19 h19 =>
 aS v19 (
 bnd (aZ [(.s []), (aE 0), (aE 0), (aE 0), .l0, .l0] [] h19) fun v20 h20 =>
 bnd (aF 6 (env 6) v20 h20) fun _ h21 =>
 bnd (aK 6 (env 6) h21) fun v22 _ =>
 some (.t [v22, (.s []), (aE 18)], h21)) (
 bnd (aQ (env 9) h19) fun v23 h23 =>
 bnd (aB 0 v23 h23) fun v24 h24 =>
 bnd (aB 5 v24 h24) fun v25 h25 =>
 bnd (aA v25 h25) fun v26 h26 =>
 bnd (bS v26 h26) fun v27 h27 =>
 bnd (aD .gtr v27 (aE 400) h27) fun v28 h28 =>
 aS v28 (
 bnd (aZ [(.s []), (aE 0), (aE 0), (aE 0), .l0, .l0] [] h28) fun v29 h29 =>
 bnd (aF 6 (env 6) v29 h29) fun _ h30 =>
 bnd (aK 6 (env 6) h30) fun v31 _ =>
 some (.t [v31, (.s []), (aE 12)], h30)) (
     q0 (env 6) (env 9) h28))) := by kernel_rfl
theorem bAn : (fun (env : aU) (h : Hp) =>
 bnd (aQ (env 9) h) fun v1 h1 =>
 bnd (aB 8 v1 h1) fun v2 h2 =>
 bnd (aA v2 h2) fun v3 h3 =>
 bnd (aD .neq v3 (aE 0) h3) fun v4 h4 =>
 aS v4 (
 bnd (aZ [(.s []), (aE 0), (aE 0), (aE 0), .l0, .l0] [] h4) fun v5 h5 =>
 bnd (aQ (env 9) h5) fun v6 h6 =>
 bnd (aB 7 v6 h6) fun v7 h7 =>
 bnd (aA v7 h7) fun v8 h8 =>
 bnd (aQ (env 9) h8) fun v9 h9 =>
 bnd (aB 8 v9 h9) fun v10 h10 =>
 bnd (aA v10 h10) fun v11 h11 =>
 bnd (aF 6 (env 6) v5 h11) fun v12 h12 =>
 cnd (bJ (aA v10 h12) v11 && (bJ (aA v7 h12) v8 && true)) (
 bnd (aK 6 (env 6) h12) fun v13 _ =>
 some (.t [v13, v8, v11], h12))) (
 bnd (aQ (env 9) h4) fun v14 h14 =>
 bnd (aB 0 v14 h14) fun v15 h15 =>
 bnd (aB 4 v15 h15) fun v16 h16 =>
 bnd (aA v16 h16) fun v17 h17 =>
 bnd (bS v17 h17) fun v18 h18 =>
 bnd (aD .gtr v18 (aE 60) h18) fun v19 h19 =>
 aS v19 (
 bnd (aZ [(.s []), (aE 0), (aE 0), (aE 0), .l0, .l0] [] h19) fun v20 h20 =>
 bnd (aF 6 (env 6) v20 h20) fun _ h21 =>
 bnd (aK 6 (env 6) h21) fun v22 _ =>
 some (.t [v22, (.s []), (aE 18)], h21)) (
 bnd (aQ (env 9) h19) fun v23 h23 =>
 bnd (aB 0 v23 h23) fun v24 h24 =>
 bnd (aB 5 v24 h24) fun v25 h25 =>
 bnd (aA v25 h25) fun v26 h26 =>
 bnd (bS v26 h26) fun v27 h27 =>
 bnd (aD .gtr v27 (aE 400) h27) fun v28 h28 =>
 aS v28 (
 bnd (aZ [(.s []), (aE 0), (aE 0), (aE 0), .l0, .l0] [] h28) fun v29 h29 =>
 bnd (aF 6 (env 6) v29 h29) fun _ h30 =>
 bnd (aK 6 (env 6) h30) fun v31 _ =>
 some (.t [v31, (.s []), (aE 12)], h30)) (
     wD r n (env 6) (env 9) h28)))) = (K2 (aEk r n) 6 9) := by kernel_rfl
theorem cDr : D122 r n yI x0 r122 = (K2 (aEk r n) 6 9) :=
 (bLl r n).trans
 ((bIq r n (wD r n)).trans (bAn r n))
theorem bDq : D122 r n yX x0 r122 = D122 r n aTc x0 (K2 (aEk r n) 6 9) :=
 congrArg (fun k => D122 r n aTc x0 k) (cDr r n)
theorem bVi : D122 r n yX x0 r122 = (K4 (dP r n) 2 3 6 9) :=
 (bDq r n).trans
 ((by kernel_rfl))
theorem bAs (kk11 : TT7) (q0 : dM) : D122 r n iL (xs x0 0 (K4 q0 2 3 6 9)) (K7 kk11 2 3 6 9 33 34 35) = fun (env : aU) (h : Hp) =>
 bnd (aD .lss (env 35) (env 34) h) fun v1 h1 =>
 aS v1 (
 bnd (aI 1 (env 33) (env 35) h1) fun v2 h2 =>
 bnd (aA v2 h2) fun v3 h3 =>
 bnd (aQ (env 9) h3) fun v4 h4 =>
 bnd (aB 6 v4 h4) fun v5 h5 =>
 bnd (aA v5 h5) fun v6 h6 =>
 bnd (aZ [(.s []), (.b false), (.b false), (aE 0)] [(0, 1, v3), (1, 1, (.b true)), (2, 1, (.b false)), (3, 1, (env 35))] h6) fun v7 h7 =>
 bnd (aL [(.s []), (.b false), (.b false), (aE 0)] 1 [(0, 4, v7)] h7) fun v8 h8 =>
 bnd (aX 4 32 v6 v8 h8) fun v9 h9 =>
 bnd (aQ (env 9) h9) fun v10 h10 =>
 bnd (aB 6 v10 h10) fun v11 h11 =>
 bnd (aF 1 v11 v9 h11) fun _ h12 =>
 bnd (aD .add (env 35) (aE 1) h12) fun v13 h13 =>
      kk11 (env 2) (env 3) (env 6) (env 9) (env 33) (env 34) v13 h13) (
      q0 (env 2) (env 3) (env 6) (env 9) h1) := by kernel_rfl
theorem aOj (kk11 : TT7) : (fun (env : aU) (h : Hp) =>
 bnd (aD .lss (env 35) (env 34) h) fun v1 h1 =>
 aS v1 (
 bnd (aI 1 (env 33) (env 35) h1) fun v2 h2 =>
 bnd (aA v2 h2) fun v3 h3 =>
 bnd (aQ (env 9) h3) fun v4 h4 =>
 bnd (aB 6 v4 h4) fun v5 h5 =>
 bnd (aA v5 h5) fun v6 h6 =>
 bnd (aZ [(.s []), (.b false), (.b false), (aE 0)] [(0, 1, v3), (1, 1, (.b true)), (2, 1, (.b false)), (3, 1, (env 35))] h6) fun v7 h7 =>
 bnd (aL [(.s []), (.b false), (.b false), (aE 0)] 1 [(0, 4, v7)] h7) fun v8 h8 =>
 bnd (aX 4 32 v6 v8 h8) fun v9 h9 =>
 bnd (aQ (env 9) h9) fun v10 h10 =>
 bnd (aB 6 v10 h10) fun v11 h11 =>
 bnd (aF 1 v11 v9 h11) fun _ h12 =>
 bnd (aD .add (env 35) (aE 1) h12) fun v13 h13 =>
      kk11 (env 2) (env 3) (env 6) (env 9) (env 33) (env 34) v13 h13) (
      dP r n (env 2) (env 3) (env 6) (env 9) h1)) = (K7 (uM r n kk11) 2 3 6 9 33 34 35) := by kernel_rfl
theorem aYh (kk11 : TT7) : D122 r n iL (xs x0 0 (K4 (dP r n) 2 3 6 9)) (K7 kk11 2 3 6 9 33 34 35) = (K7 (uM r n kk11) 2 3 6 9 33 34 35) :=
 (bAs r n kk11 (dP r n)).trans (aOj r n kk11)
theorem aYe (m : Nat) : aN (fun kk => D122 r n iL (xs x0 0 (K4 (dP r n) 2 3 6 9)) kk) m = (K7 (nR r n m) 2 3 6 9 33 34 35) := by
 induction m with
 | zero => exact (by kernel_rfl : aN (fun kk => D122 r n iL (xs x0 0 (K4 (dP r n) 2 3 6 9)) kk) 0 = (K7 (nR r n 0) 2 3 6 9 33 34 35))
 | succ m ih =>
  refine (by kernel_rfl : aN (fun kk => D122 r n iL (xs x0 0 (K4 (dP r n) 2 3 6 9)) kk) (m + 1) = D122 r n iL (xs x0 0 (K4 (dP r n) 2 3 6 9)) (aN (fun kk => D122 r n iL (xs x0 0 (K4 (dP r n) 2 3 6 9)) kk) m)).trans ?_
  rw [ih]
  exact (aYh r n (nR r n m)).trans (by kernel_rfl)
theorem bNy : D122 r n sX (xs x0 0 (K4 (dP r n) 2 3 6 9)) (K4 (dP r n) 2 3 6 9) = (K7 (aRv r n) 2 3 6 9 33 34 35) :=
 (by kernel_rfl : D122 r n sX (xs x0 0 (K4 (dP r n) 2 3 6 9)) (K4 (dP r n) 2 3 6 9) = aN (fun kk => D122 r n iL (xs x0 0 (K4 (dP r n) 2 3 6 9)) kk) n).trans ((aYe r n n).trans (by kernel_rfl))
theorem bJn : D122 r n aCq x0 (K4 (dP r n) 2 3 6 9) = (K7 (aBn r n) 2 3 6 9 33 34 35) :=
 (by kernel_rfl : D122 r n aCq x0 (K4 (dP r n) 2 3 6 9) = D122 r n sX (xs x0 0 (K4 (dP r n) 2 3 6 9)) (K4 (dP r n) 2 3 6 9)).trans
 ((bNy r n).trans (by kernel_rfl))
theorem bIg : D122 r n aGi x0 r122 = D122 r n nJ x0 (K4 (dP r n) 2 3 6 9) :=
 congrArg (fun k => D122 r n nJ x0 k) (bVi r n)
theorem bEz : D122 r n nJ x0 (K4 (dP r n) 2 3 6 9) = D122 r n aRp x0 (K7 (aBn r n) 2 3 6 9 33 34 35) :=
 congrArg (fun k => D122 r n aRp x0 k) (bJn r n)
theorem bTn : D122 r n aGi x0 r122 = (K5 (tN r n) 1 2 3 6 9) :=
 (bIg r n).trans
 ((bEz r n).trans
 ((by kernel_rfl)))
theorem aXw : D122 r n aFa x0 r122 = D122 r n aDe x0 (K5 (tN r n) 1 2 3 6 9) :=
 congrArg (fun k => D122 r n aDe x0 k) (bTn r n)
theorem aXn (q0 : bX) : D122 r n aDe x0 (K5 q0 1 2 3 6 9) = fun (env : aU) (h : Hp) =>
 bnd (aB 1 (env 3) h) fun v1 h1 =>
 bnd (aA v1 h1) fun v2 h2 =>
 bnd (aB 3 (env 3) h2) fun v3 h3 =>
 bnd (aA v3 h3) fun v4 h4 =>
 bnd (bS v4 h4) fun v5 h5 =>
 bnd (aB 2 (env 3) h5) fun v6 h6 =>
 bnd (aA v6 h6) fun v7 h7 =>
 bnd (aZ [(.s []), (aE 0), (aE 0), (aE 0), .l0, .l0] [(0, 1, v2), (1, 1, v5), (3, 1, v7)] h7) fun v8 h8 =>
 bnd (aZ [(.s []), (aE 0), (aE 0), (aE 0), .l0, .l0, .l0, (.s []), (aE 0)] [(0, 6, v8)] h8) fun v9 h9 =>
 bnd (bU v9 h9) fun v10 h10 =>
  q0 (env 1) (env 2) (env 3) (env 6) v10 h10 := by kernel_rfl
theorem aKr : (fun (env : aU) (h : Hp) =>
 bnd (aB 1 (env 3) h) fun v1 h1 =>
 bnd (aA v1 h1) fun v2 h2 =>
 bnd (aB 3 (env 3) h2) fun v3 h3 =>
 bnd (aA v3 h3) fun v4 h4 =>
 bnd (bS v4 h4) fun v5 h5 =>
 bnd (aB 2 (env 3) h5) fun v6 h6 =>
 bnd (aA v6 h6) fun v7 h7 =>
 bnd (aZ [(.s []), (aE 0), (aE 0), (aE 0), .l0, .l0] [(0, 1, v2), (1, 1, v5), (3, 1, v7)] h7) fun v8 h8 =>
 bnd (aZ [(.s []), (aE 0), (aE 0), (aE 0), .l0, .l0, .l0, (.s []), (aE 0)] [(0, 6, v8)] h8) fun v9 h9 =>
 bnd (bU v9 h9) fun v10 h10 =>
  tN r n (env 1) (env 2) (env 3) (env 6) v10 h10) = (K4 (pA r n) 1 2 3 6) := by kernel_rfl
theorem bUj : D122 r n aFa x0 r122 = (K4 (pA r n) 1 2 3 6) :=
 (aXw r n).trans
 ((aXn r n (tN r n)).trans (aKr r n))
theorem aYz : D122 r n aBh x0 r122 = D122 r n aDi x0 (K4 (pA r n) 1 2 3 6) :=
 congrArg (fun k => D122 r n aDi x0 k) (bUj r n)
theorem aYf (q0 : dM) : D122 r n aDi x0 (K4 q0 1 2 3 6) = fun (env : aU) (h : Hp) =>
 bnd (aB 0 (env 3) h) fun v1 h1 =>
 bnd (aA v1 h1) fun v2 h2 =>
 bnd (aD .neq v2 (aE 11) h2) fun v3 h3 =>
 bnd (gD v3 false (some ((env 1), h3)) h3) fun v4 h4 =>
 bnd (gD v3 false (bS v4 h4) h4) fun v5 h5 =>
 bnd (gD v3 false (aD .gtr v5 (aE 8) h5) h5) fun v6 h6 =>
 bnd (aM v3 (.b true) v6 h6) fun v7 h7 =>
 aS v7 (
 bnd (aZ [(.s []), (aE 0), (aE 0), (aE 0), .l0, .l0] [] h7) fun v8 h8 =>
 bnd (aF 6 (env 6) v8 h8) fun _ h9 =>
 bnd (aK 6 (env 6) h9) fun v10 _ =>
 some (.t [v10, (.s []), (aE 1)], h9)) (
   q0 (env 1) (env 2) (env 3) (env 6) h7) := by kernel_rfl
theorem aNs : (fun (env : aU) (h : Hp) =>
 bnd (aB 0 (env 3) h) fun v1 h1 =>
 bnd (aA v1 h1) fun v2 h2 =>
 bnd (aD .neq v2 (aE 11) h2) fun v3 h3 =>
 bnd (gD v3 false (some ((env 1), h3)) h3) fun v4 h4 =>
 bnd (gD v3 false (bS v4 h4) h4) fun v5 h5 =>
 bnd (gD v3 false (aD .gtr v5 (aE 8) h5) h5) fun v6 h6 =>
 bnd (aM v3 (.b true) v6 h6) fun v7 h7 =>
 aS v7 (
 bnd (aZ [(.s []), (aE 0), (aE 0), (aE 0), .l0, .l0] [] h7) fun v8 h8 =>
 bnd (aF 6 (env 6) v8 h8) fun _ h9 =>
 bnd (aK 6 (env 6) h9) fun v10 _ =>
 some (.t [v10, (.s []), (aE 1)], h9)) (
   pA r n (env 1) (env 2) (env 3) (env 6) h7)) = (K4 (oK r n) 1 2 3 6) := by kernel_rfl
theorem cFb : D122 r n aBh x0 r122 = (K4 (oK r n) 1 2 3 6) :=
 (aYz r n).trans
 ((aYf r n (pA r n)).trans (aNs r n))
theorem bUn : D122 r n c122 x0 r122 = D122 r n aDn x0 (K4 (oK r n) 1 2 3 6) :=
 congrArg (fun k => D122 r n aDn x0 k) (cFb r n)
theorem bYz (q0 : dM) : D122 r n aDn x0 (K4 q0 1 2 3 6) = fun (env : aU) (h : Hp) =>
 bnd (bU (env 0) h) fun v1 h1 =>
 bnd (bI [(.s []), (aE 0), (aE 0), (aE 0), .l0, .l0] h1) fun v2 h2 =>
  q0 (env 1) (env 2) v1 v2 h2 := by kernel_rfl
theorem bCz : (fun (env : aU) (h : Hp) =>
 bnd (bU (env 0) h) fun v1 h1 =>
 bnd (bI [(.s []), (aE 0), (aE 0), (aE 0), .l0, .l0] h1) fun v2 h2 =>
  oK r n (env 1) (env 2) v1 v2 h2) = (K3 (s122 r n) 0 1 2) := by kernel_rfl
theorem cXl : D122 r n c122 x0 r122 = (K3 (s122 r n) 0 1 2) :=
 (bUn r n).trans
 ((bYz r n (oK r n)).trans (bCz r n))
theorem cJi : aG CF r n 122 args h = s122 r n (aR args 0) (aR args 1) (aR args 2) h :=
 (by kernel_rfl : aG CF r n 122 args h = D122 r n c122 x0 r122 (aJ args) h).trans ((congrFun (congrFun (cXl r n) (aJ args)) h).trans (by kernel_rfl))
noncomputable def s123 (r : RT) (n : Nat) (x0 x1 x2 : DV) (h0 : Hp) : aH :=
 bnd (bU x2 h0) fun v1 h1 =>
 bnd (r 109 [x0, x1] h1) fun v2 h2 =>
 bnd (gG .not v2 h2) fun v3 h3 =>
 aS v3 (
 some (.t [(aE 0), (aE 24)], h3)) (
 bnd (aK 6 v1 h3) fun v4 h4 =>
 bnd (r 92 [x0, x1] h4) fun v5 h5 =>
 cnd (bJ (aK 6 v1 h5) v4 && true) (
 bnd (r 65 [v4, v5] h5) fun v6 h6 =>
 bnd (aD .neq v6 (aE 0) h6) fun v7 h7 =>
 aS v7 (
 some (.t [(aE 0), v6], h7)) (
 bnd (aB 0 v1 h7) fun v8 h8 =>
 bnd (aA v8 h8) fun v9 h9 =>
 bnd (r 11 [x0, v9] h9) fun v10 h10 =>
 bnd (aC 0 v10 h10) fun v11 h11 =>
 bnd (aC 1 v10 h11) fun v12 h12 =>
 bnd (aD .neq v12 (aE 0) h12) fun v13 h13 =>
 aS v13 (
 some (.t [(aE 0), v12], h13)) (
 bnd (aB 4 v1 h13) fun v14 h14 =>
 bnd (aA v14 h14) fun v15 h15 =>
 bnd (aZ [(aE 0), (.s []), (aE 0), .l0] [(0, 1, (aE 4)), (3, 1, v15)] h15) fun v16 h16 =>
 bnd (r 66 [x0, v16] h16) fun v17 h17 =>
 bnd (aC 0 v17 h17) fun v18 h18 =>
 bnd (aC 1 v17 h18) fun v19 h19 =>
 bnd (aD .neq v19 (aE 0) h19) fun v20 h20 =>
 aS v20 (
 some (.t [(aE 0), v19], h20)) (
 bnd (aB 5 v1 h20) fun v21 h21 =>
 bnd (aA v21 h21) fun v22 h22 =>
 bnd (r 161 [v22] h22) fun v23 h23 =>
 bnd (aC 0 v23 h23) fun v24 h24 =>
 bnd (aC 1 v23 h24) fun v25 h25 =>
 bnd (r 162 [x0, v24] h25) fun v26 h26 =>
 bnd (aC 0 v26 h26) fun v27 h27 =>
 bnd (aC 1 v26 h27) fun v28 h28 =>
 bnd (aD .neq v28 (aE 0) h28) fun v29 h29 =>
 aS v29 (
 some (.t [(aE 0), v28], h29)) (
 bnd (r 15 [x0, (aE 14)] (resv 1 h29)) fun v30 h30 =>
 bnd (aB 1 v1 h30) fun v31 h31 =>
 bnd (aA v31 h31) fun v32 h32 =>
 cnd (bJ (aA v31 (resv 1 h29)) v32 && true) (
 bnd (r 46 [v32] h32) fun v33 h33 =>
 bnd (aB 2 v1 h33) fun v34 h34 =>
 bnd (aA v34 h34) fun v35 h35 =>
 cnd (bJ (aA v34 h30) v35 && (bJ (aA v34 (resv 1 h29)) v35 && true)) (
 bnd (r 46 [v35] h35) fun v36 h36 =>
 bnd (aB 3 v1 h36) fun v37 h37 =>
 bnd (aA v37 h37) fun v38 h38 =>
 cnd (bJ (aA v37 h33) v38 && (bJ (aA v37 h30) v38 && (bJ (aA v37 (resv 1 h29)) v38 && true))) (
 bnd (r 46 [v38] h38) fun v39 h39 =>
 bnd (bH (bQ 0 h29.next) [(aE 0), (aE 0), (aE 0), (aE 0), (aE 0), (aE 0), (aE 0)] 7 [(0, 1, v11), (1, 1, v33), (2, 1, v36), (3, 1, v39), (4, 1, v18), (5, 1, v27), (6, 1, x1)] h39) fun v40 h40 =>
 bnd (r 61 [x0, v30, (aE 0), v40] h40) fun v41 h41 =>
 bnd (aC 0 v41 h41) fun v42 h42 =>
 bnd (aC 1 v41 h42) fun v43 h43 =>
 some (.t [v42, v43], h43))))))))))
noncomputable abbrev c123 : Code := cf Tryz.f123
noncomputable abbrev r123 : K := aO CF Tryz.f123
noncomputable def D123 (r : RT) (n : Nat) (c : Code) (X : Nat → K) (k : K) : K := aP CF r 83 n c X r123 k
theorem cVd : D123 r n c123 x0 r123 = (K3 (s123 r n) 0 1 2) :=
 (by kernel_rfl)
theorem cOw : aG CF r n 123 args h = s123 r n (aR args 0) (aR args 1) (aR args 2) h :=
 (by kernel_rfl : aG CF r n 123 args h = D123 r n c123 x0 r123 (aJ args) h).trans ((congrFun (congrFun (cVd r n) (aJ args)) h).trans (by kernel_rfl))
noncomputable def eC (r : RT) (n : Nat) (x0 x1 x3 : DV) (h0 : Hp) : aH :=
 bnd (r 53 [x0, x1, (aE 4)] h0) fun v1 h1 =>
 bnd (r 48 [x0, x3, v1] h1) fun v2 h2 =>
 bnd (aC 0 v2 h2) fun v3 h3 =>
 bnd (aC 1 v2 h3) fun v4 h4 =>
 bnd (aD .neq v4 (aE 0) h4) fun v5 h5 =>
 aS v5 (
 some (v4, h5)) (
 bnd (aQ x0 h5) fun v6 h6 =>
 bnd (aB 0 v6 h6) fun v7 h7 =>
 bnd (aA v7 h7) fun v8 h8 =>
 bnd (wQ [v8, x1, (aE 4), v3] h8) fun v9 h9 =>
 some (v9, h9))
noncomputable def aWr (r : RT) (n : Nat) (kk5 : eT) (x0 x1 x2 x3 x9 x10 : DV) (h0 : Hp) : aH :=
 bnd (aD .gtr x10 (aE 0) h0) fun v1 h1 =>
 bnd (gD v1 true (some (x0, h1)) h1) fun v2 h2 =>
 bnd (gD v1 true (aQ v2 h2) h2) fun v3 h3 =>
 bnd (gD v1 true (aB 0 v3 h3) h3) fun v4 h4 =>
 bnd (gD v1 true (aA v4 h4) h4) fun v5 h5 =>
 bnd (gD v1 true (some (x9, h5)) h5) fun v6 h6 =>
 bnd (gD v1 true (isF [v5, v6] h6) h6) fun v7 h7 =>
 bnd (aM v1 v7 (.b false) h7) fun v8 h8 =>
 aS v8 (
 bnd (r 53 [x0, x9, (aE 0)] h8) fun v9 h9 =>
 bnd (r 53 [x0, v9, (aE 0)] h9) fun v10 h10 =>
 bnd (aD .eql v10 x2 h10) fun v11 h11 =>
 aS v11 (
 bnd (aQ x0 h11) fun v12 h12 =>
 bnd (aB 0 v12 h12) fun v13 h13 =>
 bnd (aA v13 h13) fun v14 h14 =>
 bnd (wQ [v14, x9, (aE 0), x3] h14) fun v15 h15 =>
 some (v15, h15)) (
 bnd (r 53 [x0, x9, (aE 1)] h11) fun v16 h16 =>
 bnd (aD .sub x10 (aE 1) h16) fun v17 h17 =>
    kk5 x0 x1 x2 x3 v16 v17 h17)) (
      eC r n x0 x1 x3 h8)
noncomputable def rC (r : RT) (n : Nat) (m : Nat) : eT :=
 Nat.rec (motive := fun _ => eT) (fun _ _ _ _ _ _ _ => none) (fun _ ih => aWr r n ih) m
noncomputable def bFt (r : RT) (n : Nat) : eT := rC r n n
noncomputable def aNz (r : RT) (n : Nat) (x0 x1 x2 x3 x9 x10 : DV) (h0 : Hp) : aH :=
 bFt r n x0 x1 x2 x3 x9 x10 h0
noncomputable def aJj (r : RT) (n : Nat) (x0 x1 x2 x3 x9 : DV) (h0 : Hp) : aH :=
 bnd (aQ x0 h0) fun v1 h1 =>
 bnd (aB 0 v1 h1) fun v2 h2 =>
 bnd (aA v2 h2) fun v3 h3 =>
 bnd (xI [v3] h3) fun v4 h4 =>
  aNz r n x0 x1 x2 x3 x9 v4 h4
noncomputable def aMg (r : RT) (n : Nat) (x0 x1 x2 x3 : DV) (h0 : Hp) : aH :=
 bnd (r 53 [x0, x1, (aE 4)] h0) fun v1 h1 =>
  aJj r n x0 x1 x2 x3 v1 h1
noncomputable def s124 (r : RT) (n : Nat) (x0 x1 x2 x3 : DV) (h0 : Hp) : aH :=
 aMg r n x0 x1 x2 x3 h0
noncomputable abbrev c124 : Code := cf Tryz.f124
noncomputable abbrev aBb : Code := cR c124
noncomputable abbrev yH : Code := cR aBb
noncomputable abbrev cNb : Code := cR yH
noncomputable abbrev uJ : Code := cL yH
noncomputable abbrev aMj : Code := cR uJ
noncomputable abbrev xV : Code := cL aMj
noncomputable abbrev mV : Code := cL xV
noncomputable abbrev bRa : Code := cL uJ
noncomputable abbrev bRf : Code := cL aBb
noncomputable abbrev aVd : Code := cL c124
noncomputable abbrev r124 : K := aO CF Tryz.f124
noncomputable def D124 (r : RT) (n : Nat) (c : Code) (X : Nat → K) (k : K) : K := aP CF r 69 n c X r124 k
theorem cDb : D124 r n cNb x0 r124 = (K3 (eC r n) 0 1 3) :=
 (by kernel_rfl)
theorem bPt (kk5 : eT) : D124 r n mV (xs x0 0 (K3 (eC r n) 0 1 3)) (K6 kk5 0 1 2 3 9 10) = (K6 (aWr r n kk5) 0 1 2 3 9 10) :=
 (by kernel_rfl)
theorem bQh (m : Nat) : aN (fun kk => D124 r n mV (xs x0 0 (K3 (eC r n) 0 1 3)) kk) m = (K6 (rC r n m) 0 1 2 3 9 10) := by
 induction m with
 | zero => exact (by kernel_rfl : aN (fun kk => D124 r n mV (xs x0 0 (K3 (eC r n) 0 1 3)) kk) 0 = (K6 (rC r n 0) 0 1 2 3 9 10))
 | succ m ih =>
  refine (by kernel_rfl : aN (fun kk => D124 r n mV (xs x0 0 (K3 (eC r n) 0 1 3)) kk) (m + 1) = D124 r n mV (xs x0 0 (K3 (eC r n) 0 1 3)) (aN (fun kk => D124 r n mV (xs x0 0 (K3 (eC r n) 0 1 3)) kk) m)).trans ?_
  rw [ih]
  exact (bPt r n (rC r n m)).trans (by kernel_rfl)
theorem cCg : D124 r n xV (xs x0 0 (K3 (eC r n) 0 1 3)) (K3 (eC r n) 0 1 3) = (K6 (bFt r n) 0 1 2 3 9 10) :=
 (by kernel_rfl : D124 r n xV (xs x0 0 (K3 (eC r n) 0 1 3)) (K3 (eC r n) 0 1 3) = aN (fun kk => D124 r n mV (xs x0 0 (K3 (eC r n) 0 1 3)) kk) n).trans ((bQh r n n).trans (by kernel_rfl))
theorem cEs : D124 r n aMj x0 (K3 (eC r n) 0 1 3) = (K6 (aNz r n) 0 1 2 3 9 10) :=
 (by kernel_rfl : D124 r n aMj x0 (K3 (eC r n) 0 1 3) = D124 r n xV (xs x0 0 (K3 (eC r n) 0 1 3)) (K3 (eC r n) 0 1 3)).trans
 ((cCg r n).trans (by kernel_rfl))
theorem bMg : D124 r n yH x0 r124 = D124 r n uJ x0 (K3 (eC r n) 0 1 3) :=
 congrArg (fun k => D124 r n uJ x0 k) (cDb r n)
theorem bHx : D124 r n uJ x0 (K3 (eC r n) 0 1 3) = D124 r n bRa x0 (K6 (aNz r n) 0 1 2 3 9 10) :=
 congrArg (fun k => D124 r n bRa x0 k) (cEs r n)
theorem bVg : D124 r n yH x0 r124 = (K5 (aJj r n) 0 1 2 3 9) :=
 (bMg r n).trans
 ((bHx r n).trans
 ((by kernel_rfl)))
theorem bOw : D124 r n aBb x0 r124 = D124 r n bRf x0 (K5 (aJj r n) 0 1 2 3 9) :=
 congrArg (fun k => D124 r n bRf x0 k) (bVg r n)
theorem bUq : D124 r n aBb x0 r124 = (K4 (aMg r n) 0 1 2 3) :=
 (bOw r n).trans
 ((by kernel_rfl))
theorem cRl : D124 r n c124 x0 r124 = D124 r n aVd x0 (K4 (aMg r n) 0 1 2 3) :=
 congrArg (fun k => D124 r n aVd x0 k) (bUq r n)
theorem cVs : D124 r n c124 x0 r124 = (K4 (s124 r n) 0 1 2 3) :=
 (cRl r n).trans
 ((by kernel_rfl))
theorem cPh : aG CF r n 124 args h = s124 r n (aR args 0) (aR args 1) (aR args 2) (aR args 3) h :=
 (by kernel_rfl : aG CF r n 124 args h = D124 r n c124 x0 r124 (aJ args) h).trans ((congrFun (congrFun (cVs r n) (aJ args)) h).trans (by kernel_rfl))
noncomputable def eD (r : RT) (n : Nat) (h0 : Hp) : aH :=
 some ((.i .i64 (Int.negSucc 0)), h0)
noncomputable def aRh (r : RT) (n : Nat) (kk4 : dM) (x0 x1 x7 x8 : DV) (h0 : Hp) : aH :=
 bnd (aD .lss x8 x7 h0) fun v1 h1 =>
 aS v1 (
 bnd (aI 1 x0 x8 h1) fun v2 h2 =>
 bnd (aA v2 h2) fun v3 h3 =>
 bnd (dE CF r x1 [v3] h3) fun v4 h4 =>
 aS v4 (
 some (x8, h4)) (
 bnd (aD .add x8 (aE 1) h4) fun v5 h5 =>
    kk4 x0 x1 x7 v5 h5)) (
      eD r n h1)
noncomputable def sL (r : RT) (n : Nat) (m : Nat) : dM :=
 Nat.rec (motive := fun _ => dM) (fun _ _ _ _ _ => none) (fun _ ih => aRh r n ih) m
noncomputable def bSb (r : RT) (n : Nat) : dM := sL r n n
noncomputable def aPe (r : RT) (n : Nat) (x0 x1 x7 x8 : DV) (h0 : Hp) : aH :=
 bSb r n x0 x1 x7 x8 h0
noncomputable def aOg (r : RT) (n : Nat) (x0 x1 : DV) (h0 : Hp) : aH :=
 bnd (bS x0 h0) fun v1 h1 =>
  aPe r n x0 x1 v1 (aE 0) h1
noncomputable def s135 (r : RT) (n : Nat) (x0 x1 : DV) (h0 : Hp) : aH :=
 aOg r n x0 x1 h0
noncomputable abbrev c135 : Code := cf Tryz.f135
noncomputable abbrev aGc : Code := cR c135
noncomputable abbrev cRc : Code := cR aGc
noncomputable abbrev tE : Code := cL aGc
noncomputable abbrev aPd : Code := cR tE
noncomputable abbrev yU : Code := cL aPd
noncomputable abbrev mR : Code := cL yU
noncomputable abbrev bPk : Code := cL tE
noncomputable abbrev bHy : Code := cL c135
noncomputable abbrev r135 : K := aO CF Tryz.f135
noncomputable def D135 (r : RT) (n : Nat) (c : Code) (X : Nat → K) (k : K) : K := aP CF r 19 n c X r135 k
theorem cCl : D135 r n cRc x0 r135 = (K0 (eD r n)) :=
 (by kernel_rfl)
theorem bLo (kk4 : dM) : D135 r n mR (xs x0 0 (K0 (eD r n))) (K4 kk4 0 1 7 8) = (K4 (aRh r n kk4) 0 1 7 8) :=
 (by kernel_rfl)
theorem bEr (m : Nat) : aN (fun kk => D135 r n mR (xs x0 0 (K0 (eD r n))) kk) m = (K4 (sL r n m) 0 1 7 8) := by
 induction m with
 | zero => exact (by kernel_rfl : aN (fun kk => D135 r n mR (xs x0 0 (K0 (eD r n))) kk) 0 = (K4 (sL r n 0) 0 1 7 8))
 | succ m ih =>
  refine (by kernel_rfl : aN (fun kk => D135 r n mR (xs x0 0 (K0 (eD r n))) kk) (m + 1) = D135 r n mR (xs x0 0 (K0 (eD r n))) (aN (fun kk => D135 r n mR (xs x0 0 (K0 (eD r n))) kk) m)).trans ?_
  rw [ih]
  exact (bLo r n (sL r n m)).trans (by kernel_rfl)
theorem bSr : D135 r n yU (xs x0 0 (K0 (eD r n))) (K0 (eD r n)) = (K4 (bSb r n) 0 1 7 8) :=
 (by kernel_rfl : D135 r n yU (xs x0 0 (K0 (eD r n))) (K0 (eD r n)) = aN (fun kk => D135 r n mR (xs x0 0 (K0 (eD r n))) kk) n).trans ((bEr r n n).trans (by kernel_rfl))
theorem bWj : D135 r n aPd x0 (K0 (eD r n)) = (K4 (aPe r n) 0 1 7 8) :=
 (by kernel_rfl : D135 r n aPd x0 (K0 (eD r n)) = D135 r n yU (xs x0 0 (K0 (eD r n))) (K0 (eD r n))).trans
 ((bSr r n).trans (by kernel_rfl))
theorem bFj : D135 r n aGc x0 r135 = D135 r n tE x0 (K0 (eD r n)) :=
 congrArg (fun k => D135 r n tE x0 k) (cCl r n)
theorem bKl : D135 r n tE x0 (K0 (eD r n)) = D135 r n bPk x0 (K4 (aPe r n) 0 1 7 8) :=
 congrArg (fun k => D135 r n bPk x0 k) (bWj r n)
theorem cBv : D135 r n aGc x0 r135 = (K2 (aOg r n) 0 1) :=
 (bFj r n).trans
 ((bKl r n).trans
 ((by kernel_rfl)))
theorem cKo : D135 r n c135 x0 r135 = D135 r n bHy x0 (K2 (aOg r n) 0 1) :=
 congrArg (fun k => D135 r n bHy x0 k) (cBv r n)
theorem cTu : D135 r n c135 x0 r135 = (K2 (s135 r n) 0 1) :=
 (cKo r n).trans
 ((by kernel_rfl))
theorem cQd : aG CF r n 135 args h = s135 r n (aR args 0) (aR args 1) h :=
 (by kernel_rfl : aG CF r n 135 args h = D135 r n c135 x0 r135 (aJ args) h).trans ((congrFun (congrFun (cTu r n) (aJ args)) h).trans (by kernel_rfl))
noncomputable def s145 (r : RT) (n : Nat) (x0 x1 x2 : DV) (h0 : Hp) : aH :=
 bnd (aD .geq x0 x1 h0) fun v1 h1 =>
 bnd (gD v1 true (some (x0, h1)) h1) fun v2 h2 =>
 bnd (gD v1 true (some (x2, h2)) h2) fun v3 h3 =>
 bnd (gD v1 true (aD .leq v2 v3 h3) h3) fun v4 h4 =>
 bnd (aM v1 v4 (.b false) h4) fun v5 h5 =>
 some (v5, h5)
noncomputable abbrev c145 : Code := cf Tryz.f145
noncomputable abbrev r145 : K := aO CF Tryz.f145
noncomputable def D145 (r : RT) (n : Nat) (c : Code) (X : Nat → K) (k : K) : K := aP CF r 15 n c X r145 k
theorem cWc : D145 r n c145 x0 r145 = (K3 (s145 r n) 0 1 2) :=
 (by kernel_rfl)
theorem cIv : aG CF r n 145 args h = s145 r n (aR args 0) (aR args 1) (aR args 2) h :=
 (by kernel_rfl : aG CF r n 145 args h = D145 r n c145 x0 r145 (aJ args) h).trans ((congrFun (congrFun (cWc r n) (aJ args)) h).trans (by kernel_rfl))
noncomputable def s146 (r : RT) (n : Nat) (x0 x1 : DV) (h0 : Hp) : aH :=
 bnd (r 187 [x0, x1] h0) fun v1 h1 =>
 bnd (aD .geq v1 (aE 0) h1) fun v2 h2 =>
 some (v2, h2)
noncomputable abbrev c146 : Code := cf Tryz.f146
noncomputable abbrev r146 : K := aO CF Tryz.f146
noncomputable def D146 (r : RT) (n : Nat) (c : Code) (X : Nat → K) (k : K) : K := aP CF r 9 n c X r146 k
theorem cWd : D146 r n c146 x0 r146 = (K2 (s146 r n) 0 1) :=
 (by kernel_rfl)
theorem cQh : aG CF r n 146 args h = s146 r n (aR args 0) (aR args 1) h :=
 (by kernel_rfl : aG CF r n 146 args h = D146 r n c146 x0 r146 (aJ args) h).trans ((congrFun (congrFun (cWd r n) (aJ args)) h).trans (by kernel_rfl))
noncomputable def s147 (r : RT) (n : Nat) (x0 : DV) (h0 : Hp) : aH :=
 bnd (bU x0 h0) fun v1 h1 =>
 bnd (aK 4 v1 h1) fun v2 h2 =>
 bnd (r 148 [v2, (aE 20)] h2) fun v3 h3 =>
 bnd (gG .not v3 h3) fun v4 h4 =>
 some (v4, h4)
noncomputable abbrev c147 : Code := cf Tryz.f147
noncomputable abbrev r147 : K := aO CF Tryz.f147
noncomputable def D147 (r : RT) (n : Nat) (c : Code) (X : Nat → K) (k : K) : K := aP CF r 6 n c X r147 k
theorem cYj : D147 r n c147 x0 r147 = (K1 (s147 r n) 0) :=
 (by kernel_rfl)
theorem cOc : aG CF r n 147 args h = s147 r n (aR args 0) h :=
 (by kernel_rfl : aG CF r n 147 args h = D147 r n c147 x0 r147 (aJ args) h).trans ((congrFun (congrFun (cYj r n) (aJ args)) h).trans (by kernel_rfl))
noncomputable def s148 (r : RT) (n : Nat) (x0 x1 : DV) (h0 : Hp) : aH :=
 bnd (bU x0 h0) fun v1 h1 =>
 bnd (bU x1 h1) fun v2 h2 =>
 bnd (aB 0 v1 h2) fun v3 h3 =>
 bnd (aA v3 h3) fun v4 h4 =>
 bnd (aD .eql v4 (aE 1) h4) fun v5 h5 =>
 aS v5 (
 bnd (aB 1 v1 h5) fun v6 h6 =>
 bnd (aA v6 h6) fun v7 h7 =>
 bnd (eB .eql v7 (.s []) h7) fun v8 h8 =>
 bnd (gD v8 true (aB 3 v1 h8) h8) fun v9 h9 =>
 bnd (gD v8 true (aA v9 h9) h9) fun v10 h10 =>
 bnd (gD v8 true (bS v10 h10) h10) fun v11 h11 =>
 bnd (gD v8 true (aD .eql v11 (aE 0) h11) h11) fun v12 h12 =>
 bnd (aM v8 v12 (.b false) h12) fun v13 h13 =>
 bnd (gD v13 true (aB 2 v1 h13) h13) fun v14 h14 =>
 bnd (gD v13 true (aA v14 h14) h14) fun v15 h15 =>
 bnd (gD v13 true (r 145 [v15, (.i .i64 (Int.negSucc 1152921504606846975)), (aE 1152921504606846976)] h15) h15) fun v16 h16 =>
 bnd (aM v13 v16 (.b false) h16) fun v17 h17 =>
 some (v17, h17)) (
 bnd (aD .eql v4 (aE 2) h5) fun v18 h18 =>
 aS v18 (
 bnd (aB 2 v1 h18) fun v19 h19 =>
 bnd (aA v19 h19) fun v20 h20 =>
 bnd (aD .eql v20 (aE 0) h20) fun v21 h21 =>
 bnd (gD v21 true (aB 3 v1 h21) h21) fun v22 h22 =>
 bnd (gD v21 true (aA v22 h22) h22) fun v23 h23 =>
 bnd (gD v21 true (bS v23 h23) h23) fun v24 h24 =>
 bnd (gD v21 true (aD .eql v24 (aE 0) h24) h24) fun v25 h25 =>
 bnd (aM v21 v25 (.b false) h25) fun v26 h26 =>
 bnd (gD v26 true (aB 1 v1 h26) h26) fun v27 h27 =>
 bnd (gD v26 true (aA v27 h27) h27) fun v28 h28 =>
 bnd (gD v26 true (cU v28 h28) h28) fun v29 h29 =>
 bnd (gD v26 true (aD .leq v29 (aE 250) h29) h29) fun v30 h30 =>
 bnd (aM v26 v30 (.b false) h30) fun v31 h31 =>
 some (v31, h31)) (
 bnd (aD .eql v4 (aE 3) h18) fun v32 h32 =>
 aS v32 (
 bnd (aB 2 v1 h32) fun v33 h33 =>
 bnd (aA v33 h33) fun v34 h34 =>
 bnd (aD .eql v34 (aE 0) h34) fun v35 h35 =>
 bnd (gD v35 true (aB 3 v1 h35) h35) fun v36 h36 =>
 bnd (gD v35 true (aA v36 h36) h36) fun v37 h37 =>
 bnd (gD v35 true (bS v37 h37) h37) fun v38 h38 =>
 bnd (gD v35 true (aD .eql v38 (aE 0) h38) h38) fun v39 h39 =>
 bnd (aM v35 v39 (.b false) h39) fun v40 h40 =>
 bnd (gD v40 true (aB 1 v1 h40) h40) fun v41 h41 =>
 bnd (gD v40 true (aA v41 h41) h41) fun v42 h42 =>
 bnd (gD v40 true (cU v42 h42) h42) fun v43 h43 =>
 bnd (gD v40 true (r 145 [v43, (aE 1), (aE 60)] h43) h43) fun v44 h44 =>
 bnd (aM v40 v44 (.b false) h44) fun v45 h45 =>
 some (v45, h45)) (
 bnd (aD .eql v4 (aE 4) h32) fun v46 h46 =>
 aS v46 (
 bnd (aB 3 v1 h46) fun v47 h47 =>
 bnd (aA v47 h47) fun v48 h48 =>
 bnd (r 146 [v48, (.f 188 [] [v2])] h48) fun v49 h49 =>
 bnd (aB 2 v1 h49) fun v50 h50 =>
 bnd (aA v50 h50) fun v51 h51 =>
 bnd (aD .eql v51 (aE 0) h51) fun v52 h52 =>
 bnd (gD v52 true (aB 1 v1 h52) h52) fun v53 h53 =>
 bnd (gD v52 true (aA v53 h53) h53) fun v54 h54 =>
 bnd (gD v52 true (eB .eql v54 (.s []) h54) h54) fun v55 h55 =>
 bnd (aM v52 v55 (.b false) h55) fun v56 h56 =>
 bnd (gD v56 true (aA v2 h56) h56) fun v57 h57 =>
 bnd (gD v56 true (aD .gtr v57 (aE 0) h57) h57) fun v58 h58 =>
 bnd (aM v56 v58 (.b false) h58) fun v59 h59 =>
 bnd (gD v59 true (aB 3 v1 h59) h59) fun v60 h60 =>
 bnd (gD v59 true (aA v60 h60) h60) fun v61 h61 =>
 bnd (gD v59 true (bS v61 h61) h61) fun v62 h62 =>
 bnd (gD v59 true (aD .leq v62 (aE 250) h62) h62) fun v63 h63 =>
 bnd (aM v59 v63 (.b false) h63) fun v64 h64 =>
 bnd (gD v64 true (some (v49, h64)) h64) fun v65 h65 =>
 bnd (gD v64 true (gG .not v65 h65) h65) fun v66 h66 =>
 bnd (aM v64 v66 (.b false) h66) fun v67 h67 =>
 some (v67, h67)) (
 some ((.b false), h46)))))
noncomputable abbrev c148 : Code := cf Tryz.f148
noncomputable abbrev r148 : K := aO CF Tryz.f148
noncomputable def D148 (r : RT) (n : Nat) (c : Code) (X : Nat → K) (k : K) : K := aP CF r 86 n c X r148 k
theorem cSy : D148 r n c148 x0 r148 = (K2 (s148 r n) 0 1) :=
 (by kernel_rfl)
theorem cJq : aG CF r n 148 args h = s148 r n (aR args 0) (aR args 1) h :=
 (by kernel_rfl : aG CF r n 148 args h = D148 r n c148 x0 r148 (aJ args) h).trans ((congrFun (congrFun (cSy r n) (aJ args)) h).trans (by kernel_rfl))
noncomputable def s149 (r : RT) (n : Nat) (x0 : DV) (h0 : Hp) : aH :=
 bnd (bU x0 h0) fun v1 h1 =>
 bnd (aB 0 v1 h1) fun v2 h2 =>
 bnd (aA v2 h2) fun v3 h3 =>
 bnd (r 189 [v3] h3) fun v4 h4 =>
 bnd (aC 0 v4 h4) fun v5 h5 =>
 bnd (aC 1 v4 h5) fun v6 h6 =>
 bnd (aB 0 v1 h6) fun v7 h7 =>
 bnd (aA v7 h7) fun v8 h8 =>
 bnd (aD .geq v8 (aE 1) h8) fun v9 h9 =>
 bnd (gD v9 true (aB 0 v1 h9) h9) fun v10 h10 =>
 bnd (gD v9 true (aA v10 h10) h10) fun v11 h11 =>
 bnd (gD v9 true (aD .leq v11 (aE 20) h11) h11) fun v12 h12 =>
 bnd (aM v9 v12 (.b false) h12) fun v13 h13 =>
 bnd (gD v13 true (aB 1 v1 h13) h13) fun v14 h14 =>
 bnd (gD v13 true (aA v14 h14) h14) fun v15 h15 =>
 bnd (gD v13 true (some (v5, h15)) h15) fun v16 h16 =>
 bnd (gD v13 true (r 190 [v15, v16] h16) h16) fun v17 h17 =>
 bnd (aM v13 v17 (.b false) h17) fun v18 h18 =>
 bnd (gD v18 true (aB 2 v1 h18) h18) fun v19 h19 =>
 bnd (gD v18 true (aA v19 h19) h19) fun v20 h20 =>
 bnd (gD v18 true (some (v6, h20)) h20) fun v21 h21 =>
 bnd (gD v18 true (r 190 [v20, v21] h21) h21) fun v22 h22 =>
 bnd (aM v18 v22 (.b false) h22) fun v23 h23 =>
 some (v23, h23)
noncomputable abbrev c149 : Code := cf Tryz.f149
noncomputable abbrev r149 : K := aO CF Tryz.f149
noncomputable def D149 (r : RT) (n : Nat) (c : Code) (X : Nat → K) (k : K) : K := aP CF r 31 n c X r149 k
theorem cXu : D149 r n c149 x0 r149 = (K1 (s149 r n) 0) :=
 (by kernel_rfl)
theorem cLl : aG CF r n 149 args h = s149 r n (aR args 0) h :=
 (by kernel_rfl : aG CF r n 149 args h = D149 r n c149 x0 r149 (aJ args) h).trans ((congrFun (congrFun (cXu r n) (aJ args)) h).trans (by kernel_rfl))
noncomputable def aY (r : RT) (n : Nat) (h0 : Hp) : aH :=
 some ((.b true), h0)
noncomputable def sD (r : RT) (n : Nat) (x2 x3 x4 x27 x51 : DV) (h0 : Hp) : aH :=
 aS x51 (
 bnd (aB 1 x4 h0) fun v1 h1 =>
 bnd (aA v1 h1) fun v2 h2 =>
 bnd (aD .lss v2 x2 h2) fun v3 h3 =>
 some (v3, h3)) (
 bnd (aD .eql x27 (aE 18) h0) fun v4 h4 =>
 aS v4 (
 bnd (aB 2 x4 h4) fun v5 h5 =>
 bnd (aA v5 h5) fun v6 h6 =>
 bnd (aD .leq v6 (aE 4) h6) fun v7 h7 =>
 bnd (gD v7 true (aB 1 x4 h7) h7) fun v8 h8 =>
 bnd (gD v7 true (aA v8 h8) h8) fun v9 h9 =>
 bnd (gD v7 true (aB 2 x4 h9) h9) fun v10 h10 =>
 bnd (gD v7 true (aA v10 h10) h10) fun v11 h11 =>
 bnd (gD v7 true (aD .add v9 v11 h11) h11) fun v12 h12 =>
 bnd (gD v7 true (aB 2 x3 h12) h12) fun v13 h13 =>
 bnd (gD v7 true (aA v13 h13) h13) fun v14 h14 =>
 bnd (gD v7 true (aD .leq v12 v14 h14) h14) fun v15 h15 =>
 bnd (aM v7 v15 (.b false) h15) fun v16 h16 =>
 some (v16, h16)) (
   aY r n h4))
noncomputable def aWw (r : RT) (n : Nat) (x2 x3 x4 x27 : DV) (h0 : Hp) : aH :=
 bnd (aD .eql x27 (aE 8) h0) fun v1 h1 =>
 aS v1 (
  sD r n x2 x3 x4 x27 v1 h1) (
 bnd (aD .eql x27 (aE 11) h1) fun v2 h2 =>
  sD r n x2 x3 x4 x27 v2 h2)
noncomputable def qV (r : RT) (n : Nat) (x2 x3 x4 x27 x43 : DV) (h0 : Hp) : aH :=
 aS x43 (
 bnd (aB 1 x4 h0) fun v1 h1 =>
 bnd (aA v1 h1) fun v2 h2 =>
 bnd (aB 2 x3 h2) fun v3 h3 =>
 bnd (aA v3 h3) fun v4 h4 =>
 bnd (aD .lss v2 v4 h4) fun v5 h5 =>
 some (v5, h5)) (
  aWw r n x2 x3 x4 x27 h0)
noncomputable def aUh (r : RT) (n : Nat) (x2 x3 x4 x27 : DV) (h0 : Hp) : aH :=
 bnd (aD .eql x27 (aE 7) h0) fun v1 h1 =>
 aS v1 (
  qV r n x2 x3 x4 x27 v1 h1) (
 bnd (aD .eql x27 (aE 10) h1) fun v2 h2 =>
  qV r n x2 x3 x4 x27 v2 h2)
noncomputable def qZ (r : RT) (n : Nat) (x2 x3 x4 x8 x27 x34 : DV) (h0 : Hp) : aH :=
 aS x34 (
 bnd (gD x8 true (aB 2 x4 h0) h0) fun v1 h1 =>
 bnd (gD x8 true (aA v1 h1) h1) fun v2 h2 =>
 bnd (gD x8 true (aD .leq v2 (aE 4) h2) h2) fun v3 h3 =>
 bnd (aM x8 v3 (.b false) h3) fun v4 h4 =>
 some (v4, h4)) (
  aUh r n x2 x3 x4 x27 h0)
noncomputable def bDy (r : RT) (n : Nat) (x2 x3 x4 x8 x27 : DV) (h0 : Hp) : aH :=
 bnd (aD .eql x27 (aE 14) h0) fun v1 h1 =>
 aS v1 (
  qZ r n x2 x3 x4 x8 x27 v1 h1) (
 bnd (aD .eql x27 (aE 15) h1) fun v2 h2 =>
  qZ r n x2 x3 x4 x8 x27 v2 h2)
noncomputable def aNp (r : RT) (n : Nat) (x2 x3 x4 x8 x27 x31 : DV) (h0 : Hp) : aH :=
 aS x31 (
 some (x8, h0)) (
  bDy r n x2 x3 x4 x8 x27 h0)
noncomputable def bPe (r : RT) (n : Nat) (x2 x3 x4 x8 x27 : DV) (h0 : Hp) : aH :=
 bnd (aD .eql x27 (aE 9) h0) fun v1 h1 =>
  aNp r n x2 x3 x4 x8 x27 v1 h1
noncomputable def aKf (r : RT) (n : Nat) (x2 x3 x4 x7 x8 x27 x28 : DV) (h0 : Hp) : aH :=
 aS x28 (
 some (x7, h0)) (
  bPe r n x2 x3 x4 x8 x27 h0)
noncomputable def aKc (r : RT) (n : Nat) (x2 x3 x4 x7 x8 x27 : DV) (h0 : Hp) : aH :=
 bnd (aD .eql x27 (aE 6) h0) fun v1 h1 =>
  aKf r n x2 x3 x4 x7 x8 x27 v1 h1
noncomputable def aJv (r : RT) (n : Nat) (x2 x3 x4 x7 x8 : DV) (h0 : Hp) : aH :=
 bnd (aB 0 x4 h0) fun v1 h1 =>
 bnd (aA v1 h1) fun v2 h2 =>
  aKc r n x2 x3 x4 x7 x8 v2 h2
noncomputable def aMm (r : RT) (n : Nat) (x2 x3 x4 x7 : DV) (h0 : Hp) : aH :=
 bnd (gD x7 true (aB 4 x3 h0) h0) fun v1 h1 =>
 bnd (gD x7 true (aA v1 h1) h1) fun v2 h2 =>
 bnd (gD x7 true (aB 1 x4 h2) h2) fun v3 h3 =>
 bnd (gD x7 true (aA v3 h3) h3) fun v4 h4 =>
 bnd (gD x7 true (aI 4 v2 v4 h4) h4) fun v5 h5 =>
 bnd (gD x7 true (aB 0 v5 h5) h5) fun v6 h6 =>
 bnd (gD x7 true (aA v6 h6) h6) fun v7 h7 =>
 bnd (gD x7 true (aD .eql v7 (aE 3) h7) h7) fun v8 h8 =>
 bnd (aM x7 v8 (.b false) h8) fun v9 h9 =>
  aJv r n x2 x3 x4 x7 v9 h9
noncomputable def vZ (r : RT) (n : Nat) (x2 x3 x4 : DV) (h0 : Hp) : aH :=
 bnd (aB 1 x4 h0) fun v1 h1 =>
 bnd (aA v1 h1) fun v2 h2 =>
 bnd (aB 4 x3 h2) fun v3 h3 =>
 bnd (aA v3 h3) fun v4 h4 =>
 bnd (bS v4 h4) fun v5 h5 =>
 bnd (aD .lss v2 v5 h5) fun v6 h6 =>
  aMm r n x2 x3 x4 v6 h6
noncomputable def s150 (r : RT) (n : Nat) (x0 x1 x2 : DV) (h0 : Hp) : aH :=
 bnd (bU x0 h0) fun v1 h1 =>
 bnd (bU x1 h1) fun v2 h2 =>
  vZ r n x2 v1 v2 h2
noncomputable abbrev c150 : Code := cf Tryz.f150
noncomputable abbrev aGy : Code := cR c150
noncomputable abbrev aFx : Code := cR aGy
noncomputable abbrev zL : Code := cR aFx
noncomputable abbrev cIi : Code := cR zL
noncomputable abbrev uZ : Code := cL zL
noncomputable abbrev aLt : Code := cR uZ
noncomputable abbrev zY : Code := cL aLt
noncomputable abbrev vF : Code := cR zY
noncomputable abbrev tF : Code := cR vF
noncomputable abbrev nY : Code := cR tF
noncomputable abbrev nS : Code := cR nY
noncomputable abbrev nW : Code := cR nS
noncomputable abbrev nU : Code := cR nW
noncomputable abbrev oB : Code := cR nU
noncomputable abbrev nK : Code := cR oB
noncomputable abbrev cAr : Code := cR nK
noncomputable abbrev aWg : Code := cL nK
noncomputable abbrev cEy : Code := cL oB
noncomputable abbrev aWt : Code := cL nU
noncomputable abbrev cEc : Code := cL nW
noncomputable abbrev aRk : Code := cL nS
noncomputable abbrev bUm : Code := cL nY
noncomputable abbrev aRt : Code := cL tF
noncomputable abbrev bXh : Code := cL vF
noncomputable abbrev aSu : Code := cL zY
noncomputable abbrev aSg : Code := cL uZ
noncomputable abbrev aTi : Code := cL aFx
noncomputable abbrev aTu : Code := cL aGy
noncomputable abbrev aDj : Code := cL c150
noncomputable abbrev r150 : K := aO CF Tryz.f150
noncomputable def D150 (r : RT) (n : Nat) (c : Code) (X : Nat → K) (k : K) : K := aP CF r 73 n c X r150 k
theorem cDl : D150 r n cIi x0 r150 = (K0 (aY r n)) :=
 (by kernel_rfl)
theorem bMf : D150 r n cAr (xs x0 0 (K0 (aY r n))) (K0 (aY r n)) = (K5 (sD r n) 2 3 4 27 51) :=
 (by kernel_rfl)
theorem aZf : D150 r n nK (xs x0 0 (K0 (aY r n))) (K0 (aY r n)) = D150 r n aWg (xs x0 0 (K0 (aY r n))) (K5 (sD r n) 2 3 4 27 51) :=
 congrArg (fun k => D150 r n aWg (xs x0 0 (K0 (aY r n))) k) (bMf r n)
theorem bCg : D150 r n nK (xs x0 0 (K0 (aY r n))) (K0 (aY r n)) = (K4 (aWw r n) 2 3 4 27) :=
 (aZf r n).trans
 ((by kernel_rfl))
theorem bBf : D150 r n oB (xs x0 0 (K0 (aY r n))) (K0 (aY r n)) = (K5 (qV r n) 2 3 4 27 43) :=
 (by kernel_rfl : D150 r n oB (xs x0 0 (K0 (aY r n))) (K0 (aY r n)) = (fun (env : aU) (h : Hp) => aS (opr env (cC oB)) (D150 r n cEy (xs x0 0 (K0 (aY r n))) (K0 (aY r n)) env h) (D150 r n nK (xs x0 0 (K0 (aY r n))) (K0 (aY r n)) env h))).trans (by rw [bCg r n]; kernel_rfl)
theorem aZx : D150 r n nU (xs x0 0 (K0 (aY r n))) (K0 (aY r n)) = D150 r n aWt (xs x0 0 (K0 (aY r n))) (K5 (qV r n) 2 3 4 27 43) :=
 congrArg (fun k => D150 r n aWt (xs x0 0 (K0 (aY r n))) k) (bBf r n)
theorem bEe : D150 r n nU (xs x0 0 (K0 (aY r n))) (K0 (aY r n)) = (K4 (aUh r n) 2 3 4 27) :=
 (aZx r n).trans
 ((by kernel_rfl))
theorem bIm : D150 r n nW (xs x0 0 (K0 (aY r n))) (K0 (aY r n)) = (K6 (qZ r n) 2 3 4 8 27 34) :=
 (by kernel_rfl : D150 r n nW (xs x0 0 (K0 (aY r n))) (K0 (aY r n)) = (fun (env : aU) (h : Hp) => aS (opr env (cC nW)) (D150 r n cEc (xs x0 0 (K0 (aY r n))) (K0 (aY r n)) env h) (D150 r n nU (xs x0 0 (K0 (aY r n))) (K0 (aY r n)) env h))).trans (by rw [bEe r n]; kernel_rfl)
theorem bGk : D150 r n nS (xs x0 0 (K0 (aY r n))) (K0 (aY r n)) = D150 r n aRk (xs x0 0 (K0 (aY r n))) (K6 (qZ r n) 2 3 4 8 27 34) :=
 congrArg (fun k => D150 r n aRk (xs x0 0 (K0 (aY r n))) k) (bIm r n)
theorem bXy : D150 r n nS (xs x0 0 (K0 (aY r n))) (K0 (aY r n)) = (K5 (bDy r n) 2 3 4 8 27) :=
 (bGk r n).trans
 ((by kernel_rfl))
theorem bYg : D150 r n nY (xs x0 0 (K0 (aY r n))) (K0 (aY r n)) = (K6 (aNp r n) 2 3 4 8 27 31) :=
 (by kernel_rfl : D150 r n nY (xs x0 0 (K0 (aY r n))) (K0 (aY r n)) = (fun (env : aU) (h : Hp) => aS (opr env (cC nY)) (D150 r n bUm (xs x0 0 (K0 (aY r n))) (K0 (aY r n)) env h) (D150 r n nS (xs x0 0 (K0 (aY r n))) (K0 (aY r n)) env h))).trans (by rw [bXy r n]; kernel_rfl)
theorem bPu : D150 r n tF (xs x0 0 (K0 (aY r n))) (K0 (aY r n)) = D150 r n aRt (xs x0 0 (K0 (aY r n))) (K6 (aNp r n) 2 3 4 8 27 31) :=
 congrArg (fun k => D150 r n aRt (xs x0 0 (K0 (aY r n))) k) (bYg r n)
theorem bVl : D150 r n tF (xs x0 0 (K0 (aY r n))) (K0 (aY r n)) = (K5 (bPe r n) 2 3 4 8 27) :=
 (bPu r n).trans
 ((by kernel_rfl))
theorem bVb : D150 r n vF (xs x0 0 (K0 (aY r n))) (K0 (aY r n)) = (K7 (aKf r n) 2 3 4 7 8 27 28) :=
 (by kernel_rfl : D150 r n vF (xs x0 0 (K0 (aY r n))) (K0 (aY r n)) = (fun (env : aU) (h : Hp) => aS (opr env (cC vF)) (D150 r n bXh (xs x0 0 (K0 (aY r n))) (K0 (aY r n)) env h) (D150 r n tF (xs x0 0 (K0 (aY r n))) (K0 (aY r n)) env h))).trans (by rw [bVl r n]; kernel_rfl)
theorem bOe : D150 r n zY (xs x0 0 (K0 (aY r n))) (K0 (aY r n)) = D150 r n aSu (xs x0 0 (K0 (aY r n))) (K7 (aKf r n) 2 3 4 7 8 27 28) :=
 congrArg (fun k => D150 r n aSu (xs x0 0 (K0 (aY r n))) k) (bVb r n)
theorem bWc : D150 r n aLt x0 (K0 (aY r n)) = (K6 (aKc r n) 2 3 4 7 8 27) :=
 (by kernel_rfl : D150 r n aLt x0 (K0 (aY r n)) = D150 r n zY (xs x0 0 (K0 (aY r n))) (K0 (aY r n))).trans
 ((bOe r n).trans
 ((by kernel_rfl)))
theorem bDr : D150 r n zL x0 r150 = D150 r n uZ x0 (K0 (aY r n)) :=
 congrArg (fun k => D150 r n uZ x0 k) (cDl r n)
theorem bSh : D150 r n uZ x0 (K0 (aY r n)) = D150 r n aSg x0 (K6 (aKc r n) 2 3 4 7 8 27) :=
 congrArg (fun k => D150 r n aSg x0 k) (bWc r n)
theorem bSn : D150 r n zL x0 r150 = (K5 (aJv r n) 2 3 4 7 8) :=
 (bDr r n).trans
 ((bSh r n).trans
 ((by kernel_rfl)))
theorem bPw : D150 r n aFx x0 r150 = D150 r n aTi x0 (K5 (aJv r n) 2 3 4 7 8) :=
 congrArg (fun k => D150 r n aTi x0 k) (bSn r n)
theorem cBj : D150 r n aFx x0 r150 = (K4 (aMm r n) 2 3 4 7) :=
 (bPw r n).trans
 ((by kernel_rfl))
theorem bGz : D150 r n aGy x0 r150 = D150 r n aTu x0 (K4 (aMm r n) 2 3 4 7) :=
 congrArg (fun k => D150 r n aTu x0 k) (cBj r n)
theorem bTl : D150 r n aGy x0 r150 = (K3 (vZ r n) 2 3 4) :=
 (bGz r n).trans
 ((by kernel_rfl))
theorem cBo : D150 r n c150 x0 r150 = D150 r n aDj x0 (K3 (vZ r n) 2 3 4) :=
 congrArg (fun k => D150 r n aDj x0 k) (bTl r n)
theorem bSz (q0 : lO) : D150 r n aDj x0 (K3 q0 2 3 4) = fun (env : aU) (h : Hp) =>
 bnd (bU (env 0) h) fun v1 h1 =>
 bnd (bU (env 1) h1) fun v2 h2 =>
  q0 (env 2) v1 v2 h2 := by kernel_rfl
theorem bIn : (fun (env : aU) (h : Hp) =>
 bnd (bU (env 0) h) fun v1 h1 =>
 bnd (bU (env 1) h1) fun v2 h2 =>
  vZ r n (env 2) v1 v2 h2) = (K3 (s150 r n) 0 1 2) := by kernel_rfl
theorem cXk : D150 r n c150 x0 r150 = (K3 (s150 r n) 0 1 2) :=
 (cBo r n).trans
 ((bSz r n (vZ r n)).trans (bIn r n))
theorem cIy : aG CF r n 150 args h = s150 r n (aR args 0) (aR args 1) (aR args 2) h :=
 (by kernel_rfl : aG CF r n 150 args h = D150 r n c150 x0 r150 (aJ args) h).trans ((congrFun (congrFun (cXk r n) (aJ args)) h).trans (by kernel_rfl))
noncomputable def eH (r : RT) (n : Nat) (x3 : DV) (h0 : Hp) : aH :=
 some (x3, h0)
noncomputable def aUb (r : RT) (n : Nat) (kk6 : dM) (x3 x4 x11 x12 : DV) (h0 : Hp) : aH :=
 bnd (aD .lss x12 x11 h0) fun v1 h1 =>
 aS v1 (
 bnd (dE CF r x4 [x12] h1) fun v2 h2 =>
 bnd (aI 1 x3 x12 h2) fun v3 h3 =>
 bnd (aF 1 v3 v2 h3) fun _ h4 =>
 bnd (aD .add x12 (aE 1) h4) fun v5 h5 =>
      kk6 x3 x4 x11 v5 h5) (
      eH r n x3 h1)
noncomputable def sT (r : RT) (n : Nat) (m : Nat) : dM :=
 Nat.rec (motive := fun _ => dM) (fun _ _ _ _ _ => none) (fun _ ih => aUb r n ih) m
noncomputable def bHr (r : RT) (n : Nat) : dM := sT r n n
noncomputable def aPk (r : RT) (n : Nat) (x3 x4 x11 x12 : DV) (h0 : Hp) : aH :=
 bHr r n x3 x4 x11 x12 h0
noncomputable def aKj (r : RT) (n : Nat) (x1 x3 x4 : DV) (h0 : Hp) : aH :=
 bnd (aA x1 h0) fun v1 h1 =>
 bnd (bS v1 h1) fun v2 h2 =>
  aPk r n x3 x4 v2 (aE 0) h2
noncomputable def tK (r : RT) (n : Nat) (x1 x3 : DV) (h0 : Hp) : aH :=
 aKj r n x1 x3 (.f 191 [] [x1]) h0
noncomputable def pC (r : RT) (n : Nat) (x1 : DV) (h0 : Hp) : aH :=
 bnd (aA x1 h0) fun v1 h1 =>
 bnd (bS v1 h1) fun v2 h2 =>
 bnd (cB 1 8 [(aE 0)] v2 v2 h2) fun v3 h3 =>
  tK r n x1 v3 h3
noncomputable def s151 (r : RT) (n : Nat) (x0 : DV) (h0 : Hp) : aH :=
 bnd (bU x0 h0) fun v1 h1 =>
  pC r n v1 h1
noncomputable abbrev c151 : Code := cf Tryz.f151
noncomputable abbrev aGb : Code := cR c151
noncomputable abbrev aFd : Code := cR aGb
noncomputable abbrev yY : Code := cR aFd
noncomputable abbrev cQz : Code := cR yY
noncomputable abbrev uL : Code := cL yY
noncomputable abbrev aPg : Code := cR uL
noncomputable abbrev aDc : Code := cL aPg
noncomputable abbrev mY : Code := cL aDc
noncomputable abbrev bEk : Code := cL uL
noncomputable abbrev aSx : Code := cL aFd
noncomputable abbrev aDs : Code := cL aGb
noncomputable abbrev zG : Code := cL c151
noncomputable abbrev r151 : K := aO CF Tryz.f151
noncomputable def D151 (r : RT) (n : Nat) (c : Code) (X : Nat → K) (k : K) : K := aP CF r 23 n c X r151 k
theorem bVj : D151 r n cQz x0 r151 = (K1 (eH r n) 3) :=
 (by kernel_rfl)
theorem bCs (kk6 : dM) : D151 r n mY (xs x0 0 (K1 (eH r n) 3)) (K4 kk6 3 4 11 12) = (K4 (aUb r n kk6) 3 4 11 12) :=
 (by kernel_rfl)
theorem bOx (m : Nat) : aN (fun kk => D151 r n mY (xs x0 0 (K1 (eH r n) 3)) kk) m = (K4 (sT r n m) 3 4 11 12) := by
 induction m with
 | zero => exact (by kernel_rfl : aN (fun kk => D151 r n mY (xs x0 0 (K1 (eH r n) 3)) kk) 0 = (K4 (sT r n 0) 3 4 11 12))
 | succ m ih =>
  refine (by kernel_rfl : aN (fun kk => D151 r n mY (xs x0 0 (K1 (eH r n) 3)) kk) (m + 1) = D151 r n mY (xs x0 0 (K1 (eH r n) 3)) (aN (fun kk => D151 r n mY (xs x0 0 (K1 (eH r n) 3)) kk) m)).trans ?_
  rw [ih]
  exact (bCs r n (sT r n m)).trans (by kernel_rfl)
theorem bTg : D151 r n aDc (xs x0 0 (K1 (eH r n) 3)) (K1 (eH r n) 3) = (K4 (bHr r n) 3 4 11 12) :=
 (by kernel_rfl : D151 r n aDc (xs x0 0 (K1 (eH r n) 3)) (K1 (eH r n) 3) = aN (fun kk => D151 r n mY (xs x0 0 (K1 (eH r n) 3)) kk) n).trans ((bOx r n n).trans (by kernel_rfl))
theorem cAb : D151 r n aPg x0 (K1 (eH r n) 3) = (K4 (aPk r n) 3 4 11 12) :=
 (by kernel_rfl : D151 r n aPg x0 (K1 (eH r n) 3) = D151 r n aDc (xs x0 0 (K1 (eH r n) 3)) (K1 (eH r n) 3)).trans
 ((bTg r n).trans (by kernel_rfl))
theorem bJa : D151 r n yY x0 r151 = D151 r n uL x0 (K1 (eH r n) 3) :=
 congrArg (fun k => D151 r n uL x0 k) (bVj r n)
theorem bQp : D151 r n uL x0 (K1 (eH r n) 3) = D151 r n bEk x0 (K4 (aPk r n) 3 4 11 12) :=
 congrArg (fun k => D151 r n bEk x0 k) (cAb r n)
theorem cAy : D151 r n yY x0 r151 = (K3 (aKj r n) 1 3 4) :=
 (bJa r n).trans
 ((bQp r n).trans
 ((by kernel_rfl)))
theorem bDn : D151 r n aFd x0 r151 = D151 r n aSx x0 (K3 (aKj r n) 1 3 4) :=
 congrArg (fun k => D151 r n aSx x0 k) (cAy r n)
theorem cBi : D151 r n aFd x0 r151 = (K2 (tK r n) 1 3) :=
 (bDn r n).trans
 ((by kernel_rfl))
theorem bIp : D151 r n aGb x0 r151 = D151 r n aDs x0 (K2 (tK r n) 1 3) :=
 congrArg (fun k => D151 r n aDs x0 k) (cBi r n)
theorem bRy (q0 : gF) : D151 r n aDs x0 (K2 q0 1 3) = fun (env : aU) (h : Hp) =>
 bnd (aA (env 1) h) fun v1 h1 =>
 bnd (bS v1 h1) fun v2 h2 =>
 bnd (cB 1 8 [(aE 0)] v2 v2 h2) fun v3 h3 =>
  q0 (env 1) v3 h3 := by kernel_rfl
theorem aXs : (fun (env : aU) (h : Hp) =>
 bnd (aA (env 1) h) fun v1 h1 =>
 bnd (bS v1 h1) fun v2 h2 =>
 bnd (cB 1 8 [(aE 0)] v2 v2 h2) fun v3 h3 =>
  tK r n (env 1) v3 h3) = (K1 (pC r n) 1) := by kernel_rfl
theorem bWn : D151 r n aGb x0 r151 = (K1 (pC r n) 1) :=
 (bIp r n).trans
 ((bRy r n (tK r n)).trans (aXs r n))
theorem cMi : D151 r n c151 x0 r151 = D151 r n zG x0 (K1 (pC r n) 1) :=
 congrArg (fun k => D151 r n zG x0 k) (bWn r n)
theorem cNk (q0 : TT1) : D151 r n zG x0 (K1 q0 1) = fun (env : aU) (h : Hp) =>
 bnd (bU (env 0) h) fun v1 h1 =>
  q0 v1 h1 := by kernel_rfl
theorem cDd : (fun (env : aU) (h : Hp) =>
 bnd (bU (env 0) h) fun v1 h1 =>
  pC r n v1 h1) = (K1 (s151 r n) 0) := by kernel_rfl
theorem cXs : D151 r n c151 x0 r151 = (K1 (s151 r n) 0) :=
 (cMi r n).trans
 ((cNk r n (pC r n)).trans (cDd r n))
theorem cPw : aG CF r n 151 args h = s151 r n (aR args 0) h :=
 (by kernel_rfl : aG CF r n 151 args h = D151 r n c151 x0 r151 (aJ args) h).trans ((congrFun (congrFun (cXs r n) (aJ args)) h).trans (by kernel_rfl))
end Go.Dd

