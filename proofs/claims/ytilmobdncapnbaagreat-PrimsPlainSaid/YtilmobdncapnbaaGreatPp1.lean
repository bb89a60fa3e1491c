/- A part of the proof: N O CH RF1 RF2 RF3 RF4 RF5 RF6 RF7 SM SN RS RG MF Qh Q0 Q1 Q2: each text has a comment of its own. -/
import Derived.Test.YtilmobdncapnbaaGreatPp0
import Derived.LoopN
import Derived.Scope
import Derived.OrdersIn
import Derived.LoopNIn
import Derived.LoopIn
import Derived.RangeFuncIn
import Derived.RangeFuncCalls
import Derived.RangeFuncLeaves
import Derived.Test.YtilmobdncapnbaaGreatProg
import Derived.KernelRfl
set_option linter.unusedVariables false
set_option linter.unusedSimpArgs false
set_option linter.constructorNameAsVariable false
set_option maxRecDepth 100000
namespace Go.Dd
open Go.RowKit (Below)
section
variable {C : Cfg} {G : Gd} {rec : FuncId → List DV → Hp → aJ} {ops : Array Oper} {nt : Nat} {p0 : Pos}
theorem qZ {listed : Array Bool} {i : Nat} : i ∈ Region.ready .any ops listed ↔ i < ops.size ∧ listed.getD i true = false ∧ ∃ o, ops[i]? = some o ∧ ∀ e ∈ o.after, Region.binds .any e = true → listed.getD e.on false = true := by
 unfold Region.ready
 rw [List.mem_filter]
 simp only [List.mem_range, Bool.and_eq_true, Bool.not_eq_eq_eq_not, Bool.not_true]
 constructor
 ·rintro ⟨h1, h2, h3⟩
  refine ⟨h1, h2, ops[i], by simp [h1], fun e he hb => ?_⟩
  simp only [h1, getElem?_pos, Option.map_some, Option.getD_some] at h3
  have := (Array.all_eq_true_iff_forall_mem.1 h3) e he
  simpa [hb] using this
 ·rintro ⟨h1, h2, o, ho, h3⟩
  refine ⟨h1, h2, ?_⟩
  simp only [ho, Option.map_some, Option.getD_some]
  refine Array.all_eq_true_iff_forall_mem.2 fun e he => ?_
  cases hb : Region.binds .any e with
  | false => simp
  | true => simp [h3 e he hb]
noncomputable def idp (C : Cfg) (ops : Array Oper) (p0 : Pos) (p : Nat) : Pos := bW (cD C.P (ops.toList.take p)) p0
structure Tr1 (C : Cfg) (rec : FuncId → List DV → Hp → aJ) (ops : Array Oper) (nt : Nat) (p0 : Pos) (E : Nat → aZ) (Hh : Nat → Hp) (V : Nat → DV) : Prop where
 ok : fA C.P ops = true
 st : ∀ p o, ops[p]? = some o → StepT C rec ops (Region.before ops) nt (idp C ops p0 p) E Hh V 0 [(none, Hh 0)] p o
theorem Tr1.same {E : Nat → aZ} {Hh : Nat → Hp} {V : Nat → DV} (T : Tr1 C rec ops nt p0 E Hh V) {p : Nat} {o : Oper} (ho : ops[p]? = some o) (hc : bV C.P o.op ≠ .acts) (hm : bV C.P o.op ≠ .makes) : Hh (p + 1) = Hh p := by
 have hs := (T.st p o ho).step hm
 cases hcl : bV C.P o.op with
 | pure => exact (qE hcl _ _ _ hs).1
 | reads => exact oE hcl hs
 | makes => exact absurd hcl hm
 | acts => exact absurd hcl hc
def cSd (C : Cfg) (ops : Array Oper) (q : Nat) : Prop := q = 0 ∨ ∃ j oj, ops[j]? = some oj ∧ bV C.P oj.op = .acts ∧ q = j + 1
theorem oA {m : Array Nat} {i q : Nat} {Pv : Hp → Prop} {Hh : Nat → Hp} {tl : List (Option Nat × Hp)} : ∀ d, q ≤ d → rT m i Pv (iK C ops Hh 0 d ++ tl) →
  (∀ j oj, ops[j]? = some oj → bV C.P oj.op = .acts → q ≤ j → j < d → ¬ gB m j i = true) → rT m i Pv (iK C ops Hh 0 q ++ tl)
 | 0, hq, hc, _ => by have : q = 0 := by omega
                      subst this; exact hc
 | d + 1, hq, hc, hno => by
  by_cases e : q = d + 1
  ·subst e; exact hc
  ·have hq' : q ≤ d := by omega
   simp only [iK, Nat.zero_add] at hc
   cases ha : jG C ops d with
   | false =>
    rw [ha] at hc
    simp only [Bool.false_eq_true, if_false, List.nil_append] at hc
    exact oA d hq' hc fun j oj h1 h2 h3 h4 => hno j oj h1 h2 h3 (by omega)
   | true =>
    rw [ha] at hc
    simp only [if_true, List.cons_append, List.nil_append] at hc
    obtain ⟨_, h2⟩ := hc
    have ⟨oj, hoj, hcj⟩ : ∃ oj, ops[d]? = some oj ∧ bV C.P oj.op = .acts := by
     unfold jG at ha
     split at ha
     ·rename_i o ho; exact ⟨o, ho, by simpa using ha⟩
     ·cases ha
    rcases h2 with h2 | h2
    ·exact absurd h2 (hno d oj hoj hcj hq' (by omega))
    ·exact oA d hq' h2 fun j oj h1 h2 h3 h4 => hno j oj h1 h2 h3 (by omega)
theorem Tr1.value {E : Nat → aZ} {Hh : Nat → Hp} {V : Nat → DV} (T : Tr1 C rec ops nt p0 E Hh V) {listed : Array Bool} {i q : Nat} {o : Oper} (ho : ops[i]? = some o) (hc : bV C.P o.op ≠ .acts) (hm : bV C.P o.op ≠ .makes)
  (hq : cSd C ops q) (hgap : ∀ j oj, ops[j]? = some oj → bV C.P oj.op = .acts → (j < q ↔ S listed j))
  (hni : ¬ S listed i) (hdown : ∀ j x, gB (Region.before ops) j x = true → S listed x → S listed j) (hpre : ∀ j, gB (Region.before ops) j i = true → S listed j) :
  bJ C rec ops o (E i) (Hh q) = some (V i, Hh q) := by
 have hst := T.st i o ho
 cases hcl : bV C.P o.op with
 | acts => exact absurd hcl hc
 | makes => exact absurd hcl hm
 | pure => exact (qE hcl _ _ _ (hst.step hm)).2 _
 | reads =>
  rcases Nat.lt_or_ge i q with h | h
  ·rcases hq with rfl | ⟨j, oj, hj, haj, rfl⟩
   ·omega
   ·have hSj : S listed j := (hgap j oj hj haj).1 (by omega)
    have hij : i ≠ j := fun e => by subst e; exact hni hSj
    rcases (T.st j oj hj).acts haj i o (Nat.zero_le _) (by omega) ho hcl with h3 | h3
    ·exact absurd (hdown i j h3 hSj) hni
    ·exact rW hcl h3
  ·have h1 := hst.reads hcl
   rw [Nat.sub_zero] at h1
   have h2 := oA (q := q) i h h1 fun j oj hj haj hqj hji hord => by
    have := (hgap j oj hj haj).2 (hpre j hord)
    omega
   rcases hq with rfl | ⟨j, oj, hj, haj, rfl⟩
   ·exact h2.1
   ·simp only [iK, Nat.zero_add, (bGh hj).2 haj, if_true, List.cons_append, List.nil_append] at h2
    exact h2.1
theorem cQd {listed : Array Bool} {i j : Nat} (hi : i < listed.size) : S (listed.setIfInBounds i true) j ↔ (j = i ∨ S listed j) := by
 unfold S
 by_cases e : j = i
 ·subst e; simp [hi]
 ·simp [Array.getElem?_setIfInBounds_ne (Ne.symm e), e]
theorem rL {listed : Array Bool} {i : Nat} (hi : i < listed.size) : listed.getD i true = listed.getD i false := by
 simp [hi]
theorem cZm {V : Nat → DV} {env : aZ} {listed : Array Bool} {i : Nat} {o : Oper} (ho : ops[i]? = some o) (hi : i < listed.size) (hni : ¬ S listed i) (t : Nat)
  (hlast : ∀ j oj, i < j → ops[j]? = some oj → oj.dst = some t → o.dst = some t → ¬ S listed j) :
  ∀ p, i < p → TS ops V env (listed.setIfInBounds i true) p t = if o.dst = some t then V i else TS ops V env listed p t := by
 have hbefore : ∀ p, p ≤ i → TS ops V env (listed.setIfInBounds i true) p = TS ops V env listed p := by
  intro p
  induction p with
  | zero => intro _; rfl
  | succ p ih =>
   intro h
   have e : (listed.setIfInBounds i true).getD p false = listed.getD p false := by simp [Array.getElem?_setIfInBounds_ne (show i ≠ p by omega)]
   simp only [TS, ih (by omega), e]
 intro p
 induction p with
 | zero => intro h; omega
 | succ p ih =>
  intro h
  by_cases hpi : p = i
  ·subst hpi
   have e1 : (listed.setIfInBounds p true).getD p false = true := by simp [hi]
   have e2 : ¬ listed.getD p false = true := hni
   simp only [TS, ho, hbefore p (Nat.le_refl _), e1, if_true, lF]
   rw [if_neg e2]
  ·have ih' := ih (by omega)
   have e : (listed.setIfInBounds i true).getD p false = listed.getD p false := by simp [Array.getElem?_setIfInBounds_ne (Ne.symm hpi)]
   cases hop : ops[p]? with
   | none => simp only [TS, hop]; exact ih'
   | some op =>
    simp only [TS, hop, e]
    split
    ·rename_i hl
     rw [lF, lF, ih']
     by_cases hd : op.dst = some t
     ·rw [if_pos hd, if_pos hd]
      by_cases hod : o.dst = some t
      ·exact absurd hl (hlast p op (by omega) hop hd hod)
      ·rw [if_neg hod]
     ·rw [if_neg hd, if_neg hd]
    ·exact ih'
def iJ (C : Cfg) (ops : Array Oper) (listed : Array Bool) (q i : Nat) : Prop := ∃ o, ops[i]? = some o ∧ bV C.P o.op = .makes ∧ S listed i ∧ q ≤ i
def GX (G : Gd) (N : Nat) (C : Cfg) (ops : Array Oper) (listed : Array Bool) (R : Nat → Nat) (q : Nat) : Gd := ⟨G.B, fun k => G.X k ∨ ∃ i, iJ C ops listed q i ∧ R i = k, N, G.W, G.ok⟩
structure Made (G : Gd) (C : Cfg) (ops : Array Oper) (p0 : Pos) (Hh : Nat → Hp) (ρ : dA) (w : World) (R : Nat → Nat) (i : Nat) : Prop where
 name : ρ (idp C ops p0 i) = some ⟨R i, 0, 0, none⟩
 low : G.B ≤ R i
 ex : ¬ G.X (R i)
 row : ∃ (arr : Array Value) (t : TypeId) (cs : List DV), w.heap[R i]? = some (.cells arr t (0, 0)) ∧ VRs ρ cs arr.toList ∧ Hh (i + 1) = ⟨(Hh i).next, Tr.set (.row .ex cs) (idp C ops p0 i) (Hh i).bl⟩
theorem aLo {E : Nat → aZ} {Hh : Nat → Hp} {V : Nat → DV} (T : Tr1 C rec ops nt p0 E Hh V) {listed : Array Bool} {R : Nat → Nat} {N q : Nat} {ρ : dA} {w : World}
  (hmade : ∀ i, iJ C ops listed q i → Made G C ops p0 Hh ρ w R i) (hdist : ∀ i i', iJ C ops listed q i → iJ C ops listed q i' → R i = R i' → i = i') :
  ∀ p, q ≤ p → p ≤ ops.size → (∀ j oj, ops[j]? = some oj → q ≤ j → j < p → bV C.P oj.op ≠ .acts ∧ (bV C.P oj.op = .makes → S listed j)) →
  HR (GX G N C ops listed R q) ρ (Hh q) w → HR (GX G N C ops listed R p) ρ (Hh p) w := by
 intro p
 induction p with
 | zero => intro h1 _ _ H; have : q = 0 := by omega
           subst this; exact H
 | succ p ih =>
  intro h1 h2 hr H
  by_cases e : q = p + 1
  ·subst e; exact H
  ·have H' := ih (by omega) (by omega) (fun j oj hj hq hjp => hr j oj hj hq (by omega)) H
   obtain ⟨o, ho⟩ : ∃ o, ops[p]? = some o := ⟨ops[p], by simp [show p < ops.size by omega]⟩
   obtain ⟨ha, hm⟩ := hr p o ho (by omega) (by omega)
   have hsub : ∀ k, (GX G N C ops listed R (p + 1)).X k → (GX G N C ops listed R p).X k := by
    rintro k (hk | ⟨i, ⟨oi, h3, h4, h5, h6⟩, h7⟩)
    ·exact .inl hk
    ·exact .inr ⟨i, ⟨oi, h3, h4, h5, by omega⟩, h7⟩
   by_cases hmk : bV C.P o.op = .makes
   ·have hE : iJ C ops listed q p := ⟨o, ho, hmk, hm hmk, by omega⟩
    have hM := hmade p hE
    obtain ⟨arr, t, cs, r1, r2, r3⟩ := hM.row
    rw [r3]
    refine dRm (G := GX G N C ops listed R (p + 1)) H' rfl hsub (Nat.le_refl _) rfl hM.name r1 r2 hM.low ?_ (.inr ⟨p, ⟨o, ho, hmk, hm hmk, Nat.le_refl _⟩, rfl⟩)
    rintro (hk | ⟨i, ⟨oi, h3, h4, h5, h6⟩, h7⟩)
    ·exact hM.ex hk
    ·have := hdist i p ⟨oi, h3, h4, h5, by omega⟩ hE h7
     omega
   ·rw [T.same ho ha hmk]
    exact H'.weak rfl hsub (Nat.le_refl _) rfl
def Inv (DD : List Deferred) (C : Cfg) (G : Gd) (ops : Array Oper) (nt : Nat) (p0 : Pos) (N : Nat) (E : Nat → aZ) (Hh : Nat → Hp) (V : Nat → DV) (ρ : dA) (w0 : World) (listed : Array Bool) (a : Act) (w : World) : Prop :=
 listed.size = ops.size ∧ (∀ j x, gB (Region.before ops) j x = true → S listed x → S listed j) ∧
 ∃ q, q ≤ ops.size ∧ cSd C ops q ∧ (∀ j oj, ops[j]? = some oj → bV C.P oj.op = .acts → (j < q ↔ S listed j)) ∧
 ∃ (ρ' : dA) (R : Nat → Nat), Ex G ρ ρ' ∧ HR (GX G N C ops listed R q) ρ' (Hh q) w ∧ EnvR ρ' (TS ops V (E 0) listed ops.size) a ∧ Kp G w0 w ∧ nt ≤ a.tmps.size ∧ a.defers = DD ∧
  (∀ i o, ops[i]? = some o → bV C.P o.op = .makes → ¬ S listed i → ρ' (idp C ops p0 i) = none) ∧
  (∀ i, iJ C ops listed q i → Made G C ops p0 Hh ρ' w R i) ∧ (∀ i i', iJ C ops listed q i → iJ C ops listed q i' → R i = R i' → i = i')
theorem bLe {i : Nat} {o : Oper} (ho : ops[i]? = some o) (hm : bV C.P o.op = .makes) : (idp C ops p0 i).toNat < p0.toNat + cD C.P ops.toList := by
 unfold idp
 rw [dX]
 have hlt : i < ops.toList.length := by
  rcases Nat.lt_or_ge i ops.toList.length with h | h
  ·exact h
  ·simp at h; simp [Array.getElem?_eq_none h] at ho
 have key : ∀ (l : List Oper) (i : Nat), l[i]? = some o → cD C.P (l.take i) < cD C.P l := by
  intro l
  induction l with
  | nil => intro i h; simp at h
  | cons x l ih =>
   intro i h
   cases i with
   | zero => simp at h; subst h; simp [cD, hm]; omega
   | succ i => simp at h; have := ih i h; simp only [List.take_succ_cons, cD]; omega
 have := key ops.toList i (by simpa using ho)
 omega
theorem cXn {i i' : Nat} {o o' : Oper} (ho : ops[i]? = some o) (hm : bV C.P o.op = .makes) (ho' : ops[i']? = some o') (hm' : bV C.P o'.op = .makes) (hne : i ≠ i') : idp C ops p0 i ≠ idp C ops p0 i' := by
 have key : ∀ (l : List Oper) (i j : Nat) (o : Oper), l[i]? = some o → bV C.P o.op = .makes → i < j → cD C.P (l.take i) < cD C.P (l.take j) := by
  intro l
  induction l with
  | nil => intro i j o h; simp at h
  | cons x l ih =>
   intro i j o h hm hij
   cases j with
   | zero => omega
   | succ j =>
    cases i with
    | zero => simp at h; subst h; simp only [List.take_succ_cons, cD, hm, List.take_zero]; omega
    | succ i => simp at h; have := ih i j o h hm (by omega); simp only [List.take_succ_cons, cD]; omega
 intro e
 have e' := congrArg Pos.toNat e
 unfold idp at e'
 rw [dX, dX] at e'
 rcases Nat.lt_or_ge i i' with h | h
 ·have := key ops.toList i i' o (by simpa using ho) hm h; omega
 ·have := key ops.toList i' i o' (by simpa using ho') hm' (by omega); omega
theorem bKm {DD : List Deferred} (K : OkC C rec) {N : Nat} {E : Nat → aZ} {Hh : Nat → Hp} {V : Nat → DV} (T : Tr1 C rec ops nt p0 E Hh V) (hN : N = p0.toNat + cD C.P ops.toList) (hGN : G.N ≤ p0.toNat) {ρ : dA} {w0 : World} {Q : Exit → Act → World → Prop}
  (hQ : ∀ ρ' a' w', Ex G ρ ρ' → HR G ρ' (Hh ops.size) w' → EnvR ρ' (E ops.size) a' → Kp G w0 w' → nt ≤ a'.tmps.size → a'.defers = DD → Q .normal a' w') :
  ∀ (fuel : Nat) (listed : Array Bool) (a : Act) (w : World), Inv DD C G ops nt p0 N E Hh V ρ w0 listed a w → ((List.range ops.size).filter fun i => !listed.getD i false).length ≤ fuel → wpAny C.P .any ops Q fuel listed a w := by
 have hlt : ∀ p, p < ops.size → ∃ o, ops[p]? = some o := fun p hp => ⟨ops[p], by simp [hp]⟩
 have hin : ∀ (j : Nat) oj, ops[j]? = some oj → j < ops.size := fun j oj hj => by
  rcases Nat.lt_or_ge j ops.size with h | h
  ·exact h
  ·simp [Array.getElem?_eq_none h] at hj
 have hend : ∀ listed a w, Inv DD C G ops nt p0 N E Hh V ρ w0 listed a w → (∀ i, i < ops.size → S listed i) → Q .normal a w := by
  rintro listed a w ⟨hsz, hdown, q, hq, hcand, hgap, ρ', R, h1, h2, h3, h4, h5, h6, h7, h8, h9⟩ hall
  have hH := aLo (G := G) T h8 h9 ops.size hq (Nat.le_refl _) (fun j oj hj hqj hjn => ⟨fun ha => by
   have := (hgap j oj hj ha).2 (hall j hjn)
   omega, fun _ => hall j hjn⟩) h2
  have hE : ∀ t, TS ops V (E 0) listed ops.size t = E ops.size t := fun t =>
   bMi (E := E) rfl (fun p o hp ho => (T.st p o ho).env) (fun p hp => hlt p hp) (fun j o hj _ _ => hall j hj) ops.size (Nat.le_refl _)
  refine hQ ρ' a w h1 (hH.weak rfl (fun k hk => .inl hk) (by show G.N ≤ N; omega) rfl) (fun t => ?_) h4 h5 h6
  rw [← hE t]
  exact h3 t
 have hready : ∀ listed, listed.size = ops.size → Region.ready .any ops listed = [] → ∀ i, i < ops.size → S listed i := by
  intro listed hsz hr i
  induction i using Nat.strongRecOn with
  | _ i ih =>
   intro hi
   obtain ⟨o, ho⟩ := hlt i hi
   by_cases hs : S listed i
   ·exact hs
   ·exfalso
    have hmem : i ∈ Region.ready .any ops listed := by
     rw [qZ]
     refine ⟨hi, ?_, o, ho, fun e he hb => ?_⟩
     ·rw [rL (by omega)]
      unfold S at hs
      simpa using hs
     ·have := (dQ T.ok ho).1 e he hb
      exact ih e.on this (by omega)
    rw [hr] at hmem
    cases hmem
 intro fuel
 induction fuel with
 | zero =>
  intro listed a w hI hfuel
  have hall : ∀ i, i < ops.size → S listed i := by
   intro i hi
   by_cases hs : S listed i
   ·exact hs
   ·exfalso
    have : i ∈ (List.range ops.size).filter fun i => !listed.getD i false := by
     rw [List.mem_filter]
     refine ⟨by simpa using hi, ?_⟩
     unfold S at hs
     simpa using hs
    have := List.length_pos_of_mem this
    omega
  refine ⟨?_, hend listed a w hI hall⟩
  cases hr : Region.ready .any ops listed with
  | nil => rfl
  | cons x xs =>
   have hx : x ∈ Region.ready .any ops listed := by rw [hr]; simp
   rw [qZ] at hx
   have := hall x hx.1
   rw [rL (by rw [hI.1]; exact hx.1)] at hx
   unfold S at this
   rw [this] at hx
   cases hx.2.1
 | succ fuel ih =>
  intro listed a w hI hfuel
  refine ⟨fun hr => hend listed a w hI (hready listed hI.1 hr), fun i hi => ?_⟩
  obtain ⟨hsz, hdown, q, hq, hcand, hgap, ρ', R, h1, h2, h3, h4, h5, h6, h7, h8, h9⟩ := hI
  rw [qZ] at hi
  obtain ⟨hisz, hni, o, ho, hpre0⟩ := hi
  rw [rL (by omega)] at hni
  have hnS : ¬ S listed i := by unfold S; rw [hni]; simp
  have hpre : ∀ j, gB (Region.before ops) j i = true → S listed j := by
   intro j hj
   obtain ⟨e, he, hb, h | h⟩ := aLd ho hj
   ·rw [← h]; exact hpre0 e he hb
   ·exact hdown j e.on h (hpre0 e he hb)
  have hst := T.st i o ho
  have hlook : ∀ t ∈ o.looksAt ops, TS ops V (E 0) listed ops.size t = E i t := by
   intro t ht
   rw [cJk (i := i) (fun j oj hij hj hd hS => ?_) ops.size (by omega)]
   ·exact bMi (E := E) rfl (fun p op hp hop => (T.st p op hop).env) (fun p hp => hlt p (by omega)) (fun j oj hj hoj hd => by
     rcases (dQ T.ok ho).2.2 j oj hj hoj with h | ⟨h, _⟩
     ·exact hpre j h
     ·exact absurd ht ((Oper.apart_spec h).1 t hd)) i (Nat.le_refl _)
   ·rcases Nat.eq_or_lt_of_le hij with e | e
    ·subst e; exact hnS hS
    ·rcases (dQ T.ok hj).2.2 i o e ho with h | ⟨h, _⟩
     ·exact hnS (hdown i j h hS)
     ·exact absurd ht ((Oper.apart_spec h).2.2 t hd)
  have hmkq : ∀ j oj, ops[j]? = some oj → bV C.P oj.op = .makes → j < q → S listed j := by
   intro j oj hj hmj hjq
   rcases hcand with rfl | ⟨l, ol, hl, hal, rfl⟩
   ·omega
   ·have hSl : S listed l := (hgap l ol hl hal).1 (by omega)
    have hjl : j ≠ l := fun e => by subst e; rw [hl] at hj; cases hj; rw [hal] at hmj; cases hmj
    rcases (dQ T.ok hl).2.2 j oj (by omega) hj with h | ⟨_, h⟩
    ·exact hdown j l h hSl
    ·exact absurd ⟨.inr hmj, hal⟩ h
  have hdown' : ∀ j x, gB (Region.before ops) j x = true → S (listed.setIfInBounds i true) x → S (listed.setIfInBounds i true) j := by
   intro j x hjx hx
   rw [cQd (by omega)] at hx ⊢
   rcases hx with rfl | hx
   ·exact .inr (hpre j hjx)
   ·exact .inr (hdown j x hjx hx)
  have hTS : ∀ (ρ2 : dA) (v2 : Value), Ext ρ' ρ2 → VR ρ2 (V i) v2 → EnvR ρ2 (TS ops V (E 0) (listed.setIfInBounds i true) ops.size) (a.put o.dst v2) := by
   intro ρ2 v2 e1 e2 t
   rw [cZm ho (by omega) hnS t (fun j oj hij hj hd hod hS => by
    rcases (dQ T.ok hj).2.2 i o hij ho with h | ⟨h, _⟩
    ·exact hnS (hdown i j h hS)
    ·exact (Oper.apart_spec h).2.1 t hod hd) ops.size (by omega)]
   have := EnvR.put h3 e1 e2 hst.fits h5 t
   rwa [lF] at this
  have hcount : ((List.range ops.size).filter fun j => !(listed.setIfInBounds i true).getD j false).length ≤ fuel := by
   have hmem : i ∈ (List.range ops.size).filter fun i => !listed.getD i false := by
    rw [List.mem_filter]
    exact ⟨by simpa using hisz, by simp [hni]⟩
   have hle : ((List.range ops.size).filter fun j => !(listed.setIfInBounds i true).getD j false).length < ((List.range ops.size).filter fun j => !listed.getD j false).length := by
    have hsub : ((List.range ops.size).filter fun j => !(listed.setIfInBounds i true).getD j false) = ((List.range ops.size).filter fun j => !listed.getD j false).filter (fun j => j != i) := by
     rw [List.filter_filter]
     apply List.filter_congr
     intro j hj
     by_cases e : j = i
     ·subst e; simp [show j < listed.size by omega]
     ·simp [Array.getElem?_setIfInBounds_ne (Ne.symm e), e]
    rw [hsub]
    exact List.length_filter_lt_length_iff_exists.2 ⟨i, hmem, by simp⟩
   omega
  have hS' : ∀ j, S (listed.setIfInBounds i true) j ↔ (j = i ∨ S listed j) := fun j => cQd (by omega)
  by_cases hmk : bV C.P o.op = .makes
  ·
   have hqi : q ≤ i := by
    rcases Nat.lt_or_ge i q with h | h
    ·exact absurd (hmkq i o ho hmk h) hnS
    ·exact h
   have hg := (dQ T.ok ho).2.1 hmk
   have hbn := h7 i o ho hmk hnS
   have hst1 := hst.made hmk
   have hext : Ext ρ' (nJ ρ' (idp C ops p0 i) ⟨w.heap.size, 0, 0, none⟩) := by
    intro x L hx
    by_cases e : x = idp C ops p0 i
    ·subst e; rw [hbn] at hx; cases hx
    ·rw [aX _ _ e]; exact hx
   have hE0 : dT C o (idp C ops p0 i) (TS ops V (E 0) listed ops.size) (Hh i) = some (V i, Hh (i + 1)) := by
    rw [← hst1]
    refine zZ fun x hx => aAt fun t ht => hlook t ?_
    unfold Oper.looksAt
    refine List.mem_append_left _ (List.mem_filterMap.2 ⟨x, by simpa using hx, ?_⟩)
    rw [ht]
   obtain ⟨cs, arr, t, v', m1, m2, m3, m4⟩ := cWy (w := w) h3 hE0 hbn
   have hidlt := bLe (p0 := p0) ho hmk
   have H2 := h2.early hbn (by have := h2.nx; simp only [GX] at this; omega) arr t
   unfold wpOp
   simp only [ho]
   rw [if_pos (by simp [Region.wanted, hg])]
   refine .inl ?_
   unfold Oper.wp
   rw [m1]
   show wpAny C.P .any ops Q fuel (listed.setIfInBounds i true) (a.put o.dst v') (w.alloc (.cells arr t))
   have hEarly : ∀ j, iJ C ops (listed.setIfInBounds i true) q j → j = i ∨ iJ C ops listed q j := by
    rintro j ⟨oj, e1, e2, e3, e4⟩
    rcases (hS' j).1 e3 with e | e
    ·exact .inl e
    ·exact .inr ⟨oj, e1, e2, e, e4⟩
   have hRlt : ∀ j, iJ C ops listed q j → R j < w.heap.size := fun j hj => h2.sz.2 _ (.inr ⟨j, hj, rfl⟩)
   have hjne : ∀ j, iJ C ops listed q j → j ≠ i := by
    rintro j ⟨oj, e1, e2, e3, e4⟩ e
    subst e; exact hnS e3
   refine ih _ _ _ ⟨by simpa using hsz, hdown', q, hq, hcand, fun j oj hj haj => ?_, nJ ρ' (idp C ops p0 i) ⟨w.heap.size, 0, 0, none⟩, fun j => if j = i then w.heap.size else R j, ?_, ?_, hTS _ _ hext m4, ?_, by rw [pY]; exact h5, by rw [lJ]; exact h6, ?_, ?_, ?_⟩ hcount
   ·rw [hS' j, hgap j oj hj haj]
    constructor
    ·exact .inr
    ·rintro (h | h)
     ·subst h; rw [ho] at hj; cases hj; rw [hmk] at haj; cases haj
     ·exact h
   ·refine h1.trans ⟨hext, fun b L hb => ?_⟩
    by_cases e : b = idp C ops p0 i
    ·right
     rw [e]
     unfold idp
     rw [dX]
     omega
    ·rw [aX _ _ e] at hb; exact .inl hb
   ·refine H2.weak rfl ?_ (Nat.le_refl _) rfl
    rintro k (hk | ⟨j, hj, hjk⟩)
    ·exact .inl (.inl hk)
    ·rcases hEarly j hj with rfl | hj'
     ·right; simpa using hjk.symm
     ·left; right
      refine ⟨j, hj', ?_⟩
      simpa [hjne j hj'] using hjk
   ·exact h4.trans (fL (G := G) ⟨h2.sz.1, fun k hk => h2.sz.2 k (.inl hk)⟩ _)
   ·intro j oj hj hmj hSj
    have hji : j ≠ i := fun e => hSj ((hS' j).2 (.inl e))
    rw [aX _ _ (cXn hj hmj ho hmk hji)]
    exact h7 j oj hj hmj fun h => hSj ((hS' j).2 (.inr h))
   ·intro j hj
    rcases hEarly j hj with rfl | hj'
    ·refine ⟨by simp [cG], by simp; exact h2.sz.1, ?_, arr, t, cs, ?_, m2.mono hext, m3⟩
     ·simp only [if_true]
      intro hx
      have := h2.sz.2 _ (.inl hx)
      omega
     ·simp only [if_true]
      show (w.heap.push _)[w.heap.size]? = _
      simp
    ·have hM := h8 j hj'
     obtain ⟨arr', t', cs', r1, r2, r3⟩ := hM.row
     have hji := hjne j hj'
     refine ⟨?_, by simp [hji]; exact hM.low, by simp [hji]; exact hM.ex, arr', t', cs', ?_, r2.mono hext, r3⟩
     ·simp only [hji, if_false]; exact hext _ _ hM.name
     ·simp only [hji, if_false]
      rw [Below.heap_alloc _ _ _ (hRlt j hj')]
      exact r1
   ·intro j j' hj hj' he
    rcases hEarly j hj with rfl | hj1
    ·rcases hEarly j' hj' with rfl | hj1'
     ·rfl
     ·simp only [if_true, hjne j' hj1', if_false] at he
      have := hRlt j' hj1'
      omega
    ·rcases hEarly j' hj' with rfl | hj1'
     ·simp only [if_true, hjne j hj1, if_false] at he
      have := hRlt j hj1
      omega
     ·simp only [hjne j hj1, hjne j' hj1', if_false] at he
      exact h9 j j' hj1 hj1' he
  ·
   have hstep : ∃ q1 q2, q ≤ q1 ∧ q1 ≤ ops.size ∧ q2 ≤ ops.size ∧ q1 ≤ q2 ∧ cSd C ops q2 ∧ HR (GX G N C ops listed R q1) ρ' (Hh q1) w ∧
     bJ C rec ops o (TS ops V (E 0) listed ops.size) (Hh q1) = some (V i, Hh q2) ∧
     (∀ j oj, ops[j]? = some oj → bV C.P oj.op = .acts → (j < q2 ↔ S (listed.setIfInBounds i true) j)) ∧
     (∀ j, iJ C ops (listed.setIfInBounds i true) q2 j → iJ C ops listed q1 j) := by
    rw [show bJ C rec ops o (TS ops V (E 0) listed ops.size) = bJ C rec ops o (E i) from funext fun h => aMl hlook]
    by_cases ha : bV C.P o.op = .acts
    ·have hqi : q ≤ i := by
      rcases Nat.lt_or_ge i q with h | h
      ·exact absurd ((hgap i o ho ha).1 h) hnS
      ·exact h
     refine ⟨i, i + 1, hqi, by omega, by omega, by omega, .inr ⟨i, o, ho, ha, rfl⟩, ?_, hst.step hmk, fun j oj hj haj => ?_, ?_⟩
     ·refine aLo (G := G) T h8 h9 i hqi (by omega) (fun j oj hj hqj hji => ⟨fun haj => ?_, fun hmj => ?_⟩) h2
      ·rcases (dQ T.ok ho).2.2 j oj hji hj with h | ⟨_, h⟩
       ·have := (hgap j oj hj haj).2 (hpre j h); omega
       ·exact absurd ⟨.inl haj, ha⟩ h
      ·rcases (dQ T.ok ho).2.2 j oj hji hj with h | ⟨_, h⟩
       ·exact hpre j h
       ·exact absurd ⟨.inr hmj, ha⟩ h
     ·rw [hS' j]
      constructor
      ·intro hlt'
       by_cases e : j = i
       ·exact .inl e
       ·right
        rcases (dQ T.ok ho).2.2 j oj (by omega) hj with h | ⟨_, h⟩
        ·exact hpre j h
        ·exact absurd ⟨.inl haj, ha⟩ h
      ·rintro (h | h)
       ·omega
       ·rcases Nat.lt_or_ge i j with hij | hij
        ·rcases (dQ T.ok hj).2.2 i o hij ho with h' | ⟨_, h'⟩
         ·exact absurd (hdown i j h' h) hnS
         ·exact absurd ⟨.inl ha, haj⟩ h'
        ·omega
     ·rintro j ⟨oj, e1, e2, e3, e4⟩
      rcases (hS' j).1 e3 with e | e
      ·omega
      ·exact ⟨oj, e1, e2, e, by omega⟩
    ·refine ⟨q, q, Nat.le_refl _, hq, hq, Nat.le_refl _, hcand, h2, T.value ho ha hmk hcand hgap hnS hdown hpre, fun j oj hj haj => ?_, ?_⟩
     ·rw [hS' j, hgap j oj hj haj]
      constructor
      ·exact .inr
      ·rintro (h | h)
       ·subst h; rw [ho] at hj; cases hj; exact absurd haj ha
       ·exact h
     ·rintro j ⟨oj, e1, e2, e3, e4⟩
      rcases (hS' j).1 e3 with e | e
      ·subst e; rw [ho] at e1; cases e1; exact absurd e2 hmk
      ·exact ⟨oj, e1, e2, e, e4⟩
   obtain ⟨q1, q2, k1, k2, k2', k12, k3, k4, k5, k6, k7⟩ := hstep
   refine aFw (aIp K k4 h3 k5) rfl ho k4 fun ρ2 w2 v2 e1 e2 e3 e4 => ?_
   have hEq : ∀ j, iJ C ops listed q1 j → iJ C ops listed q j := by
    rintro j ⟨oj, f1, f2, f3, f4⟩
    exact ⟨oj, f1, f2, f3, by omega⟩
   refine ih _ _ _ ⟨by simpa using hsz, hdown', q2, k2', k3, k6, ρ2, R, ?_, ?_, hTS _ _ e1.ext e2, ?_, by rw [pY]; exact h5, by rw [lJ]; exact h6, ?_, ?_, ?_⟩ hcount
   ·refine h1.trans ⟨e1.ext, fun b L hb => (e1.new b L hb).imp id fun h => ?_⟩
    simp only [GX] at h
    omega
   ·refine e3.weak rfl ?_ (Nat.le_refl _) rfl
    rintro k (hk | ⟨j, hj, hjk⟩)
    ·exact .inl hk
    ·exact .inr ⟨j, k7 j hj, hjk⟩
   ·exact h4.trans ⟨e4.low, fun k hk => e4.ex k (.inl hk)⟩
   ·intro j oj hj hmj hSj
    have hn := h7 j oj hj hmj fun h => hSj ((hS' j).2 (.inr h))
    cases hr : ρ2 (idp C ops p0 j) with
    | none => rfl
    | some L =>
     rcases e1.new _ _ hr with h | h
     ·rw [hn] at h; cases h
     ·have := bLe (p0 := p0) hj hmj
      simp only [GX] at h
      omega
   ·intro j hj
    have hj1 := k7 j hj
    have hM := h8 j (hEq j hj1)
    obtain ⟨arr', t', cs', r1, r2, r3⟩ := hM.row
    exact ⟨e1.ext _ _ hM.name, hM.low, hM.ex, arr', t', cs', by rw [e4.ex _ (.inr ⟨j, hj1, rfl⟩)]; exact r1, r2.mono e1.ext, r3⟩
   ·intro j j' hj hj' he
    exact h9 j j' (hEq j (k7 j hj)) (hEq j' (k7 j' hj')) he
theorem bKf {DD : List Deferred} (K : OkC C rec) {k : Dd.K} {r : DV × Hp} {env : aZ} {h : Hp} {ρ : dA} {a : Act} {w : World} {Q : Exit → Act → World → Prop}
  (hok : fA C.P ops = true) (hp : iL C rec nt ops k env h = some r) (H : HR G ρ h w) (he : EnvR ρ env a) (hnt : nt ≤ a.tmps.size) (hd : a.defers = DD)
  (hQ : ∀ ρ' env' h' a' w', Ex G ρ ρ' → HR G ρ' h' w' → EnvR ρ' env' a' → Kp G w w' → nt ≤ a'.tmps.size → a'.defers = DD → k env' h' = some r → Q .normal a' w') :
  wpAny C.P .any ops Q ops.size (Array.replicate ops.size false) a { w with drawn := w.drawn + 1 } := by
 obtain ⟨E, Hh, V, e1, e2, e3, e4⟩ := sL (p0 := h.next) ops.toList 0 0 false [] _ env _ r hp (by simp) (fun _ => ⟨_, _, rfl⟩)
 simp only [Nat.zero_add, Array.length_toList, Nat.sub_zero] at e3 e4
 have T : Tr1 C rec ops nt h.next E Hh V := ⟨hok, fun p o ho => by
  have := (e4 p o (Nat.zero_le _) (by
   rcases Nat.lt_or_ge p ops.size with h | h
   ·exact h
   ·simp [Array.getElem?_eq_none h] at ho) ho).1
  rw [← e2] at this
  exact this⟩
 obtain ⟨n1, n2⟩ := aAq (cD C.P ops.toList) h
 have hNN : (resv (cD C.P ops.toList) h).next.toNat = h.next.toNat + cD C.P ops.toList := by rw [n1, dX]
 refine (bKm (G := G) K T rfl H.nx (ρ := ρ) (w0 := w) (fun ρ' a' w' h1 h2 h3 h4 h5 h6 => hQ ρ' _ _ a' w' h1 h2 h3 h4 h5 h6 e3) ops.size _ a _ ?_ ?_)
 ·have hno : ∀ j, ¬ S (Array.replicate ops.size false) j := by
   intro j hj
   unfold S at hj
   simp [Array.getElem?_replicate] at hj
   split at hj <;> simp at hj
  have hnoE : ∀ j, ¬ iJ C ops (Array.replicate ops.size false) 0 j := by
   rintro j ⟨oj, _, _, h3, _⟩
   exact hno j h3
  refine ⟨by simp, fun j x _ hx => absurd hx (hno x), 0, Nat.zero_le _, .inl rfl, fun j oj hj ha => ⟨fun h => by omega, fun h => absurd h (hno j)⟩, ρ, fun _ => 0, Ex.refl G ρ, ?_, ?_, ?_, hnt, hd, ?_, fun j hj => absurd hj (hnoE j), fun j j' hj => absurd hj (hnoE j)⟩
  ·rw [e2]
   have := (H.reserve (cD C.P ops.toList)).congr (w' := { w with drawn := w.drawn + 1 }) rfl
   rw [hNN] at this
   refine this.weak rfl ?_ (Nat.le_refl _) rfl
   rintro k (hk | ⟨j, hj, _⟩)
   ·exact hk
   ·exact absurd hj (hnoE j)
  ·have hT : ∀ p, TS ops V (E 0) (Array.replicate ops.size false) p = E 0 := by
    intro p
    induction p with
    | zero => rfl
    | succ p ih =>
     simp only [TS, ih]
     split
     ·rename_i o ho
      rw [if_neg (show ¬ (Array.replicate ops.size false).getD p false = true from hno p)]
     ·rfl
   intro t
   rw [hT, e1]
   exact he t
  ·exact (Kp.refl G w).drew
  ·intro j oj hj hmj _
   cases hr : ρ (idp C ops h.next j) with
   | none => rfl
   | some L =>
    have h1 := H.lt _ _ hr
    unfold idp at h1
    rw [dX] at h1
    omega
 ·have := List.length_filter_le (fun i => !(Array.replicate ops.size false).getD i false) (List.range ops.size)
  simpa using this
theorem bBh {DD : List Deferred} (K : OkC C rec) (hm : C.P.follows .mixedOrders = true) {id : Nat} {k : Dd.K} {r : DV × Hp} {env : aZ} {h : Hp} {ρ : dA} {a : Act} {w : World} {Q : Exit → Act → World → Prop}
  (hok : fA C.P ops = true) (hp : iL C rec nt ops k env h = some r) (H : HR G ρ h w) (he : EnvR ρ env a) (hnt : nt ≤ a.tmps.size) (hd : a.defers = DD)
  (hQ : ∀ ρ' env' h' a' w', Ex G ρ ρ' → HR G ρ' h' w' → EnvR ρ' env' a' → Kp G w w' → nt ≤ a'.tmps.size → a'.defers = DD → k env' h' = some r → Q .normal a' w') :
  (Code.region id ops true).wp C.P Q a w :=
 wp_region_any hm (bKf K hok hp H he hnt hd hQ)
end
end Go.Dd

namespace Go.Dd
open Go.RowKit (Below)
section
variable {C : Cfg} {G : Gd} {rec : FuncId → List DV → Hp → aJ} {nt n : Nat}
def St (DD : List Deferred) (G : Gd) (nt : Nat) (ρ : dA) (w0 : World) (k : K) (r : DV × Hp) (a : Act) (w : World) : Prop :=
 ∃ ρ' env h, Ex G ρ ρ' ∧ HR G ρ' h w ∧ EnvR ρ' env a ∧ Kp G w0 w ∧ nt ≤ a.tmps.size ∧ a.defers = DD ∧ k env h = some r
def QQ (DD : List Deferred) (G : Gd) (nt : Nat) (ρ : dA) (w0 : World) (X : Nat → K) (kr k : K) (r : DV × Hp) : Exit → Act → World → Prop
 | .normal, a, w => St DD G nt ρ w0 k r a w
 | .exit id, a, w => St DD G nt ρ w0 (X id) r a w
 | .ret, a, w => St DD G nt ρ w0 kr r a w
 | _, _, _ => False
theorem cLy {DD : List Deferred} (K : OkC C rec) (hm : C.P.follows .mixedOrders = true) {ρ : dA} {w0 : World} {r : DV × Hp} : ∀ (c : Code) (X : Nat → Dd.K) (kr k : Dd.K) (a : Act) (w : World),
  St DD G nt ρ w0 (aM C rec nt n c X kr k) r a w → c.wp C.P (QQ DD G nt ρ w0 X kr k r) a w := by
 intro c
 induction c with
 | skip => intro X kr k a w h; exact wp_skip h
 | region id ops dr =>
  intro X kr k a w h
  obtain ⟨ρ', env, hp, h1, h2, h3, h4, h5, h6, h7⟩ := h
  change (Bool.rec (motive := fun _ => Dd.K) (iX C rec nt ops ops.toList k) (Bool.rec (motive := fun _ => Dd.K) dM (iL C rec nt ops k) (fA C.P ops)) dr) env hp = some r at h7
  cases dr with
  | true =>
   dsimp only at h7
   cases hok : fA C.P ops with
   | false => rw [hok] at h7; cases h7
   | true =>
    rw [hok] at h7
    exact bBh K hm hok h7 h2 h3 h5 h6 fun ρ2 env2 h2' a2 w2 e1 e2 e3 e4 e5 e6 e7 => ⟨ρ2, env2, h2', h1.trans e1, e2, e3, h4.trans e4, e5, e6, e7⟩
  | false =>
   simp only [cond_false] at h7
   obtain ⟨env', h', hr, hk⟩ := yE ops.toList k env hp r h7
   refine wp_region ?_
   have := aPj (Q := QQ DD G nt ρ w0 X kr k r) K ops.toList 0 ρ' env hp a w (by simp) hr h2 h3 h5 h6 fun ρ2 a2 w2 e1 e2 e3 e4 e5 e6 => ⟨ρ2, env', h', h1.trans e1, e2, e3, h4.trans e4, e5, e6, hk⟩
   rw [List.range_eq_range']
   simpa using this
 | seq x y ihx ihy =>
  intro X kr k a w h
  refine wp_seq (wp_mono (ihx X kr (aM C rec nt n y X kr k) a w h) fun e a' w' hq => ?_)
  cases e with
  | normal => exact ihy X kr k a' w' hq
  | exit id => exact hq
  | ret => exact hq
  | goto l => exact hq
  | panic ch => exact hq
  | outgrown => exact hq
 | cond c x y ihx ihy =>
  intro X kr k a w h
  obtain ⟨ρ', env, hp, h1, h2, h3, h4, h5, h6, h7⟩ := h
  change aR (opr env c) (aM C rec nt n x X kr k env hp) (aM C rec nt n y X kr k env hp) = some r at h7
  have hc := bH h3 c
  unfold aR at h7
  split at h7 <;> (try (cases h7; done))
  ·rename_i hcb
   rw [hcb] at hc
   generalize hcv : a.eval c = cv at hc
   cases hc
   exact wp_cond_true hcv (ihx X kr k a w ⟨ρ', env, hp, h1, h2, h3, h4, h5, h6, h7⟩)
  ·rename_i hcb
   rw [hcb] at hc
   generalize hcv : a.eval c = cv at hc
   cases hc
   exact wp_cond_false hcv (ihy X kr k a w ⟨ρ', env, hp, h1, h2, h3, h4, h5, h6, h7⟩)
 | block id x ih =>
  intro X kr k a w h
  refine wp_block (wp_mono (ih (fun j => bif Nat.beq j id then k else X j) kr k a w h) fun e a' w' hq => ?_)
  cases e with
  | normal => exact hq
  | exit id' =>
   simp only [QQ] at hq
   simp only [Exit.inBlock, QQ]
   split
   ·rename_i e
    subst e
    have hb : Nat.beq id' id' = true := Nat.beq_refl id'
    rw [hb] at hq
    exact hq
   ·rename_i e
    have : Nat.beq id' id = false := by
     cases hb : Nat.beq id' id with
     | false => rfl
     | true => exact absurd (Nat.eq_of_beq_eq_true hb) e
    rw [this] at hq
    exact hq
  | ret => exact hq
  | goto l => exact hq
  | panic ch => exact hq
  | outgrown => exact hq
 | loop x ih =>
  intro X kr k a w h
  have key : ∀ (m : Nat) (a : Act) (w : World), St DD G nt ρ w0 (aO (fun kk => aM C rec nt n x X kr kk) m) r a w → Code.rounds C.P x (QQ DD G nt ρ w0 X kr k r) m a w := by
   intro m
   induction m with
   | zero =>
    rintro a w ⟨ρ', env, hp, h1, h2, h3, h4, h5, h6, h7⟩
    cases h7
   | succ m ihm =>
    intro a w hs
    rw [rounds_succ]
    refine wp_mono (ih X kr (aO (fun kk => aM C rec nt n x X kr kk) m) a w hs) fun e a' w' hq => ?_
    cases e with
    | normal => exact ihm a' w' hq
    | exit id => exact hq
    | ret => exact hq
    | goto l => exact hq
    | panic ch => exact hq
    | outgrown => exact hq
  exact wp_loop_rounds n (key n a w h)
 | rangeFunc f ps x y ihx ihy =>
  rintro X kr k a w ⟨ρ', env, hp, h1, h2, h3, h4, h5, h6, h7⟩
  cases h7
 | exit id => intro X kr k a w h; exact wp_exit h
 | scope x ih =>
  intro X kr k a w h
  refine wp_scope_straight (wp_mono (ih X kr k a w h) fun e a' w' hq => ?_)
  cases e with
  | goto l => exact hq
  | normal => exact hq
  | exit id => exact hq
  | ret => exact hq
  | panic ch => exact hq
  | outgrown => exact hq
 | label l => intro X kr k a w h; exact wp_label h
 | goto l =>
  rintro X kr k a w ⟨ρ', env, hp, h1, h2, h3, h4, h5, h6, h7⟩
  cases h7
 | ret => intro X kr k a w h; exact wp_ret h
 | refuse why =>
  rintro X kr k a w ⟨ρ', env, hp, h1, h2, h3, h4, h5, h6, h7⟩
  cases h7
def aBd (tmps : Array Value) (rv : ResultVar) : Sem Value :=
 match rv with
 | .tmp t => pure (tmps.getD t undef)
 | .cell q t => do loadVar t (← asAddr (tmps.getD q undef))
theorem vM (fn : Func) (tmps : Array Value) : results fn tmps = (do
  let vs ← fn.results.mapM (aBd tmps)
  pure (if h : vs.size = 1 then vs[0] else .tuple vs)) := by
 unfold results
 congr 2
theorem bLl {ρ : dA} {w : World} {h : Hp} {x : DV} {x' : Value} {t : TypeId} {k : DV → aJ} {r : DV × Hp} (H : HR G ρ h w) (hx : VR ρ x x') (hr : aAl C t x h k = some r) :
  ∃ v v', (do loadVar t (← asAddr x') : Sem Value).run C.P w = .ok v' w ∧ VR ρ v v' ∧ k v = some r := by
 unfold aAl at hr
 split at hr <;> (try (cases hr; done))
 rename_i d i ht hi
 obtain ⟨v, h', hl, hk⟩ := dK hr
 have hconv : ∀ b o, x = .p b o → (Instr.loadAt t x') = (do loadVar t (← asAddr x')) := by
  rintro b o rfl
  cases hx
  simp [Instr.loadAt, Instr.sureAddr, asAddr]
 cases hd : iT d with
 | true =>
  rw [hd] at hl
  simp only [cond_true] at hl
  unfold aK at hl
  split at hl <;> (try (cases hl; done))
  rename_i b o
  split at hl <;> (try (cases hl; done))
  rename_i cs hc
  simp only [bE, bR] at hl
  obtain ⟨rfl, _⟩ := hl
  cases hx with
  | p _ _ L hL =>
   obtain ⟨c1, c2, _, vs, c4, c5, c6⟩ := eO H hc hL
   have hrun := dB (P := C.P) vs rfl c6
   rw [c5] at hrun
   refine ⟨_, .agg vs.toArray, ?_, .a cs vs.toArray (by simpa using c4), hk⟩
   simp only [asAddr, Sem.run_bind, Sem.run_pure, Result.andThen_ok, loadVar, rA ht, hd, if_true, rS hi, hrun]
 | false =>
  rw [hd] at hl
  simp only [cond_false] at hl
  unfold aA at hl
  split at hl <;> (try (cases hl; done))
  rename_i b o
  split at hl <;> (try (cases hl; done))
  rename_i u' hc
  simp only [bE, bR] at hl
  obtain ⟨rfl, _⟩ := hl
  cases hx with
  | p _ _ L hL =>
   unfold cellD rowOf at hc
   split at hc <;> (try (cases hc; done))
   rename_i l hl
   split at hl <;> (try (cases hl; done))
   rename_i kd l0 hb
   simp only [bE] at hl
   subst hl
   split at hc <;> (try (cases hc; done))
   rename_i u0 hu
   split at hc <;> (try (cases hc; done))
   rename_i ho
   simp only [bE] at hc
   subst hc
   obtain ⟨v', h5, h6⟩ := H.cell b kd l0 L o u0 hb hL hu ho
   refine ⟨_, v', ?_, h6, hk⟩
   simp only [asAddr, Sem.run_bind, Sem.run_pure, Result.andThen_ok, loadVar, rA ht, hd, Bool.false_eq_true, if_false, run_load, h5]
theorem xC {ρ : dA} {w : World} {h : Hp} {env : aZ} {a : Act} (H : HR G ρ h w) (he : EnvR ρ env a) {r : DV × Hp} : ∀ (l : List ResultVar) (k : List DV → aJ), aUs C env h l k = some r →
  ∃ vs vs', (l.mapM (aBd a.tmps)).run C.P w = .ok vs' w ∧ VRs ρ vs vs' ∧ k vs = some r
 | [], k, hr => ⟨[], [], by simp, .nil, hr⟩
 | .tmp t :: l, k, hr => by
  obtain ⟨vs, vs', h1, h2, h3⟩ := xC H he l (fun vs => k (env t :: vs)) hr
  refine ⟨env t :: vs, a.tmps.getD t undef :: vs', ?_, .cons _ _ _ _ (he t) h2, h3⟩
  simp only [List.mapM_cons, Sem.run_bind, aBd, Result.andThen_ok, h1, Sem.run_pure]
 | .cell q t :: l, k, hr => by
  obtain ⟨v, v', h1, h2, h3⟩ := bLl (x' := a.tmps.getD q undef) H (he q) hr
  obtain ⟨vs, vs', h4, h5, h6⟩ := xC H he l (fun vs => k (v :: vs)) h3
  refine ⟨v :: vs, v' :: vs', ?_, .cons _ _ _ _ h2 h5, h6⟩
  simp only [List.mapM_cons, Sem.run_bind, aBd] at h1 ⊢
  simp only [h1, Result.andThen_ok, h4, Sem.run_pure]
theorem aWl {ρ : dA} {w : World} {h h1 : Hp} {env : aZ} {a : Act} (H : HR G ρ h w) (he : EnvR ρ env a) {fn : Func} {v : DV} (hr : aU C fn env h = some (v, h1)) :
  h1 = h ∧ ∃ v', (results fn a.tmps).run C.P w = .ok v' w ∧ VR ρ v v' := by
 obtain ⟨us, vs', h2, h3, hk⟩ := xC H he _ _ hr
 unfold bVm at hk
 split at hk
 ·rename_i u
  simp only [bE, bR] at hk
  obtain ⟨rfl, rfl⟩ := hk
  cases h3 with
  | cons _ v' _ l' hv hn =>
   cases hn
   refine ⟨rfl, v', ?_, hv⟩
   rw [vM, Array.mapM_eq_mapM_toList]
   simp only [Sem.run_bind, Sem.run_map, h2, Result.andThen_ok, Sem.run_pure]
   simp
 ·rename_i hne
  simp only [bE, bR] at hk
  obtain ⟨rfl, rfl⟩ := hk
  have hl := h3.length
  have hne1 : vs'.length ≠ 1 := by
   intro e
   rw [e] at hl
   match us, hl with
   | [x], _ => exact hne x rfl
  refine ⟨rfl, .tuple vs'.toArray, ?_, .t _ _ (by simpa using h3)⟩
  rw [vM, Array.mapM_eq_mapM_toList]
  simp only [Sem.run_bind, Sem.run_map, h2, Result.andThen_ok, Sem.run_pure]
  rw [dif_neg (by simpa using hne1)]
structure POk (P : Program) : Prop where
 mixed : P.follows .mixedOrders = true
 names : ∀ (f : Nat) (fn : Func), P.funcs[f]? = some fn → (fn.name == "runtime.NumGoroutine") = false
theorem pL (K : OkC C rec) (hP : POk C.P) (n : Nat) (f : FuncId) : mF C.P G f (aF C rec n f) := by
 intro args h v h1 hr ρ w args' H hargs
 unfold aF at hr
 split at hr <;> (try (cases hr; done))
 rename_i fn hf
 split at hr <;> (try (cases hr; done))
 rename_i c hb
 refine .inl ⟨?_, ?_⟩
 ·unfold callFunc
  have hn : ¬ fn.name = "runtime.NumGoroutine" := by simpa using hP.names f fn hf
  simp [hf, hn, hb]
 ·refine calls_of_wp hf hb ?_
  have he : EnvR ρ (aH args) { tmps := args' ++ Array.replicate (fn.ntmps - args'.size) undef, defers := [] } := by
   intro t
   unfold aH
   have hlen := hargs.length
   simp only [Array.length_toList] at hlen
   by_cases ht : t < args.length
   ·have hg : args[t]? = some args[t] := by simp [ht]
    obtain ⟨v', h2, h3⟩ := hargs.get t _ hg
    simp only [Array.getElem?_toList] at h2
    rw [show args.getD t aV = args[t] by simp [List.getD, hg]]
    have : (args' ++ Array.replicate (fn.ntmps - args'.size) undef).getD t undef = v' := by
     simp [Array.getElem?_append_left (show t < args'.size by omega), h2]
    rw [this]
    exact h3
   ·have hg : args.getD t aV = aV := by simp [List.getD, List.getElem?_eq_none (Nat.le_of_not_lt ht)]
    rw [hg]
    have : (args' ++ Array.replicate (fn.ntmps - args'.size) undef).getD t undef = undef := by
     rw [Array.getD_eq_getD_getElem?, Array.getElem?_append_right (by omega)]
     simp only [Array.getElem?_replicate]
     split <;> rfl
    rw [this]
    exact .t [] #[] .nil
  have hst : St [] G fn.ntmps ρ w (aM C rec fn.ntmps n c (fun _ => dM) (aU C fn) (aU C fn)) (v, h1) { tmps := args' ++ Array.replicate (fn.ntmps - args'.size) undef, defers := [] } w :=
   ⟨ρ, aH args, h, Ex.refl G ρ, H, he, Kp.refl G w, by simp; omega, rfl, hr⟩
  refine wp_mono (cLy K hP.mixed c _ _ _ _ _ hst) fun e a' w' hq => ?_
  have hfin : St [] G fn.ntmps ρ w (aU C fn) (v, h1) a' w' → a'.defers = [] ∧ ∃ v', (results fn a'.tmps).run C.P w' = .ok v' w' ∧ lS G ρ w v h1 (.returned v') w' := by
   rintro ⟨ρ', env, h', e1, e2, e3, e4, e5, e6, e7⟩
   obtain ⟨rfl, v', r1, r2⟩ := aWl e2 e3 e7
   exact ⟨e6, v', r1, ρ', v', rfl, e1, r2, e2, e4⟩
  cases e with
  | normal => exact hfin hq
  | ret => exact hfin hq
  | exit id =>
   obtain ⟨ρ', env, h', e1, e2, e3, e4, e5, e6, e7⟩ := hq
   cases e7
  | goto l => exact hq.elim
  | panic ch => exact hq.elim
  | outgrown => exact hq.elim
theorem bUv (hP : POk C.P) (hI : ∀ G g F, C.I g = some F → mF C.P G g F) : ∀ (n : Nat) (G : Gd) (f : FuncId), mF C.P G f (fnD C n f)
 | 0, G, f => fun args h v h1 hr => by cases hr
 | n + 1, G, f => pL (rec := fnD C n) ⟨hI, fun G g => bUv hP hI n G g⟩ hP n f
end
end Go.Dd

namespace Go.Dd
open Go.RowKit (Below)
section
variable {C : Cfg} {G : Gd} {rec : FuncId → List DV → Hp → aJ} {nt : Nat}
def nH (h : Hp) : Prop := ∀ b o, h.bl.get b = some o → b.toNat < h.next.toNat
theorem HR.isFresh {ρ : dA} {h : Hp} {w : World} (H : HR G ρ h w) : nH h := fun b o hb => by
 obtain ⟨L, hL⟩ := H.dom b o hb
 exact H.lt b L hL
def aKz (C : Cfg) (rec : FuncId → List DV → Hp → aJ) (nt : Nat) (ops : Array Oper) (lS : aZ → Hp → Prop) : Nat → Array Bool → aZ → Hp → Prop
 | 0, listed, env, h => Region.ready .any ops listed = [] ∧ lS env h
 | f + 1, listed, env, h => (Region.ready .any ops listed = [] → lS env h) ∧
   ∀ i ∈ Region.ready .any ops listed, ∃ o v h', ops[i]? = some o ∧ cY nt o.dst = true ∧ bJ C rec ops o env h = some (v, h') ∧
    aKz C rec nt ops lS f (listed.setIfInBounds i true) (bO env o.dst v) h'
theorem cAd (K : OkC C rec) {ops : Array Oper} {lS : aZ → Hp → Prop} {Q : Exit → Act → World → Prop} : ∀ (fuel : Nat) (listed : Array Bool) (ρ : dA) (env : aZ) (h : Hp) (a : Act) (w : World),
  aKz C rec nt ops lS fuel listed env h → HR G ρ h w → EnvR ρ env a → nt ≤ a.tmps.size → a.defers = [] →
  (∀ ρ' env' h' a' w', lS env' h' → Ex G ρ ρ' → HR G ρ' h' w' → EnvR ρ' env' a' → Kp G w w' → nt ≤ a'.tmps.size → a'.defers = [] → Q .normal a' w') →
  wpAny C.P .any ops Q fuel listed a w
 | 0, listed, ρ, env, h, a, w, hp, H, he, hnt, hd, hQ => ⟨hp.1, hQ ρ env h a w hp.2 (Ex.refl G ρ) H he (Kp.refl G w) hnt hd⟩
 | f + 1, listed, ρ, env, h, a, w, hp, H, he, hnt, hd, hQ => by
  refine ⟨fun hr => hQ ρ env h a w (hp.1 hr) (Ex.refl G ρ) H he (Kp.refl G w) hnt hd, fun i hi => ?_⟩
  obtain ⟨o, v, h', ho, hf, hs, hn⟩ := hp.2 i hi
  refine aFw (aIp K H he hs) rfl ho H fun ρ' w' v' h2 h3 h4 h5 => ?_
  exact cAd K f _ ρ' _ h' _ w' hn h4 (he.put h2.ext h3 hf hnt) (by rw [pY]; exact hnt) (by rw [lJ]; exact hd)
   fun ρ2 env2 hh a2 w2 e0 e1 e2 e3 e4 e5 e6 => hQ ρ2 env2 hh a2 w2 e0 (h2.trans e1) e2 e3 (h5.trans e4) e5 e6
def qD (C : Cfg) (rec : FuncId → List DV → Hp → aJ) (nt : Nat) : Code → (Nat → aZ → Hp → Prop) → (aZ → Hp → Prop) → (aZ → Hp → Prop) → aZ → Hp → Prop
 | .skip, _, _, N => N
 | .region _ ops dr, _, _, N => fun env h => if dr then (aKz C rec nt ops (fun e h => nH h → N e h) ops.size (Array.replicate ops.size false) env h ∨
    (fA C.P ops = true ∧ ∃ k r, iL C rec nt ops k env h = some r ∧ ∀ env' h', k env' h' = some r → nH h' → N env' h'))
   else ∃ env' h', aBj C rec nt ops ops.toList env h env' h' ∧ (nH h' → N env' h')
 | .seq a b, X, R, N => qD C rec nt a X R (qD C rec nt b X R N)
 | .cond c a b, X, R, N => fun env h => (opr env c = .b true ∧ qD C rec nt a X R N env h) ∨ (opr env c = .b false ∧ qD C rec nt b X R N env h)
 | .block id a, X, R, N => qD C rec nt a (fun j => if j = id then N else X j) R N
 | .exit id, X, _, _ => X id
 | .scope a, X, R, N => qD C rec nt a X R N
 | .ret, _, R, _ => R
 | _, _, _, _ => fun _ _ => False
def StP (G : Gd) (nt : Nat) (ρ : dA) (w0 : World) (N : aZ → Hp → Prop) (a : Act) (w : World) : Prop :=
 ∃ ρ' env h, Ex G ρ ρ' ∧ HR G ρ' h w ∧ EnvR ρ' env a ∧ Kp G w0 w ∧ nt ≤ a.tmps.size ∧ a.defers = [] ∧ N env h
def QP (G : Gd) (nt : Nat) (ρ : dA) (w0 : World) (X : Nat → aZ → Hp → Prop) (R N : aZ → Hp → Prop) : Exit → Act → World → Prop
 | .normal, a, w => StP G nt ρ w0 N a w
 | .exit id, a, w => StP G nt ρ w0 (X id) a w
 | .ret, a, w => StP G nt ρ w0 R a w
 | _, _, _ => False
theorem bQa (K : OkC C rec) (hm : C.P.follows .mixedOrders = true) {ρ : dA} {w0 : World} : ∀ (c : Code) (X : Nat → aZ → Hp → Prop) (R N : aZ → Hp → Prop) (a : Act) (w : World),
  StP G nt ρ w0 (qD C rec nt c X R N) a w → c.wp C.P (QP G nt ρ w0 X R N) a w := by
 intro c
 induction c with
 | skip => intro X R N a w h; exact wp_skip h
 | region id ops dr =>
  intro X R N a w h
  obtain ⟨ρ', env, hp, h1, h2, h3, h4, h5, h6, h7⟩ := h
  cases dr with
  | true =>
   simp only [qD, if_true] at h7
   rcases h7 with h7 | ⟨hok, k, r, h7, h8⟩
   ·refine wp_region_any hm (cAd K ops.size _ ρ' env hp a _ h7 (h2.congr rfl) h3 h5 h6 fun ρ2 env2 h2' a2 w2 e0 e1 e2 e3 e4 e5 e6 => ?_)
    exact ⟨ρ2, env2, h2', h1.trans e1, e2, e3, (h4.trans ((Kp.refl G w).drew)).trans e4, e5, e6, e0 e2.isFresh⟩
   ·exact bBh K hm hok h7 h2 h3 h5 h6 fun ρ2 env2 h2' a2 w2 e1 e2 e3 e4 e5 e6 e7 => ⟨ρ2, env2, h2', h1.trans e1, e2, e3, h4.trans e4, e5, e6, h8 _ _ e7 e2.isFresh⟩
  | false =>
   simp only [qD, Bool.false_eq_true, if_false] at h7
   obtain ⟨env', h', hr, hk⟩ := h7
   refine wp_region ?_
   have := aPj (Q := QP G nt ρ w0 X R N) K ops.toList 0 ρ' env hp a w (by simp) hr h2 h3 h5 h6 fun ρ2 a2 w2 e1 e2 e3 e4 e5 e6 => ⟨ρ2, env', h', h1.trans e1, e2, e3, h4.trans e4, e5, e6, hk e2.isFresh⟩
   rw [List.range_eq_range']
   simpa using this
 | seq x y ihx ihy =>
  intro X R N a w h
  refine wp_seq (wp_mono (ihx X R (qD C rec nt y X R N) a w h) fun e a' w' hq => ?_)
  cases e with
  | normal => exact ihy X R N a' w' hq
  | exit id => exact hq
  | ret => exact hq
  | goto l => exact hq
  | panic ch => exact hq
  | outgrown => exact hq
 | cond c x y ihx ihy =>
  intro X R N a w h
  obtain ⟨ρ', env, hp, h1, h2, h3, h4, h5, h6, h7⟩ := h
  have hc := bH h3 c
  rcases h7 with ⟨hcb, h7⟩ | ⟨hcb, h7⟩
  ·rw [hcb] at hc
   generalize hcv : a.eval c = cv at hc
   cases hc
   exact wp_cond_true hcv (ihx X R N a w ⟨ρ', env, hp, h1, h2, h3, h4, h5, h6, h7⟩)
  ·rw [hcb] at hc
   generalize hcv : a.eval c = cv at hc
   cases hc
   exact wp_cond_false hcv (ihy X R N a w ⟨ρ', env, hp, h1, h2, h3, h4, h5, h6, h7⟩)
 | block id x ih =>
  intro X R N a w h
  refine wp_block (wp_mono (ih (fun j => if j = id then N else X j) R N a w h) fun e a' w' hq => ?_)
  cases e with
  | normal => exact hq
  | exit id' =>
   simp only [QP] at hq
   simp only [Exit.inBlock]
   split
   ·rename_i e
    rw [if_pos e] at hq
    exact hq
   ·rename_i e
    rw [if_neg e] at hq
    exact hq
  | ret => exact hq
  | goto l => exact hq
  | panic ch => exact hq
  | outgrown => exact hq
 | loop x ih => rintro X R N a w ⟨ρ', env, hp, h1, h2, h3, h4, h5, h6, h7⟩; exact h7.elim
 | rangeFunc f ps x y ihx ihy => rintro X R N a w ⟨ρ', env, hp, h1, h2, h3, h4, h5, h6, h7⟩; exact h7.elim
 | exit id => intro X R N a w h; exact wp_exit h
 | scope x ih =>
  intro X R N a w h
  refine wp_scope_straight (wp_mono (ih X R N a w h) fun e a' w' hq => ?_)
  cases e with
  | goto l => exact hq
  | normal => exact hq
  | exit id => exact hq
  | ret => exact hq
  | panic ch => exact hq
  | outgrown => exact hq
 | label l => rintro X R N a w ⟨ρ', env, hp, h1, h2, h3, h4, h5, h6, h7⟩; exact h7.elim
 | goto l => rintro X R N a w ⟨ρ', env, hp, h1, h2, h3, h4, h5, h6, h7⟩; exact h7.elim
 | ret => intro X R N a w h; exact wp_ret h
 | refuse why => rintro X R N a w ⟨ρ', env, hp, h1, h2, h3, h4, h5, h6, h7⟩; exact h7.elim
def Le (h2 h1 : Hp) : Prop := ∀ G ρ w, HR G ρ h2 w → HR G ρ h1 w
theorem cVr (K : OkC C rec) (hP : POk C.P) {f : FuncId} {fn : Func} {c : Code} (hf : C.P.funcs[f]? = some fn) (hb : fn.body = some c) {F : List DV → Hp → aJ}
  (hF : ∀ args h v h1, F args h = some (v, h1) → nH h → qD C rec fn.ntmps c (fun _ _ _ => False) (fun env h' => ∃ h2, aU C fn env h' = some (v, h2) ∧ Le h2 h1)
   (fun env h' => ∃ h2, aU C fn env h' = some (v, h2) ∧ Le h2 h1) (aH args) h) : mF C.P G f F := by
 intro args h v h1 hr ρ w args' H hargs
 refine .inl ⟨?_, ?_⟩
 ·unfold callFunc
  have hn : ¬ fn.name = "runtime.NumGoroutine" := by simpa using hP.names f fn hf
  simp [hf, hn, hb]
 ·refine calls_of_wp hf hb ?_
  have he : EnvR ρ (aH args) { tmps := args' ++ Array.replicate (fn.ntmps - args'.size) undef, defers := [] } := by
   intro t
   unfold aH
   have hlen := hargs.length
   simp only [Array.length_toList] at hlen
   by_cases ht : t < args.length
   ·have hg : args[t]? = some args[t] := by simp [ht]
    obtain ⟨v', h2, h3⟩ := hargs.get t _ hg
    simp only [Array.getElem?_toList] at h2
    rw [show args.getD t aV = args[t] by simp [List.getD, hg]]
    have : (args' ++ Array.replicate (fn.ntmps - args'.size) undef).getD t undef = v' := by
     simp [Array.getElem?_append_left (show t < args'.size by omega), h2]
    rw [this]
    exact h3
   ·have hg : args.getD t aV = aV := by simp [List.getD, List.getElem?_eq_none (Nat.le_of_not_lt ht)]
    rw [hg]
    have : (args' ++ Array.replicate (fn.ntmps - args'.size) undef).getD t undef = undef := by
     rw [Array.getD_eq_getD_getElem?, Array.getElem?_append_right (by omega)]
     simp only [Array.getElem?_replicate]
     split <;> rfl
    rw [this]
    exact .t [] #[] .nil
  have hst : StP G fn.ntmps ρ w _ { tmps := args' ++ Array.replicate (fn.ntmps - args'.size) undef, defers := [] } w :=
   ⟨ρ, aH args, h, Ex.refl G ρ, H, he, Kp.refl G w, by simp; omega, rfl, hF args h v h1 hr H.isFresh⟩
  refine wp_mono (bQa K hP.mixed c _ _ _ _ _ hst) fun e a' w' hq => ?_
  have hfin : StP G fn.ntmps ρ w (fun env h' => ∃ h2, aU C fn env h' = some (v, h2) ∧ Le h2 h1) a' w' → a'.defers = [] ∧ ∃ v', (results fn a'.tmps).run C.P w' = .ok v' w' ∧ lS G ρ w v h1 (.returned v') w' := by
   rintro ⟨ρ', env, h', e1, e2, e3, e4, e5, e6, h2, e7, e8⟩
   obtain ⟨rfl, v', r1, r2⟩ := aWl e2 e3 e7
   exact ⟨e6, v', r1, ρ', v', rfl, e1, r2, e8 _ _ _ e2, e4⟩
  cases e with
  | normal => exact hfin hq
  | ret => exact hfin hq
  | exit id => obtain ⟨ρ', env, h', e1, e2, e3, e4, e5, e6, e7⟩ := hq; exact e7.elim
  | goto l => exact hq.elim
  | panic ch => exact hq.elim
  | outgrown => exact hq.elim
end
end Go.Dd

namespace Go.Dd
open Go.RowKit (Below)
section
variable {ro : Option Nat} {n : Nat} {P : Program} {Q : Exit → Act → World → Prop}
end
section
variable {C : Cfg} {G : Gd} {rec : FuncId → List DV → Hp → aJ} {nt n : Nat}
end
end Go.Dd

namespace Go.Dd
open Go.RowKit (Below)
section
variable {G G' : Gd} {ρ : dA} {h : Hp} {w : World}
end
end Go.Dd

namespace Go.Dd
open Go.RowKit (Below)
structure ItC where
 gf : FuncId
 nt : Nat
 pre : Code
 b0 : Nat
 test : Code
 b1 : Nat
 rid : Nat
 front : List Oper
 y : Oper
 back : List Oper
 after : Code
 post : Code
 step : Code
 yd : Tmp
 yt : Tmp
 yx : Tmp
def ItC.ops (I : ItC) : Array Oper := (I.front ++ I.y :: I.back).toArray
def aNd : Nat → K := fun _ => dM
def ylB (v : DV) (b : Pos) : Bool := match v with
 | .yl b' => b' == b
 | _ => false
section
variable (C : Cfg) (rec : FuncId → List DV → Hp → aJ) (n : Nat) (I : ItC)
noncomputable def aLw (b : Bool) (kr k : K) (e1 : aZ) : Hp → aJ := fun h =>
 cnd (cY I.nt (some I.yd)) (iX C rec I.nt I.ops I.back (aM C rec I.nt n I.after aNd kr k) (bO e1 (some I.yd) (.b b)) h)
noncomputable def aQz (nt : Nat) (p : Tmp) (x y : Code) (env : aZ) (X : Nat → K) (kr kk : K) : K := fun e1 h1 =>
 cnd (cY nt (some p)) (aM C rec nt n x aNd dM (aM C rec nt n y
   (fun i _ h2 => aLw C rec n I false (fun _ h3 => X i env h3) dM e1 h2)
   (fun _ h2 => aLw C rec n I false (fun _ h3 => kr env h3) dM e1 h2)
   (fun _ h2 => aLw C rec n I true dM (aM C rec I.nt n I.post aNd dM (aM C rec I.nt n I.step aNd dM kk)) e1 h2))
  (bO env (some p) (e1 I.yx)) h1)
noncomputable def aDm (nt : Nat) (g : Operand) (p : Tmp) (x y : Code) (X : Nat → K) (kr k : K) : K := fun env h =>
 match opr env g with
 | .f gf [] cap => cnd (Nat.beq gf I.gf) (aM C rec I.nt n I.pre aNd dM
   (aO (fun kk => aM C rec I.nt n I.test (fun j => bif Nat.beq j I.b0 then (fun _ h => k env h) else dM) dM
    (iX C rec I.nt I.ops I.front (fun e1 h1 => cnd (ylB (e1 I.yt) h.next) (aQz C rec n I nt p x y env X kr kk e1 h1)))) n)
   (aH (.yl h.next :: cap)) (resv 2 h))
 | _ => none
end
section
variable {C : Cfg} {G : Gd} {rec : FuncId → List DV → Hp → aJ} {n : Nat} {I : ItC} {N : Nat}
end
end Go.Dd

namespace Go.Dd
open Go.RowKit (Below)
section
variable {C : Cfg} {G : Gd} {rec : FuncId → List DV → Hp → aJ} {n : Nat} {I : ItC} {N : Nat}
section
variable {ρ : dA} {w0 : World} {D l : Nat} {nt : Nat} {p : Tmp} {x y : Code} {f0 : FuncId} {a0 : Act} {env : aZ} {X : Nat → Dd.K} {kr k : Dd.K} {r : DV × Hp} {b : Pos}
end
end
end Go.Dd

namespace Go.Dd
open Go.RowKit (Below)
section
variable {C : Cfg} {G : Gd} {rec : FuncId → List DV → Hp → aJ} {n : Nat} {I : ItC} {N : Nat}
variable {ρ : dA} {w0 : World} {D l : Nat} {nt : Nat} {p : Tmp} {x y : Code} {f0 : FuncId} {a0 : Act} {env : aZ} {X : Nat → Dd.K} {kr k : Dd.K} {r : DV × Hp} {b : Pos}
end
end Go.Dd

namespace Go.Dd
open Go.RowKit (Below)
section
variable {C : Cfg} {G : Gd} {rec : FuncId → List DV → Hp → aJ} {n : Nat} {I : ItC} {N : Nat}
end
end Go.Dd

namespace Go.Dd
open Go.RowKit (Below)
noncomputable def dLl (ps : Array Tmp) (k : Tmp → K) : K := match ps.toList with
 | [p] => k p
 | _ => dM
section
variable (C : Cfg) (rec : FuncId → List DV → Hp → aJ) (nt n : Nat) (I : ItC)
noncomputable def bJg (c : Code) : (Nat → K) → K → K → K :=
 Code.rec (motive := fun _ => (Nat → K) → K → K → K)
  (fun _ _ k => k)
  (fun _ ops dr _ _ k => Bool.rec (motive := fun _ => K) (iX C rec nt ops ops.toList k) (Bool.rec (motive := fun _ => K) dM (iL C rec nt ops k) (fA C.P ops)) dr)
  (fun _ _ iha ihb X kr k => iha X kr (ihb X kr k))
  (fun c _ _ iha ihb X kr k => fun env h => aR (opr env c) (iha X kr k env h) (ihb X kr k env h))
  (fun id _ ih X kr k => ih (fun j => bif Nat.beq j id then k else X j) kr k)
  (fun _ ih X kr _ => aO (fun kk => ih X kr kk) n)
  (fun g ps x y _ _ X kr k => dLl ps fun p => aDm C rec n I nt g p x y X kr k)
  (fun id X _ _ => X id)
  (fun _ _ _ _ _ => dM)
  (fun _ _ _ _ => dM)
  (fun _ _ _ _ => dM)
  (fun _ kr _ => kr)
  (fun _ _ _ _ => dM) c
noncomputable def mD (f : FuncId) (args : List DV) (h : Hp) : aJ :=
 match C.P.funcs[f]? with
 | some fn => match fn.body with
  | some c => bJg C rec fn.ntmps n I c (fun _ => dM) (aU C fn) (aU C fn) (aH args) h
  | none => none
 | none => none
end
section
variable {C : Cfg} {G : Gd} {rec : FuncId → List DV → Hp → aJ} {nt n : Nat} {I : ItC}
end
end Go.Dd

namespace Go.Dd
noncomputable section
def WT.get (t : WT) : Nat → Int :=
 WT.rec (motive := fun _ => Nat → Int) (fun _ => .ofNat 0)
  (fun _ v _ ihl ihr k => bif Nat.beq k 0 then v else bif Nat.beq (Nat.mod k 2) 1 then ihl (Nat.div k 2) else ihr (Nat.div (Nat.sub k 1) 2)) t
def dQw (x : Int) (fuel : Nat) : Nat → WT → WT :=
 Nat.rec (motive := fun _ => Nat → WT → WT) (fun _ t => t)
  (fun _ ih k t => WT.rec (motive := fun _ => WT)
   (bif Nat.beq k 0 then .n .e x .e else bif Nat.beq (Nat.mod k 2) 1 then .n (ih (Nat.div k 2) .e) (.ofNat 0) .e else .n .e (.ofNat 0) (ih (Nat.div (Nat.sub k 1) 2) .e))
   (fun l v r _ _ => bif Nat.beq k 0 then .n l x r else bif Nat.beq (Nat.mod k 2) 1 then .n (ih (Nat.div k 2) l) v r else .n l v (ih (Nat.div (Nat.sub k 1) 2) r)) t) fuel
def WT.set (t : WT) (k : Nat) (x : Int) : WT := dQw x 24 k t
theorem WT.get_e (k : Nat) : WT.e.get k = 0 := rfl
theorem dQt (l : WT) (v : Int) (r : WT) (k : Nat) : (WT.n l v r).get k = if k = 0 then v else if k % 2 = 1 then l.get (k / 2) else r.get ((k - 1) / 2) := by
 show (bif Nat.beq k 0 then v else bif Nat.beq (Nat.mod k 2) 1 then l.get (Nat.div k 2) else r.get (Nat.div (Nat.sub k 1) 2)) = _
 cases h0 : Nat.beq k 0 with
 | true => have := Nat.eq_of_beq_eq_true h0; subst this; rfl
 | false =>
  have n0 : k ≠ 0 := by intro e; subst e; cases h0
  rw [if_neg n0]
  cases h1 : Nat.beq (Nat.mod k 2) 1 with
  | true => have : k % 2 = 1 := Nat.eq_of_beq_eq_true h1; rw [if_pos this]; rfl
  | false =>
   have n1 : k % 2 ≠ 1 := by intro e; have e' : Nat.mod k 2 = 1 := e; rw [e'] at h1; cases h1
   rw [if_neg n1]; rfl
theorem dRf (x : Int) (f k : Nat) (t : WT) : dQw x (f + 1) k t = match t with
  | .e => if k = 0 then .n .e x .e else if k % 2 = 1 then .n (dQw x f (k / 2) .e) 0 .e else .n .e 0 (dQw x f ((k - 1) / 2) .e)
  | .n l v r => if k = 0 then .n l x r else if k % 2 = 1 then .n (dQw x f (k / 2) l) v r else .n l v (dQw x f ((k - 1) / 2) r) := by
 have hb : ∀ {α : Type} (a b c : α), (bif Nat.beq k 0 then a else bif Nat.beq (Nat.mod k 2) 1 then b else c) = if k = 0 then a else if k % 2 = 1 then b else c := by
  intro α a b c
  cases h0 : Nat.beq k 0 with
  | true => have := Nat.eq_of_beq_eq_true h0; subst this; rfl
  | false =>
   have n0 : k ≠ 0 := by intro e; subst e; cases h0
   rw [if_neg n0]
   cases h1 : Nat.beq (Nat.mod k 2) 1 with
   | true => have : k % 2 = 1 := Nat.eq_of_beq_eq_true h1; rw [if_pos this]; rfl
   | false =>
    have n1 : k % 2 ≠ 1 := by intro e; have e' : Nat.mod k 2 = 1 := e; rw [e'] at h1; cases h1
    rw [if_neg n1]; rfl
 cases t with
 | e => exact hb _ _ _
 | n l v r => exact hb _ _ _
theorem dQz (x : Int) : ∀ (f k : Nat) (t : WT) (j : Nat), k + 1 < 2 ^ f → (dQw x f k t).get j = if j = k then x else t.get j
 | 0, k, t, j, h => by simp at h
 | f + 1, k, t, j, h => by
  have h2 : 2 ^ (f + 1) = 2 * 2 ^ f := by rw [Nat.pow_succ]; omega
  have ih := fun k t j (h : k + 1 < 2 ^ f) => dQz x f k t j h
  rw [dRf]
  cases t with
  | e =>
   simp only
   split
   ·subst_vars
    rw [dQt]
    split
    ·rfl
    ·simp [WT.get_e]
   ·split
    ·rw [dQt]
     split
     ·subst_vars; rw [if_neg (by omega)]; rfl
     ·split
      ·rw [ih _ _ _ (by omega), WT.get_e, WT.get_e]
       by_cases hj : j = k
       ·rw [if_pos hj, if_pos (by omega)]
       ·rw [if_neg hj, if_neg (by omega)]
      ·rw [WT.get_e, if_neg (by omega)]; rfl
    ·rw [dQt]
     split
     ·subst_vars; rw [if_neg (by omega)]; rfl
     ·split
      ·rw [WT.get_e, if_neg (by omega)]; rfl
      ·rw [ih _ _ _ (by omega), WT.get_e, WT.get_e]
       by_cases hj : j = k
       ·rw [if_pos hj, if_pos (by omega)]
       ·rw [if_neg hj, if_neg (by omega)]
  | n l v r =>
   simp only
   split
   ·subst_vars
    rw [dQt, dQt]
    split
    ·rfl
    ·rfl
   ·split
    ·rw [dQt, dQt]
     split
     ·subst_vars; rw [if_neg (by omega)]
     ·split
      ·rw [ih _ _ _ (by omega)]
       by_cases hj : j = k
       ·rw [if_pos hj, if_pos (by omega)]
       ·rw [if_neg hj, if_neg (by omega)]
      ·rw [if_neg (by omega)]
    ·rw [dQt, dQt]
     split
     ·subst_vars; rw [if_neg (by omega)]
     ·split
      ·rw [if_neg (by omega)]
      ·rw [ih _ _ _ (by omega)]
       by_cases hj : j = k
       ·rw [if_pos hj, if_pos (by omega)]
       ·rw [if_neg hj, if_neg (by omega)]
theorem WT.get_set (t : WT) (k : Nat) (x : Int) (j : Nat) (h : k < 16000000) : (t.set k x).get j = if j = k then x else t.get j :=
 dQz x 24 k t j (by omega)
def gZ (n : Nat) (t : WT) : List DV := (List.range n).map fun i => .i .i64 (t.get i)
def uK (g : Bool) : Ob → Ob → Prop
 | .big n t, o => if g then o = .big n t else o = .row .ex (gZ n t)
 | .mi t, o => if g then o = .mi t else ∃ es, o = .mp es ∧ ∀ a : Int, dI (.int .i64) (.i .i64 a) es = some (if 0 ≤ a ∧ t.get a.toNat ≠ 0 then some (.b true) else none)
 | o, o' => o' = o
structure Sim (g : Bool) (h h' : Hp) : Prop where
 next : h'.next = h.next
 get : ∀ b o, h.bl.get b = some o → ∃ o', h'.bl.get b = some o' ∧ uK g o o'
def SimR (g : Bool) (r r' : aJ) : Prop := ∀ v h, r = some (v, h) → ∃ h', r' = some (v, h') ∧ Sim g h h'
def SimP (g : Bool) (p p' : Hp → aJ) : Prop := ∀ h h', Sim g h h' → SimR g (p h) (p' h')
variable {h h' : Hp} {g : Bool}
theorem Sim.row (S : Sim g h h') {b : Pos} {k : Kind} {l : List DV} (hb : h.bl.get b = some (.row k l)) : h'.bl.get b = some (.row k l) := by
 obtain ⟨o', h1, h2⟩ := S.get b _ hb
 rw [h1, show o' = .row k l from h2]
theorem Sim.it (S : Sim g h h') {b : Pos} {s : List Nat} {p : Nat} (hb : h.bl.get b = some (.it s p)) : h'.bl.get b = some (.it s p) := by
 obtain ⟨o', h1, h2⟩ := S.get b _ hb
 rw [h1, show o' = .it s p from h2]
theorem Sim.mp (S : Sim g h h') {b : Pos} {es : List (DV × DV)} (hb : h.bl.get b = some (.mp es)) : h'.bl.get b = some (.mp es) := by
 obtain ⟨o', h1, h2⟩ := S.get b _ hb
 rw [h1, show o' = .mp es from h2]
theorem Sim.set (S : Sim g h h') {o o' : Ob} (hr : uK g o o') (b n : Pos) : Sim g ⟨n, Tr.set o b h.bl⟩ ⟨n, Tr.set o' b h'.bl⟩ := by
 refine ⟨rfl, fun x ob hx => ?_⟩
 by_cases e : x = b
 ·subst e
  simp only [dQb, bE] at hx ⊢
  subst hx
  exact ⟨o', rfl, hr⟩
 ·simp only [dQa _ _ _ _ e] at hx ⊢
  exact S.get x ob hx
theorem Sim.setR (S : Sim g h h') (k : Kind) (l : List DV) (b n : Pos) : Sim g ⟨n, Tr.set (.row k l) b h.bl⟩ ⟨n, Tr.set (.row k l) b h'.bl⟩ := S.set (show uK g (.row k l) (.row k l) from rfl) b n
theorem Sim.setM (S : Sim g h h') (es : List (DV × DV)) (b n : Pos) : Sim g ⟨n, Tr.set (.mp es) b h.bl⟩ ⟨n, Tr.set (.mp es) b h'.bl⟩ := S.set (show uK g (.mp es) (.mp es) from rfl) b n
theorem Sim.setI (S : Sim g h h') (s : List Nat) (p : Nat) (b n : Pos) : Sim g ⟨n, Tr.set (.it s p) b h.bl⟩ ⟨n, Tr.set (.it s p) b h'.bl⟩ := S.set (show uK g (.it s p) (.it s p) from rfl) b n
theorem Sim.new (S : Sim g h h') {o o' : Ob} (hr : uK g o o') : Sim g ⟨h.next.succ, Tr.set o h.next h.bl⟩ ⟨h'.next.succ, Tr.set o' h'.next h'.bl⟩ := by
 rw [S.next]; exact S.set hr _ _
theorem SimR.none (r : aJ) : SimR g none r := fun v h e => by cases e
theorem SimR.some (S : Sim g h h') (v : DV) : SimR g (some (v, h)) (some (v, h')) := fun u k e => by
 simp only [bE, bR] at e
 obtain ⟨rfl, rfl⟩ := e
 exact ⟨h', rfl, S⟩
theorem dQe {F : Hp → aJ} (hF : PureP F) : SimP g F F := fun h h' S v k e => by
 obtain ⟨rfl, h2⟩ := hF h v k e
 exact ⟨h', h2 h', S⟩
theorem Sim.rowOf (S : Sim g h h') {b : Pos} {l : List DV} (hb : rowOf b h = some l) : rowOf b h' = some l := by
 unfold Dd.rowOf at hb ⊢
 split at hb <;> (try (cases hb; done))
 rename_i k l0 h0
 rw [S.row h0]; exact hb
theorem Sim.cellsAt (S : Sim g h h') {b : Pos} {o n : Nat} {cs : List DV} (hb : cellsAt b o n h = some cs) : cellsAt b o n h' = some cs := by
 unfold Dd.cellsAt at hb ⊢
 split at hb <;> (try (cases hb; done))
 rename_i l h0
 rw [S.rowOf h0]; exact hb
theorem Sim.cellD (S : Sim g h h') {b : Pos} {o : Nat} {v : DV} (hb : cellD b o h = some v) : cellD b o h' = some v := by
 unfold Dd.cellD at hb ⊢
 split at hb <;> (try (cases hb; done))
 rename_i l h0
 rw [S.rowOf h0]; exact hb
theorem Sim.storeAt (S : Sim g h h') {b : Pos} {o : Nat} {vs : List DV} {k : Hp} (hb : dF b o vs h = some k) : ∃ k', dF b o vs h' = some k' ∧ Sim g k k' := by
 unfold dF at hb ⊢
 split at hb <;> (try (cases hb; done))
 rename_i kd l h0
 rw [S.row h0]
 dsimp only
 split at hb <;> (try (cases hb; done))
 rename_i hw
 rw [if_pos hw]
 split at hb <;> (try (cases hb; done))
 rename_i l' hp
 simp only [bE] at hb
 subst hb
 try simp only [hp]
 exact ⟨_, rfl, by rw [S.next]; exact S.set (show uK g (.row kd l') (.row kd l') from rfl) _ _⟩
theorem aFj (cs : List DV) : SimP g (bM cs) (bM cs) := fun h h' S v k e => by
 simp only [bM, bE, bR] at e ⊢
 obtain ⟨rfl, rfl⟩ := e
 exact ⟨_, ⟨by rw [S.next], rfl⟩, S.new rfl⟩
theorem aAg (b : Pos) (cs : List DV) : SimP g (jZ b cs) (jZ b cs) := fun h h' S v k e => by
 simp only [jZ, bE, bR] at e ⊢
 obtain ⟨rfl, rfl⟩ := e
 exact ⟨_, ⟨rfl, rfl⟩, by rw [S.next]; first | exact S.setR _ _ _ _ | exact S.setM _ _ _ | exact S.setI _ _ _ _⟩
theorem cLg (x : DV) : SimP g (bS x) (bS x) := by
 unfold bS
 cases dE x with
 | none => exact fun h h' S => SimR.none _
 | some cs => exact aFj cs
theorem bFe (b : Pos) (x : DV) : SimP g (yW b x) (yW b x) := by
 unfold yW
 cases dE x with
 | none => exact fun h h' S => SimR.none _
 | some cs => exact aAg b cs
theorem kJ (x : DV) : SimP g (aA x) (aA x) := fun h h' S v k e => by
 unfold aA at e ⊢
 split at e <;> (try (cases e; done))
 split at e <;> (try (cases e; done))
 rename_i hc
 simp only [bE, bR] at e
 obtain ⟨rfl, rfl⟩ := e
 simp only [S.cellD hc]
 exact ⟨_, rfl, S⟩
theorem kT (n : Nat) (x : DV) : SimP g (aK n x) (aK n x) := fun h h' S v k e => by
 unfold aK at e ⊢
 split at e <;> (try (cases e; done))
 split at e <;> (try (cases e; done))
 rename_i hc
 simp only [bE, bR] at e
 obtain ⟨rfl, rfl⟩ := e
 simp only [S.cellsAt hc]
 exact ⟨_, rfl, S⟩
theorem kH (n : Nat) (x y : DV) : SimP g (aG n x y) (aG n x y) := fun h h' S v k e => by
 unfold aG at e ⊢
 split at e <;> (try (cases e; done))
 rename_i b o cs hc
 try rw [hc]
 try dsimp only
 split at e <;> (try (cases e; done))
 rename_i hn
 rw [if_pos hn]
 split at e <;> (try (cases e; done))
 rename_i k0 hs
 simp only [bE, bR] at e
 obtain ⟨rfl, rfl⟩ := e
 obtain ⟨k', h1, h2⟩ := S.storeAt hs
 try simp only [h1]
 exact ⟨_, rfl, h2⟩
theorem bFj (size : Nat) (x : DV) (lo hi : Option DV) : SimP g (cT size x lo hi) (cT size x lo hi) := fun h h' S v k e => by
 unfold cT at e ⊢
 split at e <;> (try (cases e; done))
 ·split at e <;> (try (cases e; done))
  rename_i en he
  try simp only [he]
  split at e <;> (try (cases e; done))
  rename_i s hs
  try simp only [hs]
  split at e <;> (try (cases e; done))
  ·rename_i l0 hb
   rw [S.row hb]
   simp only [bE, bR] at e
   obtain ⟨rfl, rfl⟩ := e
   exact ⟨_, rfl, S⟩
  ·rename_i l0 hb
   rw [S.row hb]
   simp only [bE, bR] at e
   obtain ⟨rfl, rfl⟩ := e
   exact ⟨_, rfl, S⟩
  ·rename_i k0 l0 n1 n2 hb
   rw [S.row hb]
   cases k0 with
   | ro => exact absurd rfl n1
   | ex => exact absurd rfl n2
   | gr es =>
    dsimp only
    split at e
    ·rename_i hcs
     simp only [bE, bR] at e
     obtain ⟨rfl, rfl⟩ := e
     rw [if_pos hcs]
     exact ⟨_, rfl, S⟩
    ·rename_i hcs
     simp only [bE, bR] at e
     obtain ⟨rfl, rfl⟩ := e
     rw [if_neg hcs]
     exact ⟨_, rfl, S⟩
   | sp =>
    dsimp only
    split at e
    ·rename_i hcs
     simp only [bE, bR] at e
     obtain ⟨rfl, rfl⟩ := e
     rw [if_pos hcs]
     exact ⟨_, rfl, S⟩
    ·rename_i hcs
     simp only [bE, bR] at e
     obtain ⟨rfl, rfl⟩ := e
     rw [if_neg hcs]
     exact ⟨_, rfl, S⟩
 all_goals
  split at e <;> (try (cases e; done))
  rename_i en he
  try simp only [he]
  split at e <;> (try (cases e; done))
  rename_i s hs
  try simp only [hs]
  simp only [bE, bR] at e
  obtain ⟨rfl, rfl⟩ := e
  exact ⟨_, rfl, S⟩
theorem aQh (x : DV) (lo : Option DV) (hi mx : DV) : SimP g (mR x lo hi mx) (mR x lo hi mx) := fun h h' S v k e => by
 unfold mR at e ⊢
 split at e <;> (try (cases e; done))
 all_goals
  split at e <;> (try (cases e; done))
 ·rename_i m e1
  try simp only [e1]
  split at e <;> (try (cases e; done))
  rename_i n e2
  try simp only [e2]
  simp only [bE, bR] at e
  obtain ⟨rfl, rfl⟩ := e
  exact ⟨_, rfl, S⟩
 ·rename_i m e1
  try simp only [e1]
  split at e <;> (try (cases e; done))
  rename_i n e2
  try simp only [e2]
  simp only [bE, bR] at e
  obtain ⟨rfl, rfl⟩ := e
  exact ⟨_, rfl, S⟩
 ·rename_i n1 n2 e1 e2
  try simp only [e1, e2]
  simp only [bE, bR] at e
  obtain ⟨rfl, rfl⟩ := e
  exact ⟨_, rfl, S⟩
 ·rename_i n1 n2 e1 e2
  try simp only [e1, e2]
  simp only [bE, bR] at e
  obtain ⟨rfl, rfl⟩ := e
  exact ⟨_, rfl, S⟩
theorem bDn (x : DV) : SimP g (gJ x) (gJ x) := fun h h' S v k e => by
 unfold gJ at e ⊢
 split at e <;> (try (cases e; done))
 ·simp only [bE, bR] at e
  obtain ⟨rfl, rfl⟩ := e
  exact ⟨_, rfl, S⟩
 ·split at e <;> (try (cases e; done))
  rename_i cs hc
  simp only [S.cellsAt hc]
  split at e <;> (try (cases e; done))
  rename_i l hl
  try simp only [hl]
  simp only [bE, bR] at e
  obtain ⟨rfl, rfl⟩ := e
  exact ⟨_, rfl, S⟩
theorem zS (z : List DV) (n : Nat) (ps : List (Nat × Nat × DV)) : SimP g (aL z n ps) (aL z n ps) := fun h h' S v k e => by
 unfold aL at e ⊢
 split at e <;> (try (cases e; done))
 rename_i cs hf
 try simp only [hf]
 simp only [bE, bR] at e ⊢
 obtain ⟨rfl, rfl⟩ := e
 exact ⟨_, ⟨by rw [S.next], rfl⟩, S.new rfl⟩
theorem qI (b : Pos) (z : List DV) (n : Nat) (ps : List (Nat × Nat × DV)) : SimP g (bK b z n ps) (bK b z n ps) := fun h h' S v k e => by
 unfold bK at e ⊢
 split at e <;> (try (cases e; done))
 rename_i cs hf
 try simp only [hf]
 simp only [bE, bR] at e ⊢
 obtain ⟨rfl, rfl⟩ := e
 exact ⟨_, ⟨rfl, rfl⟩, by rw [S.next]; first | exact S.setR _ _ _ _ | exact S.setM _ _ _ | exact S.setI _ _ _ _⟩
theorem aLl : SimP g dW dW := fun h h' S v k e => by
 simp only [dW, bE, bR] at e ⊢
 obtain ⟨rfl, rfl⟩ := e
 exact ⟨_, ⟨by rw [S.next], rfl⟩, S.new rfl⟩
theorem Sim.entries (S : Sim g h h') {x : DV} {es : List (DV × DV)} (he : fK x h = some es) : fK x h' = some es := by
 unfold fK at he ⊢
 split at he <;> (try (cases he; done))
 ·exact he
 ·split at he <;> (try (cases he; done))
  rename_i hb
  rw [S.mp hb]; exact he
theorem aPr (d : TypeDesc) (z : DV) (ok : Bool) (x key : DV) : SimP g (dP d z ok x key) (dP d z ok x key) := fun h h' S v k e => by
 unfold dP at e ⊢
 split at e <;> (try (cases e; done))
 rename_i es he
 simp only [S.entries he]
 split at e <;> (try (cases e; done))
 all_goals
  rename_i hf
  try simp only [hf]
  simp only [bE, bR] at e
  obtain ⟨rfl, rfl⟩ := e
  exact ⟨_, rfl, S⟩
theorem aSp (d : TypeDesc) (x key y : DV) : SimP g (gA d x key y) (gA d x key y) := fun h h' S v k e => by
 unfold gA at e ⊢
 split at e <;> (try (cases e; done))
 split at e <;> (try (cases e; done))
 rename_i b _ es hb
 rw [S.mp hb]
 dsimp only
 split at e <;> (try (cases e; done))
 rename_i hf
 try simp only [hf]
 simp only [bE, bR] at e
 obtain ⟨rfl, rfl⟩ := e
 exact ⟨_, rfl, by rw [S.next]; first | exact S.setR _ _ _ _ | exact S.setM _ _ _ | exact S.setI _ _ _ _⟩
theorem aFg (d : TypeDesc) (z x key : DV) : SimP g (fP d z x key) (fP d z x key) := fun h h' S v k e => by
 unfold fP at e ⊢
 split at e <;> (try (cases e; done))
 split at e <;> (try (cases e; done))
 rename_i b _ es hb
 rw [S.mp hb]
 dsimp only
 split at e <;> (try (cases e; done))
 all_goals
  rename_i hf
  try simp only [hf]
  simp only [bE, bR] at e
  obtain ⟨rfl, rfl⟩ := e
  exact ⟨_, rfl, by rw [S.next]; first | exact S.setR _ _ _ _ | exact S.setM _ _ _ | exact S.setI _ _ _ _⟩
theorem zG (x s y : DV) : SimP g (dY x s y) (dY x s y) := fun h h' S v k e => by
 unfold dY at e ⊢
 split at e <;> (try (cases e; done))
 split at e <;> (try (cases e; done))
 rename_i es hb
 rw [S.mp hb]
 dsimp only
 split at e <;> (try (cases e; done))
 rename_i hf
 try simp only [hf]
 simp only [bE, bR] at e
 obtain ⟨rfl, rfl⟩ := e
 exact ⟨_, rfl, by rw [S.next]; first | exact S.setR _ _ _ _ | exact S.setM _ _ _ | exact S.setI _ _ _ _⟩
theorem aAf (size bytes : Nat) (z : List DV) (n c : DV) : SimP g (cK size bytes z n c) (cK size bytes z n c) := fun h h' S v k e => by
 unfold cK at e ⊢
 split at e <;> (try (cases e; done))
 split at e <;> (try (cases e; done))
 rename_i hc
 rw [if_pos hc]
 simp only [bE, bR] at e ⊢
 obtain ⟨rfl, rfl⟩ := e
 exact ⟨_, ⟨by rw [S.next], rfl⟩, S.new rfl⟩
theorem bEa (z : List DV) (x : DV) : SimP g (iZ z x) (iZ z x) := fun h h' S v k e => by
 unfold iZ at e ⊢
 split at e <;> (try (cases e; done))
 ·simp only [bE, bR] at e
  obtain ⟨rfl, rfl⟩ := e
  exact ⟨_, rfl, S⟩
 ·simp only [bE, bR] at e
  obtain ⟨rfl, rfl⟩ := e
  exact ⟨_, rfl, S⟩
 ·split at e
  ·rename_i hn
   simp only [bE, bR] at e
   obtain ⟨rfl, rfl⟩ := e
   simp only [hn, if_true]
   exact ⟨_, rfl, S⟩
  ·rename_i hn
   rw [if_neg hn]
   split at e <;> (try (cases e; done))
   rename_i k0 hs
   simp only [bE, bR] at e
   obtain ⟨rfl, rfl⟩ := e
   obtain ⟨k', h1, h2⟩ := S.storeAt hs
   try simp only [h1]
   exact ⟨_, rfl, h2⟩
theorem Sim.src (S : Sim g h h') {size : Nat} {x : DV} {r : Nat × List DV} (hs : sN size x h = some r) : sN size x h' = some r := by
 unfold sN at hs ⊢
 split at hs <;> (try (cases hs; done))
 ·exact hs
 ·exact hs
 ·split at hs <;> (try (cases hs; done))
  rename_i hc
  simp only [S.cellsAt hc]; exact hs
 ·split at hs <;> (try (cases hs; done))
  rename_i hc
  simp only [S.cellsAt hc]; exact hs
 ·exact hs
theorem aRk (size bytes : Nat) (s x : DV) : SimP g (bA size bytes s x) (bA size bytes s x) := fun h h' S v k e => by
 unfold bA at e ⊢
 split at e <;> (try (cases e; done))
 rename_i n new hs
 simp only [S.src hs]
 split at e <;> (try (cases e; done))
 ·split at e
  ·rename_i hn
   rw [if_pos hn]
   simp only [bE, bR] at e
   obtain ⟨rfl, rfl⟩ := e
   exact ⟨_, rfl, S⟩
  ·rename_i hn
   rw [if_neg hn]
   split at e <;> (try (cases e; done))
   rename_i hr
   rw [if_pos hr]
   simp only [bE, bR] at e ⊢
   obtain ⟨rfl, rfl⟩ := e
   exact ⟨_, ⟨by rw [S.next], rfl⟩, S.new rfl⟩
 ·split at e <;> (try (cases e; done))
  rename_i hn
  rw [if_pos hn]
  simp only [bE, bR] at e
  obtain ⟨rfl, rfl⟩ := e
  exact ⟨_, rfl, S⟩
 ·rename_i b o len cap
  split at e
  ·rename_i hle
   rw [if_pos hle]
   split at e <;> (try (cases e; done))
   rename_i k0 hst
   simp only [bE, bR] at e
   obtain ⟨rfl, rfl⟩ := e
   obtain ⟨k', h1, h2⟩ := S.storeAt hst
   try simp only [h1]
   exact ⟨_, rfl, h2⟩
  ·rename_i hle
   rw [if_neg hle]
   split at e <;> (try (cases e; done))
   rename_i k0 l old hb hold
   rw [S.row hb, S.cellsAt hold]
   dsimp only
   split at e <;> (try (cases e; done))
   rename_i hroom
   rw [if_pos hroom]
   split at e <;> (try (cases e; done))
   ·simp only [bE, bR] at e ⊢
    obtain ⟨rfl, rfl⟩ := e
    exact ⟨_, ⟨by rw [S.next], rfl⟩, S.new rfl⟩
   ·simp only [bE, bR] at e ⊢
    obtain ⟨rfl, rfl⟩ := e
    exact ⟨_, ⟨by rw [S.next], rfl⟩, S.new rfl⟩
   ·split at e <;> (try (cases e; done))
    rename_i hes
    rw [if_pos hes]
    simp only [bE, bR] at e ⊢
    obtain ⟨rfl, rfl⟩ := e
    refine ⟨_, ⟨by rw [S.next], rfl⟩, ?_⟩
    have S1 : Sim g ⟨h.next, Tr.set (.row .sp (bT o l)) b h.bl⟩ ⟨h'.next, Tr.set (.row .sp (bT o l)) b h'.bl⟩ := by
     rw [S.next]; exact S.set (show uK g (.row .sp (bT o l)) (.row .sp (bT o l)) from rfl) _ _
    exact S1.new rfl
 ·rename_i b o len cap
  split at e
  ·rename_i hn
   rw [if_pos hn]
   split at e <;> (try (cases e; done))
   rename_i hc
   rw [if_pos hc]
   simp only [bE, bR] at e
   obtain ⟨rfl, rfl⟩ := e
   exact ⟨_, rfl, S⟩
  ·rename_i hn
   rw [if_neg hn]
   split at e <;> (try (cases e; done))
   rename_i hc
   rw [if_neg hc]
   split at e <;> (try (cases e; done))
   rename_i old hold
   simp only [S.cellsAt hold]
   split at e <;> (try (cases e; done))
   rename_i hr
   rw [if_pos hr]
   simp only [bE, bR] at e ⊢
   obtain ⟨rfl, rfl⟩ := e
   exact ⟨_, ⟨by rw [S.next], rfl⟩, S.new rfl⟩
theorem bEw (x : DV) : SimP g (oC x) (oC x) := fun h h' S v k e => by
 unfold oC at e ⊢
 split at e <;> (try (cases e; done))
 simp only [bE, bR] at e ⊢
 obtain ⟨rfl, rfl⟩ := e
 exact ⟨_, ⟨by rw [S.next], rfl⟩, S.new rfl⟩
theorem bHb (x : DV) : SimP g (yK x) (yK x) := fun h h' S v k e => by
 unfold yK at e ⊢
 split at e <;> (try (cases e; done))
 split at e <;> (try (cases e; done))
 rename_i b _ l pos hb
 rw [S.it hb]
 dsimp only
 split at e
 ·rename_i c hc
  try simp only [hc]
  split at e <;> (try (cases e; done))
  rename_i hlt
  rw [if_pos hlt]
  simp only [bE, bR] at e ⊢
  obtain ⟨rfl, rfl⟩ := e
  exact ⟨_, ⟨rfl, rfl⟩, by rw [S.next]; first | exact S.setR _ _ _ _ | exact S.setM _ _ _ | exact S.setI _ _ _ _⟩
 ·rename_i hc
  try simp only [hc]
  simp only [bE, bR] at e ⊢
  obtain ⟨rfl, rfl⟩ := e
  exact ⟨_, ⟨rfl, rfl⟩, S⟩
end
end Go.Dd

namespace Go.Dd
theorem SimP.none {gg : Bool} (p : Hp → aJ) : SimP gg (fun _ => Option.none) p := fun h h' S => SimR.none _
theorem SimP.val {gg : Bool} (v : DV) : SimP gg (fun h => some (v, h)) (fun h => some (v, h)) := fun h h' S => SimR.some S v
section
variable {gg : Bool} {P : Program} {I2 I1 : FuncId → Option (List DV → Hp → aJ)} {rec2 rec1 : FuncId → List DV → Hp → aJ}
theorem aNf (b : Builtin) (ts : List TypeId) (args : List DV) : SimP gg (jM ⟨P, I2⟩ b ts args) (jM ⟨P, I1⟩ b ts args) := by
 unfold jM
 cases b <;> try exact SimP.none _
 case len =>
  match ts, args with
  | [t], [x] =>
   dsimp only
   cases P.underlying t with
   | none => exact SimP.none _
   | some d => cases d <;> first | exact SimP.none _ | exact dQe (aAp x) | exact dQe (mN x)
  | [], _ => exact SimP.none _
  | [_], [] => exact SimP.none _
  | [_], _ :: _ :: _ => exact SimP.none _
  | _ :: _ :: _, _ => exact SimP.none _
 case min =>
  show SimP gg (qJ args) (qJ args)
  unfold qJ
  match args with
  | [x, y] => exact dQe (aNo x y)
  | [] => exact SimP.none _
  | [_] => exact SimP.none _
  | _ :: _ :: _ :: _ => exact SimP.none _
 case max =>
  show SimP gg (rQ args) (rQ args)
  unfold rQ
  match args with
  | [x, y] => exact dQe (aLg x y)
  | [] => exact SimP.none _
  | [_] => exact SimP.none _
  | _ :: _ :: _ :: _ => exact SimP.none _
 case clear =>
  match ts, args with
  | [t], [x] =>
   dsimp only
   cases P.underlying t with
   | none => exact SimP.none _
   | some d =>
    cases d <;> try exact SimP.none _
    rename_i e
    dsimp only
    cases P.info? e with
    | none => exact SimP.none _
    | some i =>
     dsimp only
     cases i.zero with
     | none => exact SimP.none _
     | some z =>
      dsimp only
      by_cases h0 : 0 < z.cells.size
      ·simp only [h0, if_true]; exact bEa _ _
      ·simp only [h0, if_false]; exact SimP.none _
  | [], _ => exact SimP.none _
  | [_], [] => exact SimP.none _
  | [_], _ :: _ :: _ => exact SimP.none _
  | _ :: _ :: _, _ => exact SimP.none _
 case append =>
  match ts, args with
  | [t, u], [s, x] =>
   dsimp only
   have hmain : ∀ e, SimP gg (fun h => match P.info? e with
     | some i => match i.zero with
      | some z => if 0 < i.size ∧ 0 < i.bytes ∧ z.cells.size = i.size then bA i.size i.bytes s x h else none
      | none => none
     | none => none) (fun h => match P.info? e with
     | some i => match i.zero with
      | some z => if 0 < i.size ∧ 0 < i.bytes ∧ z.cells.size = i.size then bA i.size i.bytes s x h else none
      | none => none
     | none => none) := by
    intro e
    cases P.info? e with
    | none => exact SimP.none _
    | some i =>
     dsimp only
     cases i.zero with
     | none => exact SimP.none _
     | some z =>
      dsimp only
      split
      ·exact aRk _ _ _ _
      ·exact SimP.none _
   cases P.underlying t with
   | none => exact SimP.none _
   | some d =>
    cases d <;> try exact SimP.none _
    rename_i e
    cases P.underlying u with
    | none => exact SimP.none _
    | some d2 => cases d2 <;> first | exact SimP.none _ | exact hmain e
  | [], _ => exact SimP.none _
  | [_], _ => exact SimP.none _
  | [_, _], [] => exact SimP.none _
  | [_, _], [_] => exact SimP.none _
  | [_, _], _ :: _ :: _ :: _ => exact SimP.none _
  | _ :: _ :: _ :: _, _ => exact SimP.none _
theorem aAw (HC : ∀ g args, SimP gg (bQ ⟨P, I2⟩ rec2 g args) (bQ ⟨P, I1⟩ rec1 g args)) (o : Oper) (env : aZ) : SimP gg (iU ⟨P, I2⟩ rec2 o env) (iU ⟨P, I1⟩ rec1 o env) := by
 obtain ⟨dst, op, ty, pos, after, guard⟩ := o
 unfold iU
 cases op <;> (try dsimp only) <;> try exact SimP.none _
 case move x => exact SimP.val _
 case assign x => exact SimP.val _
 case pick c x y => exact dQe (aAx _ _ _)
 case alloc t =>
  cases P.info? t with
  | none => exact SimP.none _
  | some i =>
   try dsimp only
   cases i.zero with
   | none => exact SimP.none _
   | some z => exact aFj _
 case box t x => exact cLg _
 case build t ps =>
  cases P.underlying t with
  | none => exact SimP.none _
  | some d =>
   cases d <;> (try dsimp only) <;> try exact SimP.none _
   rename_i fs
   cases P.info? t with
   | none => exact SimP.none _
   | some i =>
    try dsimp only
    cases i.zero with
    | none => exact SimP.none _
    | some z =>
     try dsimp only
     generalize fs.toList.mapM (fun f => (P.info? f.type).map fun fi => (f.offset, fi.size)) = pl
     cases pl with
     | none => exact SimP.none _
     | some pl =>
      try dsimp only
      generalize ps.toList.mapM (fun (q : Nat × Operand) => (pl[q.1]?).map fun s => (s.1, s.2, opr env q.2)) = l
      cases l with
      | none => exact SimP.none _
      | some l => exact dQe (wW _ _)
 case buildSlice t n ps =>
  cases P.underlying t with
  | none => exact SimP.none _
  | some d =>
   cases d <;> (try dsimp only) <;> try exact SimP.none _
   rename_i e
   cases P.info? e with
   | none => exact SimP.none _
   | some i =>
    try dsimp only
    cases i.zero with
    | none => exact SimP.none _
    | some z =>
     try dsimp only
     split
     ·exact zS _ _ _
     ·exact SimP.none _
 case load t x =>
  cases P.underlying t with
  | none => exact SimP.none _
  | some d =>
   cases P.info? t with
   | none => exact SimP.none _
   | some i =>
    try dsimp only
    cases iT d with
    | true => exact kT _ _
    | false => exact kJ _
 case store t x y =>
  cases P.info? t with
  | none => exact SimP.none _
  | some i => exact kH _ _ _
 case nilCheck x => exact dQe (aMp _)
 case binOp op t x y yt =>
  cases P.underlying t with
  | none => exact SimP.none _
  | some d => exact dQe (aMq _ _ _ _)
 case unOp op t x => exact dQe (bBn _ _)
 case convert src dst x =>
  cases P.underlying src with
  | none => exact SimP.none _
  | some d =>
   cases P.underlying dst with
   | none => cases d <;> exact SimP.none _
   | some d2 =>
    cases d2 <;> cases d <;> (try dsimp only) <;> first | exact SimP.none _ | exact dQe (nV _ _) | exact dQe (oB _) | skip
    all_goals
     rename_i e
     cases P.underlying e with
     | none => exact SimP.none _
     | some d3 =>
      cases d3 <;> (try dsimp only) <;> try exact SimP.none _
      rename_i k
      cases k <;> first | exact SimP.none _ | exact bDn _
 case makeFunc fn first cap =>
  cases fn <;> first | exact SimP.none _ | exact SimP.val _
 case slice t x lo hi mx =>
  cases P.underlying t with
  | none => exact SimP.none _
  | some d =>
   cases mx with
   | none =>
    cases d <;> (try dsimp only) <;> first | exact SimP.none _ | exact dQe (mA _ _ _) | skip
    rename_i e
    cases P.info? e with
    | none => exact SimP.none _
    | some i => exact bFj _ _ _ _
   | some m =>
    cases d <;> (try dsimp only) <;> try exact SimP.none _
    rename_i e
    cases P.info? e with
    | none => exact SimP.none _
    | some i =>
     cases hi with
     | none => exact SimP.none _
     | some hv => exact aQh _ _ _ _
 case fieldAddr t x f =>
  cases P.underlying t with
  | none => exact SimP.none _
  | some d =>
   cases d <;> (try dsimp only) <;> try exact SimP.none _
   rename_i fs
   cases fs[f]? with
   | none => exact SimP.none _
   | some fl =>
    try dsimp only
    cases P.info? fl.type with
    | none => exact SimP.none _
    | some i =>
     try dsimp only
     split
     ·exact SimP.none _
     ·exact dQe (xG _ _)
 case field t x f =>
  cases P.underlying t with
  | none => exact SimP.none _
  | some d =>
   cases d <;> (try dsimp only) <;> try exact SimP.none _
   rename_i fs
   cases fs[f]? with
   | none => exact SimP.none _
   | some fl =>
    try dsimp only
    cases P.underlying fl.type with
    | none => exact SimP.none _
    | some d2 =>
     cases P.info? fl.type with
     | none => exact SimP.none _
     | some i =>
      try dsimp only
      cases iT d2 with
      | true => exact dQe (vL _ _ _)
      | false => exact dQe (yG _ _)
 case indexAddr t x ix =>
  cases P.underlying t with
  | none => exact SimP.none _
  | some d =>
   cases d <;> (try dsimp only) <;> try exact SimP.none _
   ·rename_i e
    cases P.info? e with
    | none => exact SimP.none _
    | some i => exact dQe (lU _ _ _)
   ·rename_i n e
    cases P.info? e with
    | none => exact SimP.none _
    | some i => exact dQe (nI _ _ _ _)
 case index t x ix =>
  cases P.underlying t with
  | none => exact SimP.none _
  | some d => cases d <;> first | exact SimP.none _ | exact dQe (sM _ _)
 case extract x i => exact dQe (pC _ _)
 case range t x =>
  cases P.underlying t with
  | none => exact SimP.none _
  | some d => cases d <;> first | exact SimP.none _ | exact bEw _
 case next x str =>
  cases str with
  | true => simp only [if_true]; exact bHb _
  | false => simp only [Bool.false_eq_true, if_false]; exact SimP.none _
 case makeMap t r => cases r <;> first | exact SimP.none _ | exact aLl
 case lookup t x k ok =>
  cases P.underlying t with
  | none => exact SimP.none _
  | some d =>
   cases d <;> (try dsimp only) <;> try exact SimP.none _
   rename_i kt et
   cases P.underlying kt with
   | none => exact SimP.none _
   | some d2 =>
    cases P.info? et with
    | none => exact SimP.none _
    | some i =>
     try dsimp only
     cases i.zero with
     | none => exact SimP.none _
     | some z =>
      try dsimp only
      cases jI d2 with
      | true => exact aPr _ _ _ _ _
      | false => exact SimP.none _
 case mapUpdate t m k x =>
  cases P.underlying t with
  | none => exact SimP.none _
  | some d =>
   cases d <;> (try dsimp only) <;> try exact SimP.none _
   rename_i kt et
   cases P.underlying kt with
   | none => exact SimP.none _
   | some d2 =>
    try dsimp only
    cases jI d2 with
    | true => exact aSp _ _ _ _
    | false => exact SimP.none _
 case mapEntry t m k =>
  cases P.underlying t with
  | none => exact SimP.none _
  | some d =>
   cases d <;> (try dsimp only) <;> try exact SimP.none _
   rename_i kt et
   cases P.underlying kt with
   | none => exact SimP.none _
   | some d2 =>
    cases P.info? et with
    | none => exact SimP.none _
    | some i =>
     try dsimp only
     cases i.zero with
     | none => exact SimP.none _
     | some z =>
      try dsimp only
      cases jI d2 with
      | true => exact aFg _ _ _ _
      | false => exact SimP.none _
 case entryStore t m s x => exact zG _ _ _
 case makeSlice t n c =>
  cases P.underlying t with
  | none => exact SimP.none _
  | some d =>
   cases d <;> (try dsimp only) <;> try exact SimP.none _
   rename_i e
   cases P.info? e with
   | none => exact SimP.none _
   | some i =>
    try dsimp only
    cases i.zero with
    | none => exact SimP.none _
    | some z =>
     try dsimp only
     split
     ·exact aAf _ _ _ _ _
     ·exact SimP.none _
 case call c =>
  obtain ⟨callee, args, ats⟩ := c
  cases callee with
  | value f =>
   try dsimp only
   unfold cX
   cases opr env f <;> first | exact SimP.none _ | exact HC _ _
  | invoke r m => exact SimP.none _
  | builtin b => exact aNf _ _ _
theorem kM (HC : ∀ g args, SimP gg (bQ ⟨P, I2⟩ rec2 g args) (bQ ⟨P, I1⟩ rec1 g args)) (all : Array Oper) (o : Oper) (env : aZ) :
  SimP gg (bJ ⟨P, I2⟩ rec2 all o env) (bJ ⟨P, I1⟩ rec1 all o env) := by
 unfold bJ
 cases o.guard with
 | none => exact aAw HC o env
 | some g =>
  obtain ⟨j, want⟩ := g
  dsimp only
  unfold gD
  cases aZp all j env <;> try exact SimP.none _
  ·rename_i x
   dsimp only
   split
   ·exact aAw HC o env
   ·exact SimP.val _
  ·rename_i vs
   cases vs with
   | nil => exact SimP.val _
   | cons a b => exact SimP.none _
def SimK (gg : Bool) (k k' : K) : Prop := ∀ env, SimP gg (k env) (k' env)
theorem dQi {r r' : aJ} {k k' : DV → Hp → aJ} (h : SimR gg r r') (hk : ∀ v, SimP gg (k v) (k' v)) : SimR gg (bnd r k) (bnd r' k') := by
 intro v h1 e
 obtain ⟨u, h0, e1, e2⟩ := dK e
 obtain ⟨h0', f1, S⟩ := h u h0 e1
 obtain ⟨h1', g1, S1⟩ := hk u h0 h0' S v h1 e2
 exact ⟨h1', by rw [f1]; exact g1, S1⟩
theorem dQx {b b' : Bool} {r r' : aJ} (hb : b = true → b' = true) (h : SimR gg r r') : SimR gg (cnd b r) (cnd b' r') := by
 cases b with
 | false => exact fun v k e => by cases e
 | true => rw [hb rfl]; exact h
theorem qC (HC : ∀ g args, SimP gg (bQ ⟨P, I2⟩ rec2 g args) (bQ ⟨P, I1⟩ rec1 g args)) (nt : Nat) (all : Array Oper) {k k' : K} (hk : SimK gg k k') :
  ∀ l : List Oper, SimK gg (iX ⟨P, I2⟩ rec2 nt all l k) (iX ⟨P, I1⟩ rec1 nt all l k')
 | [] => hk
 | o :: l => fun env h h' S => by
  change SimR gg (cnd (cY nt o.dst) (bnd (bJ ⟨P, I2⟩ rec2 all o env h) fun v h1 => iX ⟨P, I2⟩ rec2 nt all l k (bO env o.dst v) h1))
   (cnd (cY nt o.dst) (bnd (bJ ⟨P, I1⟩ rec1 all o env h') fun v h1 => iX ⟨P, I1⟩ rec1 nt all l k' (bO env o.dst v) h1))
  exact dQx id (dQi (kM HC all o env h h' S) fun v => qC HC nt all hk l _)
theorem cTg (o : Oper) (b : Pos) (env : aZ) : SimP gg (dT ⟨P, I2⟩ o b env) (dT ⟨P, I1⟩ o b env) := by
 obtain ⟨dst, op, ty, pos, after, guard⟩ := o
 unfold dT
 cases op <;> (try dsimp only) <;> try exact SimP.none _
 case alloc t =>
  cases P.info? t with
  | none => exact SimP.none _
  | some i =>
   dsimp only
   cases i.zero with
   | none => exact SimP.none _
   | some z => exact aAg _ _
 case box t x => exact bFe _ _
 case buildSlice t n ps =>
  cases P.underlying t with
  | none => exact SimP.none _
  | some d =>
   cases d <;> (try dsimp only) <;> try exact SimP.none _
   rename_i e
   cases P.info? e with
   | none => exact SimP.none _
   | some i =>
    dsimp only
    cases i.zero with
    | none => exact SimP.none _
    | some z =>
     dsimp only
     split
     ·exact qI _ _ _ _
     ·exact SimP.none _
theorem SimR.same {r r' : aJ} (h : SimR gg r r') {v : DV} (hs : bG r v = true) : bG r' v = true := by
 unfold bG at hs ⊢
 split at hs
 ·rename_i x k
  obtain ⟨k', e, _⟩ := h x k rfl
  rw [e]; exact hs
 ·cases hs
inductive SimHs (gg : Bool) : List (Option Nat × Hp) → List (Option Nat × Hp) → Prop
 | nil : SimHs gg [] []
 | cons {j : Option Nat} {h h' : Hp} {l l' : List (Option Nat × Hp)} (S : Sim gg h h') (T : SimHs gg l l') : SimHs gg ((j, h) :: l) ((j, h') :: l')
theorem sH (m : Array Nat) (i : Nat) (v : DV) {look look' : Hp → aJ} (hl : SimP gg look look') : ∀ (dirty : Bool) {hs hs' : List (Option Nat × Hp)}, SimHs gg hs hs' →
  eH m i v look dirty hs = true → eH m i v look' dirty hs' = true
 | dirty, _, _, .nil, h => h
 | dirty, _, _, .cons (j := j) S T, h => by
  unfold eH at h ⊢
  rw [Bool.and_eq_true] at h ⊢
  refine ⟨?_, ?_⟩
  ·have h1 := h.1
   cases dirty with
   | true => exact SimR.same (hl _ _ S) h1
   | false => exact h1
  ·have h2 := h.2
   cases j with
   | none => exact h2
   | some j =>
    dsimp only at h2 ⊢
    cases ho : gB m j i with
    | true => rfl
    | false =>
     rw [ho] at h2
     exact sH m i v hl true T h2
inductive SimSeen (gg : Bool) : List Seen → List Seen → Prop
 | nil : SimSeen gg [] []
 | cons {i : Nat} {look look' : Hp → aJ} {v : DV} {l l' : List Seen} (S : SimP gg look look') (T : SimSeen gg l l') : SimSeen gg (⟨i, look, v⟩ :: l) (⟨i, look', v⟩ :: l')
theorem SimSeen.all {m : Array Nat} {i : Nat} {h h' : Hp} (S : Sim gg h h') : ∀ {l l' : List Seen}, SimSeen gg l l' →
  l.all (fun q => gB m q.at_ i || bG (q.look h) q.v) = true → l'.all (fun q => gB m q.at_ i || bG (q.look h') q.v) = true
 | _, _, .nil, e => e
 | _, _, .cons (i := i0) (v := v) S1 T, e => by
  rw [List.all_cons, Bool.and_eq_true] at e ⊢
  refine ⟨?_, SimSeen.all S T e.2⟩
  have h1 := e.1
  rw [Bool.or_eq_true] at h1 ⊢
  exact h1.imp id fun hs => SimR.same (S1 _ _ S) hs
theorem lV (HC : ∀ g args, SimP gg (bQ ⟨P, I2⟩ rec2 g args) (bQ ⟨P, I1⟩ rec1 g args)) (nt : Nat) (all : Array Oper) (m : Array Nat) (p0 : Pos) {k k' : K} (hk : SimK gg k k') :
  ∀ (l : List Oper) (i c : Nat) (dirty : Bool) {rd rd' : List Seen} {hs hs' : List (Option Nat × Hp)}, SimSeen gg rd rd' → SimHs gg hs hs' →
   SimK gg (eG ⟨P, I2⟩ rec2 nt all m p0 l k i c dirty rd hs) (eG ⟨P, I1⟩ rec1 nt all m p0 l k' i c dirty rd' hs')
 | [], i, c, dirty, rd, rd', hs, hs', R, T => hk
 | o :: l, i, c, dirty, rd, rd', hs, hs', R, T => fun env h h' S => by
  change SimR gg (cnd (cY nt o.dst) (
   match bV P o.op with
   | .pure => bnd (bJ ⟨P, I2⟩ rec2 all o env h) fun v h' => eG ⟨P, I2⟩ rec2 nt all m p0 l k (i + 1) c dirty rd hs (bO env o.dst v) h'
   | .reads => bnd (bJ ⟨P, I2⟩ rec2 all o env h) fun v h' =>
     cnd (eH m i v (bJ ⟨P, I2⟩ rec2 all o env) dirty hs) (eG ⟨P, I2⟩ rec2 nt all m p0 l k (i + 1) c dirty (⟨i, bJ ⟨P, I2⟩ rec2 all o env, v⟩ :: rd) hs (bO env o.dst v) h')
   | .makes => bnd (dT ⟨P, I2⟩ o (bW c p0) env h) fun v h' => eG ⟨P, I2⟩ rec2 nt all m p0 l k (i + 1) (c + 1) true rd hs (bO env o.dst v) h'
   | .acts => bnd (bJ ⟨P, I2⟩ rec2 all o env h) fun v h' =>
     cnd (rd.all (fun q => gB m q.at_ i || bG (q.look h') q.v)) (eG ⟨P, I2⟩ rec2 nt all m p0 l k (i + 1) c false rd ((some i, h') :: hs) (bO env o.dst v) h')))
   (cnd (cY nt o.dst) (
   match bV P o.op with
   | .pure => bnd (bJ ⟨P, I1⟩ rec1 all o env h') fun v h' => eG ⟨P, I1⟩ rec1 nt all m p0 l k' (i + 1) c dirty rd' hs' (bO env o.dst v) h'
   | .reads => bnd (bJ ⟨P, I1⟩ rec1 all o env h') fun v h' =>
     cnd (eH m i v (bJ ⟨P, I1⟩ rec1 all o env) dirty hs') (eG ⟨P, I1⟩ rec1 nt all m p0 l k' (i + 1) c dirty (⟨i, bJ ⟨P, I1⟩ rec1 all o env, v⟩ :: rd') hs' (bO env o.dst v) h')
   | .makes => bnd (dT ⟨P, I1⟩ o (bW c p0) env h') fun v h' => eG ⟨P, I1⟩ rec1 nt all m p0 l k' (i + 1) (c + 1) true rd' hs' (bO env o.dst v) h'
   | .acts => bnd (bJ ⟨P, I1⟩ rec1 all o env h') fun v h' =>
     cnd (rd'.all (fun q => gB m q.at_ i || bG (q.look h') q.v)) (eG ⟨P, I1⟩ rec1 nt all m p0 l k' (i + 1) c false rd' ((some i, h') :: hs') (bO env o.dst v) h')))
  refine dQx id ?_
  cases bV P o.op with
  | pure => exact dQi (kM HC all o env h h' S) fun v => lV HC nt all m p0 hk l _ _ _ R T _
  | reads =>
   exact dQi (kM HC all o env h h' S) fun v h1 h1' S1 => dQx (sH m i v (kM HC all o env) dirty T)
    (lV HC nt all m p0 hk l _ _ _ (.cons (kM HC all o env) R) T _ _ _ S1)
  | makes => exact dQi (cTg o _ env h h' S) fun v => lV HC nt all m p0 hk l _ _ _ R T _
  | acts =>
   exact dQi (kM HC all o env h h' S) fun v h1 h1' S1 => dQx (SimSeen.all S1 R)
    (lV HC nt all m p0 hk l _ _ _ R (.cons S1 T) _ _ _ S1)
theorem Sim.resv {gg : Bool} {h h' : Hp} (S : Sim gg h h') (k : Nat) : Sim gg (resv k h) (resv k h') := by
 cases k with
 | zero => exact S
 | succ k => exact ⟨by show bW (k + 1) h'.next = bW (k + 1) h.next; rw [S.next], S.get⟩
theorem bUm (HC : ∀ g args, SimP gg (bQ ⟨P, I2⟩ rec2 g args) (bQ ⟨P, I1⟩ rec1 g args)) (nt : Nat) (ops : Array Oper) {k k' : K} (hk : SimK gg k k') :
  SimK gg (iL ⟨P, I2⟩ rec2 nt ops k) (iL ⟨P, I1⟩ rec1 nt ops k') := fun env h h' S => by
 unfold iL
 rw [S.next]
 exact lV HC nt ops _ _ hk _ _ _ _ .nil (.cons (S.resv _) .nil) env _ _ (S.resv _)
theorem aIn {c : DV} {a b a' b' : aJ} (ha : SimR gg a a') (hb : SimR gg b b') : SimR gg (aR c a b) (aR c a' b') := by
 unfold aR
 cases c <;> try exact SimR.none _
 rename_i x
 cases x
 ·exact hb
 ·exact ha
theorem pE {b b' : K → K} (hb : ∀ k k', SimK gg k k' → SimK gg (b k) (b' k')) : ∀ (n d : Nat), SimK gg (aO b n) (aO b' (n + d))
 | 0, d => fun env h h' S v k e => by cases e
 | n + 1, d => by
  rw [show n + 1 + d = (n + d) + 1 from by omega]
  exact hb _ _ (pE hb n d)
theorem fX (HC : ∀ g args, SimP gg (bQ ⟨P, I2⟩ rec2 g args) (bQ ⟨P, I1⟩ rec1 g args)) (nt n d : Nat) : ∀ (c : Code) (X X' : Nat → K) (kr kr' k k' : K), (∀ j, SimK gg (X j) (X' j)) → SimK gg kr kr' → SimK gg k k' →
  SimK gg (aM ⟨P, I2⟩ rec2 nt n c X kr k) (aM ⟨P, I1⟩ rec1 nt (n + d) c X' kr' k') := by
 intro c
 have hfail : ∀ k', SimK gg dM k' := fun k' env h h' S v k e => by cases e
 induction c with
 | skip => intro X X' kr kr' k k' hX hr hk; exact hk
 | region id ops dr =>
  intro X X' kr kr' k k' hX hr hk
  change SimK gg (Bool.rec (motive := fun _ => K) (iX ⟨P, I2⟩ rec2 nt ops ops.toList k) (Bool.rec (motive := fun _ => K) dM (iL ⟨P, I2⟩ rec2 nt ops k) (fA P ops)) dr)
   (Bool.rec (motive := fun _ => K) (iX ⟨P, I1⟩ rec1 nt ops ops.toList k') (Bool.rec (motive := fun _ => K) dM (iL ⟨P, I1⟩ rec1 nt ops k') (fA P ops)) dr)
  cases dr with
  | false => exact qC HC nt ops hk _
  | true =>
   cases fA P ops with
   | false => exact hfail _
   | true => exact bUm HC nt ops hk
 | seq x y ihx ihy => intro X X' kr kr' k k' hX hr hk; exact ihx _ _ _ _ _ _ hX hr (ihy _ _ _ _ _ _ hX hr hk)
 | cond c x y ihx ihy =>
  intro X X' kr kr' k k' hX hr hk env h h' S
  exact aIn (ihx _ _ _ _ _ _ hX hr hk env h h' S) (ihy _ _ _ _ _ _ hX hr hk env h h' S)
 | block id x ih =>
  intro X X' kr kr' k k' hX hr hk
  refine ih _ _ _ _ _ _ (fun j => ?_) hr hk
  cases hj : Nat.beq j id with
  | true => exact hk
  | false => exact hX j
 | loop x ih =>
  intro X X' kr kr' k k' hX hr hk
  exact pE (fun k k' hk => ih _ _ _ _ _ _ hX hr hk) n d
 | rangeFunc f ps x y ihx ihy => intro X X' kr kr' k k' hX hr hk; exact hfail _
 | exit id => intro X X' kr kr' k k' hX hr hk; exact hX id
 | scope x ih => intro X X' kr kr' k k' hX hr hk; exact ih _ _ _ _ _ _ hX hr hk
 | label l => intro X X' kr kr' k k' hX hr hk; exact hk
 | goto l => intro X X' kr kr' k k' hX hr hk; exact hfail _
 | ret => intro X X' kr kr' k k' hX hr hk; exact hr
 | refuse why => intro X X' kr kr' k k' hX hr hk; exact hfail _
theorem bDi {h h' : Hp} (S : Sim gg h h') (t : TypeId) (x : DV) {k k' : DV → aJ} (hk : ∀ v, SimR gg (k v) (k' v)) : SimR gg (aAl ⟨P, I2⟩ t x h k) (aAl ⟨P, I1⟩ t x h' k') := by
 unfold aAl
 dsimp only
 cases P.underlying t with
 | none => exact SimR.none _
 | some d =>
  cases P.info? t with
  | none => exact SimR.none _
  | some i =>
   dsimp only
   refine dQi ?_ fun v _ _ _ => hk v
   cases iT d with
   | true => exact kT _ _ h h' S
   | false => exact kJ _ h h' S
theorem qH {h h' : Hp} (S : Sim gg h h') (env : aZ) : ∀ (l : List ResultVar) (k k' : List DV → aJ), (∀ vs, SimR gg (k vs) (k' vs)) → SimR gg (aUs ⟨P, I2⟩ env h l k) (aUs ⟨P, I1⟩ env h' l k')
 | [], k, k', hk => hk []
 | .tmp t :: l, k, k', hk => qH S env l _ _ fun vs => hk _
 | .cell a t :: l, k, k', hk => bDi S t (env a) fun v => qH S env l _ _ fun vs => hk _
theorem pA (fn : Func) : SimK gg (aU ⟨P, I2⟩ fn) (aU ⟨P, I1⟩ fn) := fun env h h' S => by
 unfold aU
 refine qH S env _ _ _ fun vs => ?_
 unfold bVm
 match vs with
 | [v] => exact SimR.some S _
 | [] => exact SimR.some S _
 | _ :: _ :: _ => exact SimR.some S _
theorem mJ (HC : ∀ g args, SimP gg (bQ ⟨P, I2⟩ rec2 g args) (bQ ⟨P, I1⟩ rec1 g args)) (n d : Nat) (f : FuncId) (args : List DV) :
  SimP gg (aF ⟨P, I2⟩ rec2 n f args) (aF ⟨P, I1⟩ rec1 (n + d) f args) := by
 intro h h' S
 unfold aF
 dsimp only
 cases P.funcs[f]? with
 | none => exact SimR.none _
 | some fn =>
  dsimp only
  cases fn.body with
  | none => exact SimR.none _
  | some c => exact fX HC fn.ntmps n d c _ _ _ _ _ _ (fun _ _ _ _ _ _ _ e => by cases e) (pA fn) (pA fn) _ h h' S
end
theorem bLf {gg : Bool} {P : Program} {I2 I1 : FuncId → Option (List DV → Hp → aJ)} (d : Nat) (h0 : ∀ g, I2 g = none → I1 g = none)
  (hI : ∀ g F, I2 g = some F → ∀ n args, SimP gg (F args) (bQ ⟨P, I1⟩ (fnD ⟨P, I1⟩ (n + d)) g args)) : ∀ (n : Nat) (f : FuncId) (args : List DV), SimP gg (fnD ⟨P, I2⟩ n f args) (fnD ⟨P, I1⟩ (n + d) f args)
 | 0, f, args => fun h h' S v k e => by cases e
 | n + 1, f, args => by
  rw [show n + 1 + d = (n + d) + 1 from by omega]
  refine mJ (fun g az => ?_) n d f args
  unfold bQ
  dsimp only
  cases hg : I2 g with
  | none =>
   rw [h0 g hg]
   exact bLf d h0 hI n g az
  | some F =>
   have := hI g F hg n az
   unfold bQ at this
   exact this
end Go.Dd

namespace Go.Dd
section
variable {gg : Bool} {P : Program} {I2 I1 : FuncId → Option (List DV → Hp → aJ)} {rec2 rec1 : FuncId → List DV → Hp → aJ}
theorem mT {c : Bool} {q q' : aJ} (h : SimR gg q q') : SimR gg (cnd c q) (cnd c q') := by
 cases c with
 | false => exact SimR.none _
 | true => exact h
theorem dQg (k' : K) : SimK gg dM k' := fun env h h' S v k e => by cases e
theorem yM (HC : ∀ g args, SimP gg (bQ ⟨P, I2⟩ rec2 g args) (bQ ⟨P, I1⟩ rec1 g args)) (n d : Nat) (I : ItC) (b : Bool) {kr kr' k k' : K} (hr : SimK gg kr kr') (hk : SimK gg k k') (e1 : aZ) :
  SimP gg (aLw ⟨P, I2⟩ rec2 n I b kr k e1) (aLw ⟨P, I1⟩ rec1 (n + d) I b kr' k' e1) := fun h h' S =>
 mT (qC HC I.nt I.ops (fX HC I.nt n d I.after _ _ _ _ _ _ (fun _ => dQg _) hr hk) _ _ h h' S)
theorem bDs (HC : ∀ g args, SimP gg (bQ ⟨P, I2⟩ rec2 g args) (bQ ⟨P, I1⟩ rec1 g args)) (n d : Nat) (I : ItC) (nt : Nat) (p : Tmp) (x y : Code) (env : aZ) {X X' : Nat → K} {kr kr' kk kk' : K} (hX : ∀ j, SimK gg (X j) (X' j)) (hr : SimK gg kr kr') (hk : SimK gg kk kk') :
  SimK gg (aQz ⟨P, I2⟩ rec2 n I nt p x y env X kr kk) (aQz ⟨P, I1⟩ rec1 (n + d) I nt p x y env X' kr' kk') := fun e1 h h' S =>
 mT (fX HC nt n d x _ _ _ _ _ _ (fun _ => dQg _) (dQg _)
  (fX HC nt n d y _ _ _ _ _ _ (fun i _ => yM HC n d I false (fun _ => hX i env) (dQg _) e1) (fun _ => yM HC n d I false (fun _ => hr env) (dQg _) e1)
   (fun _ => yM HC n d I true (dQg _) (fX HC I.nt n d I.post _ _ _ _ _ _ (fun _ => dQg _) (dQg _) (fX HC I.nt n d I.step _ _ _ _ _ _ (fun _ => dQg _) (dQg _) hk)) e1)) _ h h' S)
theorem aQb (HC : ∀ g args, SimP gg (bQ ⟨P, I2⟩ rec2 g args) (bQ ⟨P, I1⟩ rec1 g args)) (n d : Nat) (I : ItC) (nt : Nat) (g : Operand) (p : Tmp) (x y : Code) {X X' : Nat → K} {kr kr' k k' : K} (hX : ∀ j, SimK gg (X j) (X' j)) (hr : SimK gg kr kr') (hk : SimK gg k k') :
  SimK gg (aDm ⟨P, I2⟩ rec2 n I nt g p x y X kr k) (aDm ⟨P, I1⟩ rec1 (n + d) I nt g p x y X' kr' k') := by
 intro env h h' S
 unfold aDm
 cases opr env g with
 | f gf first cap =>
  cases first with
  | cons _ _ => exact SimR.none _
  | nil =>
   refine mT ?_
   rw [S.next]
   refine fX HC I.nt n d I.pre _ _ _ _ _ _ (fun _ => dQg _) (dQg _) (pE (fun kk kk' hkk => ?_) n d) _ _ _ (S.resv 2)
   refine fX HC I.nt n d I.test _ _ _ _ _ _ (fun j => ?_) (dQg _) (qC HC I.nt I.ops ?_ I.front)
   ·cases Nat.beq j I.b0 with
    | true => exact fun _ => hk env
    | false => exact dQg _
   ·intro e1 h1 h1' S1
    exact mT (c := ylB (e1 I.yt) h.next) (bDs HC n d I nt p x y env hX hr hkk e1 h1 h1' S1)
 | _ => exact SimR.none _
theorem bFk (HC : ∀ g args, SimP gg (bQ ⟨P, I2⟩ rec2 g args) (bQ ⟨P, I1⟩ rec1 g args)) (nt n d : Nat) (I : ItC) : ∀ (c : Code) (X X' : Nat → K) (kr kr' k k' : K), (∀ j, SimK gg (X j) (X' j)) → SimK gg kr kr' → SimK gg k k' →
  SimK gg (bJg ⟨P, I2⟩ rec2 nt n I c X kr k) (bJg ⟨P, I1⟩ rec1 nt (n + d) I c X' kr' k') := by
 intro c
 induction c with
 | skip => intro X X' kr kr' k k' hX hr hk; exact hk
 | region id ops dr => intro X X' kr kr' k k' hX hr hk; exact fX HC nt n d (.region id ops dr) _ _ _ _ _ _ hX hr hk
 | seq x y ihx ihy => intro X X' kr kr' k k' hX hr hk; exact ihx _ _ _ _ _ _ hX hr (ihy _ _ _ _ _ _ hX hr hk)
 | cond c x y ihx ihy =>
  intro X X' kr kr' k k' hX hr hk env h h' S
  exact aIn (ihx _ _ _ _ _ _ hX hr hk env h h' S) (ihy _ _ _ _ _ _ hX hr hk env h h' S)
 | block id x ih =>
  intro X X' kr kr' k k' hX hr hk
  refine ih _ _ _ _ _ _ (fun j => ?_) hr hk
  cases hj : Nat.beq j id with
  | true => exact hk
  | false => exact hX j
 | loop x ih =>
  intro X X' kr kr' k k' hX hr hk
  exact pE (fun k k' hk => ih _ _ _ _ _ _ hX hr hk) n d
 | rangeFunc g ps x y ihx ihy =>
  intro X X' kr kr' k k' hX hr hk
  obtain ⟨l⟩ := ps
  match l with
  | [p] => exact aQb HC n d I nt g p x y hX hr hk
  | [] => exact dQg _
  | _ :: _ :: _ => exact dQg _
 | exit id => intro X X' kr kr' k k' hX hr hk; exact hX id
 | ret => intro X X' kr kr' k k' hX hr hk; exact hr
 | _ => intros; exact dQg _
theorem bEh (HC : ∀ g args, SimP gg (bQ ⟨P, I2⟩ rec2 g args) (bQ ⟨P, I1⟩ rec1 g args)) (n d : Nat) (I : ItC) (f : FuncId) (args : List DV) :
  SimP gg (mD ⟨P, I2⟩ rec2 n I f args) (mD ⟨P, I1⟩ rec1 (n + d) I f args) := by
 intro h h' S
 unfold mD
 dsimp only
 cases P.funcs[f]? with
 | none => exact SimR.none _
 | some fn =>
  dsimp only
  cases fn.body with
  | none => exact SimR.none _
  | some c => exact bFk HC fn.ntmps n d I c _ _ _ _ _ _ (fun _ => dQg _) (pA fn) (pA fn) _ h h' S
end
end Go.Dd

namespace Go.Dd
noncomputable def fnR (C : Cfg) (I : ItC) (q : FuncId → Bool) (n : Nat) : FuncId → List DV → Hp → aJ :=
 Nat.rec (motive := fun _ => FuncId → List DV → Hp → aJ) (fun _ _ _ => none) (fun m ih f => bif q f then mD C ih m I f else aF C ih m f) n
theorem aEy {gg : Bool} {P : Program} {I2 I1 : FuncId → Option (List DV → Hp → aJ)} {I : ItC} {q : FuncId → Bool} (d : Nat) (h0 : ∀ g, I2 g = none → I1 g = none)
  (hI : ∀ g F, I2 g = some F → ∀ n args, SimP gg (F args) (bQ ⟨P, I1⟩ (fnR ⟨P, I1⟩ I q (n + d)) g args)) : ∀ (n : Nat) (f : FuncId) (args : List DV), SimP gg (fnR ⟨P, I2⟩ I q n f args) (fnR ⟨P, I1⟩ I q (n + d) f args)
 | 0, f, args => fun h h' S v k e => by cases e
 | n + 1, f, args => by
  rw [show n + 1 + d = (n + d) + 1 from by omega]
  have HC : ∀ g az, SimP gg (bQ ⟨P, I2⟩ (fnR ⟨P, I2⟩ I q n) g az) (bQ ⟨P, I1⟩ (fnR ⟨P, I1⟩ I q (n + d)) g az) := fun g az => by
   unfold bQ
   dsimp only
   cases hg : I2 g with
   | none =>
    rw [h0 g hg]
    exact aEy d h0 hI n g az
   | some F =>
    have := hI g F hg n az
    unfold bQ at this
    exact this
  show SimP gg ((bif q f then mD ⟨P, I2⟩ (fnR ⟨P, I2⟩ I q n) n I f else aF ⟨P, I2⟩ (fnR ⟨P, I2⟩ I q n) n f) args) ((bif q f then mD ⟨P, I1⟩ (fnR ⟨P, I1⟩ I q (n + d)) (n + d) I f else aF ⟨P, I1⟩ (fnR ⟨P, I1⟩ I q (n + d)) (n + d) f) args)
  cases q f with
  | true => exact bEh HC n d I f args
  | false => exact mJ HC n d f args
end Go.Dd

namespace Go.Dd
noncomputable section
def gY (w : Int) : Nat :=
 match w with
 | .ofNat w => bif Nat.beq (Nat.mod w 2) 0 && (Nat.ble 6 w && Nat.ble w 262144) then Nat.div w 2 else 0
 | .negSucc _ => 0
def cW (w : Int) : Bool :=
 match w with
 | .ofNat w => Nat.beq (Nat.mod w 2) 1 && Nat.blt w 2147483648
 | .negSucc w => Nat.beq (Nat.mod w 2) 0 && Nat.blt w 2147483648
def pJ (w : Int) : Int :=
 match w with
 | .ofNat w => .ofNat (Nat.div w 2)
 | .negSucc w => .negSucc (Nat.div w 2)
structure MemV where
 wb : Pos
 n : Nat
 fin : Nat
 made : Nat
 pb : Pos
 t : WT
 pl : WT
def kZ (m : Pos) (h : Hp) : Option MemV :=
 match h.bl.get m with
 | some (.row .ex [.l wb 0 n c, .i .i64 (.ofNat fin), .i .i64 (.ofNat made), .m pb]) =>
  match h.bl.get wb, h.bl.get pb with
  | some (.big n' t), some (.mi pl) => bif Nat.beq n n' && Nat.beq n c then (bif Nat.blt n 1000000 && (Nat.ble fin n && Nat.blt made 1000000) then some ⟨wb, n, fin, made, pb, t, pl⟩ else none) else none
  | _, _ => none
 | _ => none
def bL (o : Int) (pl : WT) : Nat :=
 bif Nat.beq (gY o) 0 then 0 else match pl.get (gY o) with
  | .ofNat 0 => 0
  | _ => gY o
def dH (w : Int) (pl : WT) : Bool :=
 match w with
 | .ofNat 0 => true
 | .ofNat 2 => true
 | .ofNat 4 => true
 | w => cW w || !(Nat.beq (bL w pl) 0)
def qW (w : Int) (pl : WT) : Bool :=
 match w with
 | .ofNat 0 => true
 | w => !(Nat.beq (bL w pl) 0)
def iY (args : List DV) (h : Hp) (k : MemV → List DV → aJ) : aJ :=
 match args with
 | .p m 0 :: rest => match kZ m h with
  | some M => k M rest
  | none => none
 | _ => none
def err (e : Nat) (h : Hp) : aJ := some (.t [.i .i64 (.ofNat 0), .i .i64 (.ofNat e)], h)
def isF (args : List DV) (h : Hp) : aJ := iY args h fun M r => match r with
 | [.i .i64 w] => some (.b (!(Nat.beq (bL w M.pl) 0)), h)
 | _ => none
def aAb (args : List DV) (h : Hp) : aJ := iY args h fun M r => match r with
 | [.i .i64 w] => some (.b (dH w M.pl), h)
 | _ => none
def aAi (args : List DV) (h : Hp) : aJ := iY args h fun M r => match r with
 | [] => some (.i .i64 (.ofNat M.n), h)
 | _ => none
def bBw (args : List DV) (h : Hp) : aJ := iY args h fun M r => match r with
 | [] => some (.i .i64 (.ofNat (Nat.sub M.n M.fin)), h)
 | _ => none
def hD (M : MemV) (o : Int) (k : Nat → aJ) : aJ :=
 bif Nat.blt (Nat.add (bL o M.pl) 1) M.n then (match M.t.get (bL o M.pl) with
  | .ofNat hd => bif Nat.blt hd 1000000000000 then k hd else none
  | .negSucc _ => none) else none
def iM (args : List DV) (h : Hp) : aJ := iY args h fun M r => match r with
 | [.i .i64 o] => hD M o fun _ => some (.i .i64 (M.t.get (Nat.add (bL o M.pl) 1)), h)
 | _ => none
def jU (args : List DV) (h : Hp) : aJ := iY args h fun M r => match r with
 | [.i .i64 o] => hD M o fun hd => some (.i .i64 (.ofNat (Nat.mod hd 4)), h)
 | _ => none
def eI (args : List DV) (h : Hp) : aJ := iY args h fun M r => match r with
 | [.i .i64 o] => hD M o fun hd => some (.i .i64 (.ofNat (Nat.div hd 4)), h)
 | _ => none
def gM (M : MemV) (o i : Int) (bad : Nat → aJ) (k : Nat → Nat → aJ) : aJ :=
 bif Nat.beq (bL o M.pl) 0 then bad 1 else match i with
  | .negSucc _ => bad 5
  | .ofNat i => hD M o fun hd => bif Nat.ble (Nat.div hd 4) i then bad 5 else
    (bif Nat.blt (Nat.add (Nat.add (bL o M.pl) 3) i) M.n then k hd (Nat.add (Nat.add (bL o M.pl) 3) i) else none)
def oD (args : List DV) (h : Hp) : aJ := iY args h fun M r => match r with
 | [.i .i64 o, .i .i64 i] => gM M o i (fun e => err e h) fun _ a => some (.t [.i .i64 (M.t.get a), .i .i64 (.ofNat 0)], h)
 | _ => none
def mC (M : MemV) (a : Nat) (w : Int) (h : Hp) : aJ := some (.i .i64 (.ofNat 0), ⟨h.next, Tr.set (.big M.n (M.t.set a w)) M.wb h.bl⟩)
def qF (args : List DV) (h : Hp) : aJ := iY args h fun M r => match r with
 | [.i .i64 o, .i .i64 i, .i .i64 w] => gM M o i (fun e => some (.i .i64 (.ofNat e), h)) fun hd a =>
   match Nat.mod hd 4 with
   | 0 => bif dH w M.pl then mC M a w h else some (.i .i64 (.ofNat 6), h)
   | 2 => (match w with
    | .ofNat c => bif Nat.ble c 255 then mC M a w h else some (.i .i64 (.ofNat 6), h)
    | .negSucc _ => some (.i .i64 (.ofNat 6), h))
   | _ => mC M a w h
 | _ => none
def kR (args : List DV) (h : Hp) : aJ := iY args h fun M r => match r with
 | [.i .i64 o, .i .i64 c] => bif Nat.beq (bL o M.pl) 0 || !(qW c M.pl) then some (.i .i64 (.ofNat 1), h) else
   (bif Nat.blt (Nat.add (bL o M.pl) 1) M.n then mC M (Nat.add (bL o M.pl) 1) c h else none)
 | _ => none
def kO (t : WT) (c : Nat) : Nat → WT :=
 Nat.rec (motive := fun _ => Nat → WT) (fun _ => t) (fun _ ih a => (ih (Nat.add a 1)).set a (.ofNat 0)) c
def iS (args : List DV) (h : Hp) : aJ :=
 match args with
 | [.p m 0, .i .i64 cls, .i .i64 fmt, .i .i64 cnt] => match kZ m h with
  | none => none
  | some M => bif !(qW cls M.pl) then err 1 h else match fmt, cnt with
   | .ofNat f, .ofNat c => bif Nat.ble f 2 && Nat.ble c 256 then
     (bif Nat.blt (Nat.sub M.n M.fin) (Nat.add c 3) then err 4 h else
      (bif Nat.ble 3 M.fin && Nat.ble M.fin 131072 then
       some (.t [.i .i64 (.ofNat (Nat.mul M.fin 2)), .i .i64 (.ofNat 0)],
        ⟨h.next, Tr.set (.row .ex [.l M.wb 0 M.n M.n, .i .i64 (.ofNat (Nat.add M.fin (Nat.add c 3))), .i .i64 (.ofNat (Nat.succ M.made)), .m M.pb]) m
         (Tr.set (.mi (M.pl.set M.fin (.ofNat 1))) M.pb
          (Tr.set (.big M.n (kO (((M.t.set M.fin (.ofNat (Nat.add (Nat.mul c 4) f))).set (Nat.add M.fin 1) cls).set (Nat.add M.fin 2) (.ofNat (Nat.succ M.made))) c (Nat.add M.fin 3))) M.wb h.bl))⟩)
       else none))
     else err 1 h
   | _, _ => err 1 h
 | _ => none
def aSr (args : List DV) (h : Hp) : aJ :=
 match args with
 | [.i .i64 (.ofNat n)] => bif Nat.blt n 16 || Nat.blt 131072 n then some (.p0, h) else
   some (.p (bW 2 h.next) 0, ⟨bW 3 h.next, Tr.set (.row .ex [.l h.next 0 n n, .i .i64 (.ofNat 3), .i .i64 (.ofNat 0), .m (bW 1 h.next)]) (bW 2 h.next)
    (Tr.set (.mi .e) (bW 1 h.next) (Tr.set (.big n .e) h.next h.bl))⟩)
 | [.i .i64 (.negSucc _)] => some (.p0, h)
 | _ => none
def eL (args : List DV) (h : Hp) : aJ :=
 match args with
 | [.i .i64 w] => some (.b (cW w), h)
 | _ => none
def jL (args : List DV) (h : Hp) : aJ :=
 match args with
 | [.i .i64 w] => bif cW w then some (.i .i64 (pJ w), h) else some (.i .i64 (.ofNat 0), h)
 | _ => none
def gW (args : List DV) (h : Hp) : aJ :=
 match args with
 | [.i .i64 (.ofNat n)] => bif Nat.blt n 1073741824 then some (.t [.i .i64 (.ofNat (Nat.succ (Nat.mul n 2))), .b true], h) else some (.t [.i .i64 (.ofNat 0), .b false], h)
 | [.i .i64 (.negSucc n)] => bif Nat.blt n 1073741824 then some (.t [.i .i64 (.negSucc (Nat.mul n 2)), .b true], h) else some (.t [.i .i64 (.ofNat 0), .b false], h)
 | _ => none
def aAc (g : Nat) : Option (List DV → Hp → aJ) :=
 bif Nat.beq g 24 then some aAb else bif Nat.beq g 31 then some isF else bif Nat.beq g 102 then some aAi else bif Nat.beq g 86 then some bBw else
 bif Nat.beq g 47 then some iS else bif Nat.beq g 68 then some aSr else bif Nat.beq g 70 then some kR else bif Nat.beq g 72 then some qF else
 bif Nat.beq g 50 then some iM else bif Nat.beq g 38 then some jU else bif Nat.beq g 27 then some eI else bif Nat.beq g 48 then some eL else
 bif Nat.beq g 81 then some gW else bif Nat.beq g 49 then some jL else bif Nat.beq g 28 then some oD else none
end
end Go.Dd

namespace Go.Dd
open Go.Proofs
def cf (f : Func) : Code := match f.body with
 | some c => c
 | none => .skip
def cL : Code → Code
 | .seq a _ => a
 | .cond _ a _ => a
 | .block _ a => a
 | .loop a => a
 | .scope a => a
 | c => c
def cR : Code → Code
 | .seq _ b => b
 | .cond _ _ b => b
 | c => c
def cC : Code → Operand
 | .cond c _ _ => c
 | _ => .const .nilFunc
def x0 : Nat → K := fun _ => dM
def xs (X : Nat → K) (i : Nat) (k : K) : Nat → K := fun j => bif Nat.beq j i then k else X j
def aMd (c : Nat) : List Nat → Nat → Int
 | [], _ => .negSucc 0
 | x :: l, i => bif Nat.beq x c then .ofNat i else aMd c l (i + 1)
def lQ (args : List DV) (h : Hp) : aJ :=
 match args with
 | [.s l, .i .u8 (.ofNat c)] => bif Nat.blt c 256 then some (.i .i64 (aMd c l 0), h) else none
 | _ => none
noncomputable def CF0 : Cfg := ⟨Tryz.prog, fun _ => none⟩
noncomputable def lA (p : Pos) : Pos → Bool := Pos.rec (motive := fun _ => Pos → Bool) (fun q => Pos.rec (motive := fun _ => Bool) true (fun _ _ => false) (fun _ _ => false) q)
 (fun _ ih q => Pos.rec (motive := fun _ => Bool) false (fun q _ => ih q) (fun _ _ => false) q) (fun _ ih q => Pos.rec (motive := fun _ => Bool) false (fun _ _ => false) (fun q _ => ih q) q) p
noncomputable def jJ (q : Pos) (l1 : DV) (cs : List DV) (h : Hp) : aJ :=
 match l1 with
 | .l0 => some (.l h.next 0 1 1, ⟨h.next.succ, Tr.set (.row (.gr 4) cs) h.next h.bl⟩)
 | .l b o len cap => cnd (Nat.ble cap len && !(lA b q)) (match h.bl.get b, cellsAt b o (len * 4) h with
  | some (.row (.gr es) l), some old => if es = 4 ∧ o + cap * 4 = l.length ∧ (len + 1) * 56 ≤ lX then
    some (.l h.next 0 (len + 1) (len + 1), ⟨h.next.succ, Tr.set (.row (.gr 4) (old ++ cs)) h.next (Tr.set (.row .sp (bT o l)) b h.bl)⟩) else none
  | _, _ => none)
 | _ => none
noncomputable def qP (c q : Pos) (h : Hp) : aJ :=
 bnd (aA (.p c 4) h) fun l1 _ =>
 bnd (bZ l1 h) fun n _ =>
 bnd (aK 4 (.p q 0) h) fun x _ =>
 match x with
 | .a cs => cnd (!(lA c q)) (
  bnd (jJ q l1 cs ⟨h.next.succ.succ, h.bl⟩) fun l2 h3 =>
  bnd (aG 1 (.p c 4) l2 h3) fun _ h4 => some (n, h4))
 | _ => none
noncomputable def lC (args : List DV) (h : Hp) : aJ :=
 match args with
 | [.p c 0, .a lit] =>
  bnd (bM lit h) fun _ h1 =>
  bnd (aA (.p c 4) h1) fun ls h2 =>
  bnd (fnD CF0 60 187 [ls, .f 188 [] [.p h.next 0]] h2) fun i h3 =>
  bnd (aD .lss i (.i .i64 (Int.ofNat 0)) h3) fun t h4 =>
  aR t (qP c h.next h4) (some (i, h4))
 | _ => none
noncomputable def CF1 : Cfg := ⟨Tryz.prog, fun g => bif Nat.beq g 176 then some lQ else bif Nat.beq g 159 then some lC else none⟩
noncomputable def CF : Cfg := ⟨Tryz.prog, fun g => bif Nat.beq g 176 then some lQ else bif Nat.beq g 159 then some lC else aAc g⟩
def fV : Code → Array Oper
 | .region _ ops _ => ops
 | _ => #[]
def itm : ItC := { gf := 0, nt := 0, pre := .skip, b0 := 0, test := .skip, b1 := 1, rid := 0, front := [], y := ⟨none, .move (.const .nilFunc), 0, "", #[], none⟩, back := [], after := .skip, post := .skip, step := .skip, yd := 0, yt := 0, yx := 0 }
def rgB (g : FuncId) : Bool := false
noncomputable abbrev fR (C : Cfg) (n : Nat) : FuncId → List DV → Hp → aJ := fnR C itm rgB n
theorem cB (f : FuncId) (hf : rgB f = false) (C : Cfg) (n : Nat) (args : List DV) (h : Hp) : fR C (n + 1) f args h = aF C (fR C n) n f args h := by
 show (bif rgB f then mD C (fR C n) n itm f else aF C (fR C n) n f) args h = _
 rw [hf]
 rfl
abbrev RT := FuncId → List DV → Hp → aJ
abbrev TT0 := Hp → aJ
abbrev TT1 := DV → Hp → aJ
abbrev oU := DV → DV → Hp → aJ
abbrev mW := DV → DV → DV → Hp → aJ
abbrev dL := DV → DV → DV → DV → Hp → aJ
abbrev cF := DV → DV → DV → DV → DV → Hp → aJ
abbrev fG := DV → DV → DV → DV → DV → DV → Hp → aJ
abbrev TT7 := DV → DV → DV → DV → DV → DV → DV → Hp → aJ
abbrev TT8 := DV → DV → DV → DV → DV → DV → DV → DV → Hp → aJ
abbrev TT9 := DV → DV → DV → DV → DV → DV → DV → DV → DV → Hp → aJ
abbrev aNr := DV → DV → DV → DV → DV → DV → DV → DV → DV → DV → Hp → aJ
abbrev dFy := DV → DV → DV → DV → DV → DV → DV → DV → DV → DV → DV → Hp → aJ
abbrev dNr := DV → DV → DV → DV → DV → DV → DV → DV → DV → DV → DV → DV → Hp → aJ
abbrev dPj := DV → DV → DV → DV → DV → DV → DV → DV → DV → DV → DV → DV → DV → Hp → aJ
abbrev dMp := DV → DV → DV → DV → DV → DV → DV → DV → DV → DV → DV → DV → DV → DV → Hp → aJ
abbrev dKu := DV → DV → DV → DV → DV → DV → DV → DV → DV → DV → DV → DV → DV → DV → DV → Hp → aJ
abbrev dPg := DV → DV → DV → DV → DV → DV → DV → DV → DV → DV → DV → DV → DV → DV → DV → DV → Hp → aJ
abbrev dLf := DV → DV → DV → DV → DV → DV → DV → DV → DV → DV → DV → DV → DV → DV → DV → DV → DV → Hp → aJ
abbrev dLr := DV → DV → DV → DV → DV → DV → DV → DV → DV → DV → DV → DV → DV → DV → DV → DV → DV → DV → Hp → aJ
abbrev dKx := DV → DV → DV → DV → DV → DV → DV → DV → DV → DV → DV → DV → DV → DV → DV → DV → DV → DV → DV → Hp → aJ
abbrev dLo := DV → DV → DV → DV → DV → DV → DV → DV → DV → DV → DV → DV → DV → DV → DV → DV → DV → DV → DV → DV → Hp → aJ
abbrev K0 (f : TT0) : K := fun env h => f h
abbrev K1 (f : TT1) (a0 : Nat) : K := fun env h => f (env a0) h
abbrev K2 (f : oU) (a0 a1 : Nat) : K := fun env h => f (env a0) (env a1) h
abbrev K3 (f : mW) (a0 a1 a2 : Nat) : K := fun env h => f (env a0) (env a1) (env a2) h
abbrev K4 (f : dL) (a0 a1 a2 a3 : Nat) : K := fun env h => f (env a0) (env a1) (env a2) (env a3) h
abbrev K5 (f : cF) (a0 a1 a2 a3 a4 : Nat) : K := fun env h => f (env a0) (env a1) (env a2) (env a3) (env a4) h
abbrev K6 (f : fG) (a0 a1 a2 a3 a4 a5 : Nat) : K := fun env h => f (env a0) (env a1) (env a2) (env a3) (env a4) (env a5) h
abbrev K7 (f : TT7) (a0 a1 a2 a3 a4 a5 a6 : Nat) : K := fun env h => f (env a0) (env a1) (env a2) (env a3) (env a4) (env a5) (env a6) h
abbrev K8 (f : TT8) (a0 a1 a2 a3 a4 a5 a6 a7 : Nat) : K := fun env h => f (env a0) (env a1) (env a2) (env a3) (env a4) (env a5) (env a6) (env a7) h
abbrev K9 (f : TT9) (a0 a1 a2 a3 a4 a5 a6 a7 a8 : Nat) : K := fun env h => f (env a0) (env a1) (env a2) (env a3) (env a4) (env a5) (env a6) (env a7) (env a8) h
abbrev K10 (f : aNr) (a0 a1 a2 a3 a4 a5 a6 a7 a8 a9 : Nat) : K := fun env h => f (env a0) (env a1) (env a2) (env a3) (env a4) (env a5) (env a6) (env a7) (env a8) (env a9) h
abbrev K11 (f : dFy) (a0 a1 a2 a3 a4 a5 a6 a7 a8 a9 a10 : Nat) : K := fun env h => f (env a0) (env a1) (env a2) (env a3) (env a4) (env a5) (env a6) (env a7) (env a8) (env a9) (env a10) h
abbrev K12 (f : dNr) (a0 a1 a2 a3 a4 a5 a6 a7 a8 a9 a10 a11 : Nat) : K := fun env h => f (env a0) (env a1) (env a2) (env a3) (env a4) (env a5) (env a6) (env a7) (env a8) (env a9) (env a10) (env a11) h
abbrev K13 (f : dPj) (a0 a1 a2 a3 a4 a5 a6 a7 a8 a9 a10 a11 a12 : Nat) : K := fun env h => f (env a0) (env a1) (env a2) (env a3) (env a4) (env a5) (env a6) (env a7) (env a8) (env a9) (env a10) (env a11) (env a12) h
abbrev K14 (f : dMp) (a0 a1 a2 a3 a4 a5 a6 a7 a8 a9 a10 a11 a12 a13 : Nat) : K := fun env h => f (env a0) (env a1) (env a2) (env a3) (env a4) (env a5) (env a6) (env a7) (env a8) (env a9) (env a10) (env a11) (env a12) (env a13) h
abbrev K15 (f : dKu) (a0 a1 a2 a3 a4 a5 a6 a7 a8 a9 a10 a11 a12 a13 a14 : Nat) : K := fun env h => f (env a0) (env a1) (env a2) (env a3) (env a4) (env a5) (env a6) (env a7) (env a8) (env a9) (env a10) (env a11) (env a12) (env a13) (env a14) h
abbrev K16 (f : dPg) (a0 a1 a2 a3 a4 a5 a6 a7 a8 a9 a10 a11 a12 a13 a14 a15 : Nat) : K := fun env h => f (env a0) (env a1) (env a2) (env a3) (env a4) (env a5) (env a6) (env a7) (env a8) (env a9) (env a10) (env a11) (env a12) (env a13) (env a14) (env a15) h
abbrev K17 (f : dLf) (a0 a1 a2 a3 a4 a5 a6 a7 a8 a9 a10 a11 a12 a13 a14 a15 a16 : Nat) : K := fun env h => f (env a0) (env a1) (env a2) (env a3) (env a4) (env a5) (env a6) (env a7) (env a8) (env a9) (env a10) (env a11) (env a12) (env a13) (env a14) (env a15) (env a16) h
abbrev K18 (f : dLr) (a0 a1 a2 a3 a4 a5 a6 a7 a8 a9 a10 a11 a12 a13 a14 a15 a16 a17 : Nat) : K := fun env h => f (env a0) (env a1) (env a2) (env a3) (env a4) (env a5) (env a6) (env a7) (env a8) (env a9) (env a10) (env a11) (env a12) (env a13) (env a14) (env a15) (env a16) (env a17) h
abbrev K19 (f : dKx) (a0 a1 a2 a3 a4 a5 a6 a7 a8 a9 a10 a11 a12 a13 a14 a15 a16 a17 a18 : Nat) : K := fun env h => f (env a0) (env a1) (env a2) (env a3) (env a4) (env a5) (env a6) (env a7) (env a8) (env a9) (env a10) (env a11) (env a12) (env a13) (env a14) (env a15) (env a16) (env a17) (env a18) h
abbrev K20 (f : dLo) (a0 a1 a2 a3 a4 a5 a6 a7 a8 a9 a10 a11 a12 a13 a14 a15 a16 a17 a18 a19 : Nat) : K := fun env h => f (env a0) (env a1) (env a2) (env a3) (env a4) (env a5) (env a6) (env a7) (env a8) (env a9) (env a10) (env a11) (env a12) (env a13) (env a14) (env a15) (env a16) (env a17) (env a18) (env a19) h
theorem okG {d s : K} (m : d = s) (args : List DV) (h : Hp) {a b : aJ} (e1 : a = d (aH args) h) (e2 : s (aH args) h = b) : a = b :=
 e1.trans ((congrFun (congrFun m (aH args)) h).trans e2)
abbrev aE (n : Nat) : DV := .i .i64 (Int.ofNat n)
abbrev kA : List DV := [(.i .i64 (Int.ofNat 0)), (.s []), (.i .i64 (Int.ofNat 0)), .l0, .l0, .l0]
abbrev aS (args : List DV) (i : Nat) : DV := args.getD i aV
end Go.Dd

namespace Go.Dd
open Go.Proofs
variable (r : RT) (n : Nat) (args : List DV) (h : Hp)
noncomputable def s12 (r : RT) (n : Nat) (h0 : Hp) : aJ :=
 bnd (r 40 [(aE 30000)] h0) fun v1 h1 =>
 bnd (aC 0 v1 h1) fun v2 h2 =>
 bnd (aC 1 v1 h2) fun v3 h3 =>
 bnd (pEq (.pointer 64) true v2 .p0 h3) fun v4 h4 =>
 bnd (gD v4 false (some (v3, h4)) h4) fun v5 h5 =>
 bnd (gD v4 false (aD .neq v5 (aE 0) h5) h5) fun v6 h6 =>
 bnd (aP v4 (.b true) v6 h6) fun v7 h7 =>
 aR v7 (
 some (.p0, h7)) (
 bnd (aL [(.s []), (.s [])] 2 [(0, 1, (.s [120])), (1, 1, (.s [121]))] h7) fun v8 h8 =>
 bnd (r 41 [v2, (.s [80, 111, 105, 110, 116]), (.s [79, 98, 106, 101, 99, 116]), v8] h8) fun v9 h9 =>
 bnd (aC 0 v9 h9) fun v10 h10 =>
 bnd (aC 1 v9 h10) fun v11 h11 =>
 bnd (aD .neq v11 (aE 0) h11) fun v12 h12 =>
 aR v12 (
 some (.p0, h12)) (
 some (v2, h12)))
noncomputable abbrev c12 : Code := cf Tryz.f12
noncomputable abbrev r12 : K := aU CF Tryz.f12
noncomputable def D12 (r : RT) (n : Nat) (c : Code) (X : Nat → K) (k : K) : K := aM CF r 24 n c X r12 k
theorem dNy : D12 r n c12 x0 r12 = (K0 (s12 r n)) :=
 (by kernel_rfl)
theorem cQj : aF CF r n 12 args h = s12 r n h :=
 (by kernel_rfl : aF CF r n 12 args h = D12 r n c12 x0 r12 (aH args) h).trans ((congrFun (congrFun (dNy r n) (aH args)) h).trans (by kernel_rfl))
noncomputable def s13 (r : RT) (n : Nat) (h0 : Hp) : aJ :=
 bnd (r 12 [] h0) fun v1 h1 =>
 bnd (pEq (.pointer 64) true v1 .p0 h1) fun v2 h2 =>
 aR v2 (
 some ((.b false), h2)) (
 bnd (r 42 [v1, (aE 1073741823)] h2) fun v3 h3 =>
 bnd (aC 0 v3 h3) fun v4 h4 =>
 bnd (aC 1 v3 h4) fun v5 h5 =>
 bnd (aL [(aE 0)] 1 [(0, 1, (aE 3))] h5) fun v6 h6 =>
 bnd (r 16 [v1, (aE 1), v4, v6] h6) fun v7 h7 =>
 bnd (aC 0 v7 h7) fun v8 h8 =>
 bnd (aC 1 v7 h8) fun v9 h9 =>
 bnd (r 15 [v1, v8] h9) fun v10 h10 =>
 bnd (aC 0 v10 h10) fun v11 h11 =>
 bnd (aC 1 v10 h11) fun v12 h12 =>
 bnd (aL [(aE 0)] 1 [(0, 1, (aE 1))] h12) fun v13 h13 =>
 bnd (r 16 [v1, (aE 4), (aE 15), v13] h13) fun v14 h14 =>
 bnd (aC 0 v14 h14) fun v15 h15 =>
 bnd (aC 1 v14 h15) fun v16 h16 =>
 bnd (r 43 [v1, (.s [97, 98])] h16) fun v17 h17 =>
 bnd (aC 0 v17 h17) fun v18 h18 =>
 bnd (aC 1 v17 h18) fun v19 h19 =>
 bnd (aL [(aE 0)] 1 [(0, 1, (aE 5))] h19) fun v20 h20 =>
 bnd (r 16 [v1, (aE 20), v18, v20] h20) fun v21 h21 =>
 bnd (aC 0 v21 h21) fun v22 h22 =>
 bnd (aC 1 v21 h22) fun v23 h23 =>
 bnd (r 44 [v1, (.s [97, 98])] h23) fun v24 h24 =>
 bnd (aC 0 v24 h24) fun v25 h25 =>
 bnd (aC 1 v24 h25) fun v26 h26 =>
 bnd (aL [(aE 0), (aE 0)] 2 [(0, 1, (aE 3)), (1, 1, (aE 199))] h26) fun v27 h27 =>
 bnd (r 16 [v1, (aE 21), v25, v27] h27) fun v28 h28 =>
 bnd (aC 0 v28 h28) fun v29 h29 =>
 bnd (aC 1 v28 h29) fun v30 h30 =>
 bnd (aD .eql v9 (aE 0) h30) fun v31 h31 =>
 bnd (gD v31 true (some (v12, h31)) h31) fun v32 h32 =>
 bnd (aP v31 v32 (.b false) h32) fun v33 h33 =>
 bnd (gD v33 true (some (v11, h33)) h33) fun v34 h34 =>
 bnd (gD v33 true (aD .eql v34 (aE 1073741824) h34) h34) fun v35 h35 =>
 bnd (aP v33 v35 (.b false) h35) fun v36 h36 =>
 bnd (gD v36 true (some (v1, h36)) h36) fun v37 h37 =>
 bnd (gD v36 true (some (v8, h37)) h37) fun v38 h38 =>
 bnd (gD v36 true (r 25 [v37, v38] h38) h38) fun v39 h39 =>
 bnd (gD v36 true (some (v1, h39)) h39) fun v40 h40 =>
 bnd (gD v36 true (r 45 [v40, (.s [76, 97, 114, 103, 101, 73, 110, 116, 101, 103, 101, 114])] h40) h40) fun v41 h41 =>
 bnd (gD v36 true (aD .eql v39 v41 h41) h41) fun v42 h42 =>
 bnd (aP v36 v42 (.b false) h42) fun v43 h43 =>
 bnd (gD v43 true (some (v16, h43)) h43) fun v44 h44 =>
 bnd (gD v43 true (aD .eql v44 (aE 20) h44) h44) fun v45 h45 =>
 bnd (aP v43 v45 (.b false) h45) fun v46 h46 =>
 bnd (gD v46 true (some (v22, h46)) h46) fun v47 h47 =>
 bnd (gD v46 true (aD .eql v47 (aE 197) h47) h47) fun v48 h48 =>
 bnd (aP v46 v48 (.b false) h48) fun v49 h49 =>
 bnd (gD v49 true (some (v23, h49)) h49) fun v50 h50 =>
 bnd (gD v49 true (aD .eql v50 (aE 0) h50) h50) fun v51 h51 =>
 bnd (aP v49 v51 (.b false) h51) fun v52 h52 =>
 bnd (gD v52 true (some (v30, h52)) h52) fun v53 h53 =>
 bnd (gD v52 true (aD .eql v53 (aE 20) h53) h53) fun v54 h54 =>
 bnd (aP v52 v54 (.b false) h54) fun v55 h55 =>
 bnd (gD v55 true (r 39 [(aE 21)] h55) h55) fun v56 h56 =>
 bnd (gD v55 true (aD .eql v56 (aE 2) h56) h56) fun v57 h57 =>
 bnd (aP v55 v57 (.b false) h57) fun v58 h58 =>
 some (v58, h58))
noncomputable abbrev c13 : Code := cf Tryz.f13
noncomputable abbrev r13 : K := aU CF Tryz.f13
noncomputable def D13 (r : RT) (n : Nat) (c : Code) (X : Nat → K) (k : K) : K := aM CF r 106 n c X r13 k
theorem dMa : D13 r n c13 x0 r13 = (K0 (s13 r n)) :=
 (by kernel_rfl)
theorem cQm : aF CF r n 13 args h = s13 r n h :=
 (by kernel_rfl : aF CF r n 13 args h = D13 r n c13 x0 r13 (aH args) h).trans ((congrFun (congrFun (dMa r n) (aH args)) h).trans (by kernel_rfl))
noncomputable def aW (r : RT) (n : Nat) (x3 : DV) (h0 : Hp) : aJ :=
 bnd (aB 1 x3 h0) fun v1 h1 =>
 bnd (aA v1 h1) fun v2 h2 =>
 some (v2, h2)
noncomputable def qO (r : RT) (n : Nat) (x0 x5 : DV) (h0 : Hp) : aJ :=
 bnd (dU x5 h0) fun v1 h1 =>
 bnd (aD .quo v1 (aE 2) h1) fun v2 h2 =>
 bnd (fE x5 none (some v2) h2) fun v3 h3 =>
 bnd (fM .add (.s [115]) v3 h3) fun v4 h4 =>
 bnd (r 44 [x0, v4] h4) fun v5 h5 =>
 bnd (aC 0 v5 h5) fun v6 h6 =>
 bnd (aC 1 v5 h6) fun v7 h7 =>
 some (v6, h7)
noncomputable def aFf (r : RT) (n : Nat) (x0 x5 : DV) (h0 : Hp) : aJ :=
 bnd (dU x5 h0) fun v1 h1 =>
 bnd (aD .gtr v1 (aE 60) h1) fun v2 h2 =>
 aR v2 (
 bnd (fE x5 none (some (aE 60)) h2) fun v3 h3 =>
  qO r n x0 v3 h3) (
  qO r n x0 x5 h2)
noncomputable def dS (r : RT) (n : Nat) (x0 x13 : DV) (h0 : Hp) : aJ :=
 bnd (r 46 [x0, x13] h0) fun v1 h1 =>
 bnd (aC 0 v1 h1) fun v2 h2 =>
 bnd (aC 1 v1 h2) fun v3 h3 =>
 some (v2, h3)
noncomputable def lK (r : RT) (n : Nat) (kk21 : dL) (x0 x12 x13 x14 : DV) (h0 : Hp) : aJ :=
 bnd (aD .rem x12 (aE 10) h0) fun v1 h1 =>
 bnd (aD .lss x14 v1 h1) fun v2 h2 =>
 aR v2 (
 bnd (aD .mul (aE 2) x14 h2) fun v3 h3 =>
 bnd (aD .add v3 (aE 1) h3) fun v4 h4 =>
 bnd (aL [(aE 0)] 1 [(0, 1, v4)] h4) fun v5 h5 =>
 bnd (bA 1 8 x13 v5 h5) fun v6 h6 =>
 bnd (aD .add x14 (aE 1) h6) fun v7 h7 =>
      kk21 x0 x12 v6 v7 h7) (
      dS r n x0 x13 h2)
noncomputable def kY (r : RT) (n : Nat) (m : Nat) : dL :=
 Nat.rec (motive := fun _ => dL) (fun _ _ _ _ _ => none) (fun _ ih => lK r n ih) m
noncomputable def aOo (r : RT) (n : Nat) : dL := kY r n n
noncomputable def aKm (r : RT) (n : Nat) (x0 x12 x13 x14 : DV) (h0 : Hp) : aJ :=
 aOo r n x0 x12 x13 x14 h0
noncomputable def aJu (r : RT) (n : Nat) (x0 x12 x13 : DV) (h0 : Hp) : aJ :=
 aKm r n x0 x12 x13 (aE 0) h0
noncomputable def rN (r : RT) (n : Nat) (x0 x12 : DV) (h0 : Hp) : aJ :=
 aJu r n x0 x12 .l0 h0
noncomputable def aIk (r : RT) (n : Nat) (x0 x12 : DV) (h0 : Hp) : aJ :=
 bnd (aD .lss x12 (aE 0) h0) fun v1 h1 =>
 aR v1 (
 bnd (aD .add x12 (aE 1) h1) fun v2 h2 =>
 bnd (gX .neg v2 h2) fun v3 h3 =>
  rN r n x0 v3 h3) (
  rN r n x0 x12 h1)
noncomputable def aIa (r : RT) (n : Nat) (x0 x3 : DV) (h0 : Hp) : aJ :=
 bnd (aB 1 x3 h0) fun v1 h1 =>
 bnd (aA v1 h1) fun v2 h2 =>
  aIk r n x0 v2 h2
noncomputable def xF (r : RT) (n : Nat) (x0 x3 x27 x66 : DV) (h0 : Hp) : aJ :=
 aR x66 (
  aIa r n x0 x3 h0) (
 bnd (aD .eql x27 (aE 4) h0) fun v1 h1 =>
 aR v1 (
 bnd (r 23 [x0] h1) fun v2 h2 =>
 bnd (r 45 [x0, (.s [80, 111, 105, 110, 116])] h2) fun v3 h3 =>
 bnd (iS [v2, v3, (aE 0), (aE 2)] h3) fun v4 h4 =>
 bnd (aC 0 v4 h4) fun v5 h5 =>
 bnd (aC 1 v4 h5) fun v6 h6 =>
 some (v5, h6)) (
 bnd (aD .eql x27 (aE 5) h1) fun v7 h7 =>
 aR v7 (
 bnd (aB 1 x3 h7) fun v8 h8 =>
 bnd (aA v8 h8) fun v9 h9 =>
 bnd (aD .eql v9 (aE 16) h9) fun v10 h10 =>
 aR v10 (
 bnd (r 45 [x0, (.s [80, 111, 105, 110, 116])] h10) fun v11 h11 =>
 some (v11, h11)) (
 bnd (aB 1 x3 h10) fun v12 h12 =>
 bnd (aA v12 h12) fun v13 h13 =>
 bnd (r 30 [x0, v13] h13) fun v14 h14 =>
 some (v14, h14))) (
 bnd (aD .eql x27 (aE 6) h7) fun v15 h15 =>
 aR v15 (
 some ((aE 0), h15)) (
 bnd (aD .eql x27 (aE 7) h15) fun v16 h16 =>
 aR v16 (
 some ((aE 2), h16)) (
 bnd (aD .eql x27 (aE 8) h16) fun v17 h17 =>
 aR v17 (
 some ((aE 4), h17)) (
       aW r n x3 h17))))))
noncomputable def aPv (r : RT) (n : Nat) (x0 x3 x27 : DV) (h0 : Hp) : aJ :=
 bnd (aD .eql x27 (aE 3) h0) fun v1 h1 =>
  xF r n x0 x3 x27 v1 h1
noncomputable def vC (r : RT) (n : Nat) (x0 x3 x5 x27 x47 : DV) (h0 : Hp) : aJ :=
 aR x47 (
  aFf r n x0 x5 h0) (
  aPv r n x0 x3 x27 h0)
noncomputable def bXn (r : RT) (n : Nat) (x0 x3 x5 x27 : DV) (h0 : Hp) : aJ :=
 bnd (aD .eql x27 (aE 2) h0) fun v1 h1 =>
  vC r n x0 x3 x5 x27 v1 h1
noncomputable def aMf (r : RT) (n : Nat) (x0 x3 x5 x27 x38 : DV) (h0 : Hp) : aJ :=
 aR x38 (
 bnd (r 43 [x0, x5] h0) fun v1 h1 =>
 bnd (aC 0 v1 h1) fun v2 h2 =>
 bnd (aC 1 v1 h2) fun v3 h3 =>
 some (v2, h3)) (
  bXn r n x0 x3 x5 x27 h0)
noncomputable def bNn (r : RT) (n : Nat) (x0 x3 x5 x27 : DV) (h0 : Hp) : aJ :=
 bnd (aD .eql x27 (aE 1) h0) fun v1 h1 =>
  aMf r n x0 x3 x5 x27 v1 h1
noncomputable def aNj (r : RT) (n : Nat) (x0 x3 x5 x27 x28 : DV) (h0 : Hp) : aJ :=
 aR x28 (
 bnd (aB 1 x3 h0) fun v1 h1 =>
 bnd (aA v1 h1) fun v2 h2 =>
 bnd (r 42 [x0, v2] h2) fun v3 h3 =>
 bnd (aC 0 v3 h3) fun v4 h4 =>
 bnd (aC 1 v3 h4) fun v5 h5 =>
 some (v4, h5)) (
  bNn r n x0 x3 x5 x27 h0)
noncomputable def aZj (r : RT) (n : Nat) (x0 x3 x5 x27 : DV) (h0 : Hp) : aJ :=
 bnd (aD .eql x27 (aE 0) h0) fun v1 h1 =>
  aNj r n x0 x3 x5 x27 v1 h1
noncomputable def aAv (r : RT) (n : Nat) (x0 x3 x5 : DV) (h0 : Hp) : aJ :=
 bnd (aB 0 x3 h0) fun v1 h1 =>
 bnd (aA v1 h1) fun v2 h2 =>
  aZj r n x0 x3 x5 v2 h2
noncomputable def aVt (r : RT) (n : Nat) (x0 x3 x5 : DV) (h0 : Hp) : aJ :=
 bnd (dU x5 h0) fun v1 h1 =>
 bnd (aD .gtr v1 (aE 250) h1) fun v2 h2 =>
 aR v2 (
 bnd (fE x5 none (some (aE 250)) h2) fun v3 h3 =>
  aAv r n x0 x3 v3 h3) (
  aAv r n x0 x3 x5 h2)
noncomputable def aAh (r : RT) (n : Nat) (x0 x3 : DV) (h0 : Hp) : aJ :=
 bnd (aB 2 x3 h0) fun v1 h1 =>
 bnd (aA v1 h1) fun v2 h2 =>
  aVt r n x0 x3 v2 h2
noncomputable def s14 (r : RT) (n : Nat) (x0 x1 : DV) (h0 : Hp) : aJ :=
 bnd (bS x1 h0) fun v1 h1 =>
  aAh r n x0 v1 h1
noncomputable abbrev c14 : Code := cf Tryz.f14
noncomputable abbrev bBk : Code := cR c14
noncomputable abbrev aWu : Code := cR bBk
noncomputable abbrev bBy : Code := cR aWu
noncomputable abbrev dGo : Code := cR bBy
noncomputable abbrev aKw : Code := cL bBy
noncomputable abbrev bVs : Code := cR aKw
noncomputable abbrev aXe : Code := cL bVs
noncomputable abbrev aMg : Code := cR aXe
noncomputable abbrev aLp : Code := cR aMg
noncomputable abbrev wM : Code := cR aLp
noncomputable abbrev yC : Code := cR wM
noncomputable abbrev yF : Code := cR yC
noncomputable abbrev wR : Code := cL yF
noncomputable abbrev dBv : Code := cR wR
noncomputable abbrev bYj : Code := cL wR
noncomputable abbrev vZ : Code := cR yF
noncomputable abbrev wP : Code := cR vZ
noncomputable abbrev zP : Code := cL wP
noncomputable abbrev aCt : Code := cR zP
noncomputable abbrev aGe : Code := cR aCt
noncomputable abbrev aFd : Code := cR aGe
noncomputable abbrev cWb : Code := cR aFd
noncomputable abbrev xU : Code := cL aFd
noncomputable abbrev aRa : Code := cR xU
noncomputable abbrev aGm : Code := cL aRa
noncomputable abbrev mM : Code := cL aGm
noncomputable abbrev bRm : Code := cL xU
noncomputable abbrev bNt : Code := cL aGe
noncomputable abbrev bRw : Code := cL aCt
noncomputable abbrev bWx : Code := cL zP
noncomputable abbrev cXu : Code := cR wP
noncomputable abbrev bIg : Code := cL vZ
noncomputable abbrev bVj : Code := cL yC
noncomputable abbrev cRr : Code := cL wM
noncomputable abbrev bIl : Code := cL aLp
noncomputable abbrev cWl : Code := cL aMg
noncomputable abbrev bTy : Code := cL aXe
noncomputable abbrev bLa : Code := cL aKw
noncomputable abbrev bLc : Code := cL aWu
noncomputable abbrev bTo : Code := cL bBk
noncomputable abbrev aSa : Code := cL c14
noncomputable abbrev r14 : K := aU CF Tryz.f14
noncomputable def D14 (r : RT) (n : Nat) (c : Code) (X : Nat → K) (k : K) : K := aM CF r 124 n c X r14 k
theorem cTs : D14 r n dGo x0 r14 = (K1 (aW r n) 3) :=
 (by kernel_rfl)
theorem cEu : D14 r n dBv (xs x0 0 (K1 (aW r n) 3)) (K1 (aW r n) 3) = (K2 (qO r n) 0 5) :=
 (by kernel_rfl)
theorem bMy : D14 r n wR (xs x0 0 (K1 (aW r n) 3)) (K1 (aW r n) 3) = D14 r n bYj (xs x0 0 (K1 (aW r n) 3)) (K2 (qO r n) 0 5) :=
 congrArg (fun k => D14 r n bYj (xs x0 0 (K1 (aW r n) 3)) k) (cEu r n)
theorem cCf : D14 r n wR (xs x0 0 (K1 (aW r n) 3)) (K1 (aW r n) 3) = (K2 (aFf r n) 0 5) :=
 (bMy r n).trans
 ((by kernel_rfl))
theorem cOg : D14 r n cWb (xs x0 0 (K1 (aW r n) 3)) (K1 (aW r n) 3) = (K2 (dS r n) 0 13) :=
 (by kernel_rfl)
theorem bTf (kk21 : dL) (q0 : TT1) (q1 : oU) : D14 r n mM (xs (xs x0 0 (K1 q0 3)) 1 (K2 q1 0 13)) (K4 kk21 0 12 13 14) = fun (env : aZ) (h : Hp) =>
 bnd (aD .rem (env 12) (aE 10) h) fun v1 h1 =>
 bnd (aD .lss (env 14) v1 h1) fun v2 h2 =>
 aR v2 (
 bnd (aD .mul (aE 2) (env 14) h2) fun v3 h3 =>
 bnd (aD .add v3 (aE 1) h3) fun v4 h4 =>
 bnd (aL [(aE 0)] 1 [(0, 1, v4)] h4) fun v5 h5 =>
 bnd (bA 1 8 (env 13) v5 h5) fun v6 h6 =>
 bnd (aD .add (env 14) (aE 1) h6) fun v7 h7 =>
      kk21 (env 0) (env 12) v6 v7 h7) (
      q1 (env 0) (env 13) h2) := by kernel_rfl
theorem bCx (kk21 : dL) : (fun (env : aZ) (h : Hp) =>
 bnd (aD .rem (env 12) (aE 10) h) fun v1 h1 =>
 bnd (aD .lss (env 14) v1 h1) fun v2 h2 =>
 aR v2 (
 bnd (aD .mul (aE 2) (env 14) h2) fun v3 h3 =>
 bnd (aD .add v3 (aE 1) h3) fun v4 h4 =>
 bnd (aL [(aE 0)] 1 [(0, 1, v4)] h4) fun v5 h5 =>
 bnd (bA 1 8 (env 13) v5 h5) fun v6 h6 =>
 bnd (aD .add (env 14) (aE 1) h6) fun v7 h7 =>
      kk21 (env 0) (env 12) v6 v7 h7) (
      dS r n (env 0) (env 13) h2)) = (K4 (lK r n kk21) 0 12 13 14) := by kernel_rfl
theorem cAn (kk21 : dL) : D14 r n mM (xs (xs x0 0 (K1 (aW r n) 3)) 1 (K2 (dS r n) 0 13)) (K4 kk21 0 12 13 14) = (K4 (lK r n kk21) 0 12 13 14) :=
 (bTf r n kk21 (aW r n) (dS r n)).trans (bCx r n kk21)
theorem bRd (m : Nat) : aO (fun kk => D14 r n mM (xs (xs x0 0 (K1 (aW r n) 3)) 1 (K2 (dS r n) 0 13)) kk) m = (K4 (kY r n m) 0 12 13 14) := by
 induction m with
 | zero => exact (by kernel_rfl : aO (fun kk => D14 r n mM (xs (xs x0 0 (K1 (aW r n) 3)) 1 (K2 (dS r n) 0 13)) kk) 0 = (K4 (kY r n 0) 0 12 13 14))
 | succ m ih =>
  refine (by kernel_rfl : aO (fun kk => D14 r n mM (xs (xs x0 0 (K1 (aW r n) 3)) 1 (K2 (dS r n) 0 13)) kk) (m + 1) = D14 r n mM (xs (xs x0 0 (K1 (aW r n) 3)) 1 (K2 (dS r n) 0 13)) (aO (fun kk => D14 r n mM (xs (xs x0 0 (K1 (aW r n) 3)) 1 (K2 (dS r n) 0 13)) kk) m)).trans ?_
  rw [ih]
  exact (cAn r n (kY r n m)).trans (by kernel_rfl)
theorem cNn : D14 r n aGm (xs (xs x0 0 (K1 (aW r n) 3)) 1 (K2 (dS r n) 0 13)) (K2 (dS r n) 0 13) = (K4 (aOo r n) 0 12 13 14) :=
 (by kernel_rfl : D14 r n aGm (xs (xs x0 0 (K1 (aW r n) 3)) 1 (K2 (dS r n) 0 13)) (K2 (dS r n) 0 13) = aO (fun kk => D14 r n mM (xs (xs x0 0 (K1 (aW r n) 3)) 1 (K2 (dS r n) 0 13)) kk) n).trans ((bRd r n n).trans (by kernel_rfl))
theorem cOa : D14 r n aRa (xs x0 0 (K1 (aW r n) 3)) (K2 (dS r n) 0 13) = (K4 (aKm r n) 0 12 13 14) :=
 (by kernel_rfl : D14 r n aRa (xs x0 0 (K1 (aW r n) 3)) (K2 (dS r n) 0 13) = D14 r n aGm (xs (xs x0 0 (K1 (aW r n) 3)) 1 (K2 (dS r n) 0 13)) (K2 (dS r n) 0 13)).trans
 ((cNn r n).trans (by kernel_rfl))
theorem bJt : D14 r n aFd (xs x0 0 (K1 (aW r n) 3)) (K1 (aW r n) 3) = D14 r n xU (xs x0 0 (K1 (aW r n) 3)) (K2 (dS r n) 0 13) :=
 congrArg (fun k => D14 r n xU (xs x0 0 (K1 (aW r n) 3)) k) (cOg r n)
theorem bUy : D14 r n xU (xs x0 0 (K1 (aW r n) 3)) (K2 (dS r n) 0 13) = D14 r n bRm (xs x0 0 (K1 (aW r n) 3)) (K4 (aKm r n) 0 12 13 14) :=
 congrArg (fun k => D14 r n bRm (xs x0 0 (K1 (aW r n) 3)) k) (cOa r n)
theorem cOj : D14 r n aFd (xs x0 0 (K1 (aW r n) 3)) (K1 (aW r n) 3) = (K3 (aJu r n) 0 12 13) :=
 (bJt r n).trans
 ((bUy r n).trans
 ((by kernel_rfl)))
theorem bIr : D14 r n aGe (xs x0 0 (K1 (aW r n) 3)) (K1 (aW r n) 3) = D14 r n bNt (xs x0 0 (K1 (aW r n) 3)) (K3 (aJu r n) 0 12 13) :=
 congrArg (fun k => D14 r n bNt (xs x0 0 (K1 (aW r n) 3)) k) (cOj r n)
theorem cIj : D14 r n aGe (xs x0 0 (K1 (aW r n) 3)) (K1 (aW r n) 3) = (K2 (rN r n) 0 12) :=
 (bIr r n).trans
 ((by kernel_rfl))
theorem bXw : D14 r n aCt (xs x0 0 (K1 (aW r n) 3)) (K1 (aW r n) 3) = D14 r n bRw (xs x0 0 (K1 (aW r n) 3)) (K2 (rN r n) 0 12) :=
 congrArg (fun k => D14 r n bRw (xs x0 0 (K1 (aW r n) 3)) k) (cIj r n)
theorem cKw : D14 r n aCt (xs x0 0 (K1 (aW r n) 3)) (K1 (aW r n) 3) = (K2 (aIk r n) 0 12) :=
 (bXw r n).trans
 ((by kernel_rfl))
theorem bSc : D14 r n zP (xs x0 0 (K1 (aW r n) 3)) (K1 (aW r n) 3) = D14 r n bWx (xs x0 0 (K1 (aW r n) 3)) (K2 (aIk r n) 0 12) :=
 congrArg (fun k => D14 r n bWx (xs x0 0 (K1 (aW r n) 3)) k) (cKw r n)
theorem cDc : D14 r n zP (xs x0 0 (K1 (aW r n) 3)) (K1 (aW r n) 3) = (K2 (aIa r n) 0 3) :=
 (bSc r n).trans
 ((by kernel_rfl))
theorem cHx : D14 r n wP (xs x0 0 (K1 (aW r n) 3)) (K1 (aW r n) 3) = (K4 (xF r n) 0 3 27 66) :=
 (by kernel_rfl : D14 r n wP (xs x0 0 (K1 (aW r n) 3)) (K1 (aW r n) 3) = (fun (env : aZ) (h : Hp) => aR (opr env (cC wP)) (D14 r n zP (xs x0 0 (K1 (aW r n) 3)) (K1 (aW r n) 3) env h) (D14 r n cXu (xs x0 0 (K1 (aW r n) 3)) (K1 (aW r n) 3) env h))).trans (by rw [cDc r n]; kernel_rfl)
theorem bLx : D14 r n vZ (xs x0 0 (K1 (aW r n) 3)) (K1 (aW r n) 3) = D14 r n bIg (xs x0 0 (K1 (aW r n) 3)) (K4 (xF r n) 0 3 27 66) :=
 congrArg (fun k => D14 r n bIg (xs x0 0 (K1 (aW r n) 3)) k) (cHx r n)
theorem cEn : D14 r n vZ (xs x0 0 (K1 (aW r n) 3)) (K1 (aW r n) 3) = (K3 (aPv r n) 0 3 27) :=
 (bLx r n).trans
 ((by kernel_rfl))
theorem cOe : D14 r n yF (xs x0 0 (K1 (aW r n) 3)) (K1 (aW r n) 3) = (K5 (vC r n) 0 3 5 27 47) :=
 (by kernel_rfl : D14 r n yF (xs x0 0 (K1 (aW r n) 3)) (K1 (aW r n) 3) = (fun (env : aZ) (h : Hp) => aR (opr env (cC yF)) (D14 r n wR (xs x0 0 (K1 (aW r n) 3)) (K1 (aW r n) 3) env h) (D14 r n vZ (xs x0 0 (K1 (aW r n) 3)) (K1 (aW r n) 3) env h))).trans (by rw [cCf r n, cEn r n]; kernel_rfl)
theorem cLf : D14 r n yC (xs x0 0 (K1 (aW r n) 3)) (K1 (aW r n) 3) = D14 r n bVj (xs x0 0 (K1 (aW r n) 3)) (K5 (vC r n) 0 3 5 27 47) :=
 congrArg (fun k => D14 r n bVj (xs x0 0 (K1 (aW r n) 3)) k) (cOe r n)
theorem cTi : D14 r n yC (xs x0 0 (K1 (aW r n) 3)) (K1 (aW r n) 3) = (K4 (bXn r n) 0 3 5 27) :=
 (cLf r n).trans
 ((by kernel_rfl))
theorem cXw : D14 r n wM (xs x0 0 (K1 (aW r n) 3)) (K1 (aW r n) 3) = (K5 (aMf r n) 0 3 5 27 38) :=
 (by kernel_rfl : D14 r n wM (xs x0 0 (K1 (aW r n) 3)) (K1 (aW r n) 3) = (fun (env : aZ) (h : Hp) => aR (opr env (cC wM)) (D14 r n cRr (xs x0 0 (K1 (aW r n) 3)) (K1 (aW r n) 3) env h) (D14 r n yC (xs x0 0 (K1 (aW r n) 3)) (K1 (aW r n) 3) env h))).trans (by rw [cTi r n]; kernel_rfl)
theorem bGx : D14 r n aLp (xs x0 0 (K1 (aW r n) 3)) (K1 (aW r n) 3) = D14 r n bIl (xs x0 0 (K1 (aW r n) 3)) (K5 (aMf r n) 0 3 5 27 38) :=
 congrArg (fun k => D14 r n bIl (xs x0 0 (K1 (aW r n) 3)) k) (cXw r n)
theorem dAh : D14 r n aLp (xs x0 0 (K1 (aW r n) 3)) (K1 (aW r n) 3) = (K4 (bNn r n) 0 3 5 27) :=
 (bGx r n).trans
 ((by kernel_rfl))
theorem dDb : D14 r n aMg (xs x0 0 (K1 (aW r n) 3)) (K1 (aW r n) 3) = (K5 (aNj r n) 0 3 5 27 28) :=
 (by kernel_rfl : D14 r n aMg (xs x0 0 (K1 (aW r n) 3)) (K1 (aW r n) 3) = (fun (env : aZ) (h : Hp) => aR (opr env (cC aMg)) (D14 r n cWl (xs x0 0 (K1 (aW r n) 3)) (K1 (aW r n) 3) env h) (D14 r n aLp (xs x0 0 (K1 (aW r n) 3)) (K1 (aW r n) 3) env h))).trans (by rw [dAh r n]; kernel_rfl)
theorem bZs : D14 r n aXe (xs x0 0 (K1 (aW r n) 3)) (K1 (aW r n) 3) = D14 r n bTy (xs x0 0 (K1 (aW r n) 3)) (K5 (aNj r n) 0 3 5 27 28) :=
 congrArg (fun k => D14 r n bTy (xs x0 0 (K1 (aW r n) 3)) k) (dDb r n)
theorem cZy : D14 r n bVs x0 (K1 (aW r n) 3) = (K4 (aZj r n) 0 3 5 27) :=
 (by kernel_rfl : D14 r n bVs x0 (K1 (aW r n) 3) = D14 r n aXe (xs x0 0 (K1 (aW r n) 3)) (K1 (aW r n) 3)).trans
 ((bZs r n).trans
 ((by kernel_rfl)))
theorem bZg : D14 r n bBy x0 r14 = D14 r n aKw x0 (K1 (aW r n) 3) :=
 congrArg (fun k => D14 r n aKw x0 k) (cTs r n)
theorem bKy : D14 r n aKw x0 (K1 (aW r n) 3) = D14 r n bLa x0 (K4 (aZj r n) 0 3 5 27) :=
 congrArg (fun k => D14 r n bLa x0 k) (cZy r n)
theorem cYg : D14 r n bBy x0 r14 = (K3 (aAv r n) 0 3 5) :=
 (bZg r n).trans
 ((bKy r n).trans
 ((by kernel_rfl)))
theorem bTi : D14 r n aWu x0 r14 = D14 r n bLc x0 (K3 (aAv r n) 0 3 5) :=
 congrArg (fun k => D14 r n bLc x0 k) (cYg r n)
theorem dCl : D14 r n aWu x0 r14 = (K3 (aVt r n) 0 3 5) :=
 (bTi r n).trans
 ((by kernel_rfl))
theorem bKi : D14 r n bBk x0 r14 = D14 r n bTo x0 (K3 (aVt r n) 0 3 5) :=
 congrArg (fun k => D14 r n bTo x0 k) (dCl r n)
theorem cTh : D14 r n bBk x0 r14 = (K2 (aAh r n) 0 3) :=
 (bKi r n).trans
 ((by kernel_rfl))
theorem cSs : D14 r n c14 x0 r14 = D14 r n aSa x0 (K2 (aAh r n) 0 3) :=
 congrArg (fun k => D14 r n aSa x0 k) (cTh r n)
theorem cVu (q0 : oU) : D14 r n aSa x0 (K2 q0 0 3) = fun (env : aZ) (h : Hp) =>
 bnd (bS (env 1) h) fun v1 h1 =>
  q0 (env 0) v1 h1 := by kernel_rfl
theorem cHz : (fun (env : aZ) (h : Hp) =>
 bnd (bS (env 1) h) fun v1 h1 =>
  aAh r n (env 0) v1 h1) = (K2 (s14 r n) 0 1) := by kernel_rfl
theorem dNf : D14 r n c14 x0 r14 = (K2 (s14 r n) 0 1) :=
 (cSs r n).trans
 ((cVu r n (aAh r n)).trans (cHz r n))
theorem cRd : aF CF r n 14 args h = s14 r n (aS args 0) (aS args 1) h :=
 (by kernel_rfl : aF CF r n 14 args h = D14 r n c14 x0 r14 (aH args) h).trans ((congrFun (congrFun (dNf r n) (aH args)) h).trans (by kernel_rfl))
noncomputable def s15 (r : RT) (n : Nat) (x0 x1 : DV) (h0 : Hp) : aJ :=
 bnd (eL [x1] h0) fun v1 h1 =>
 aR v1 (
 bnd (jL [x1] h1) fun v2 h2 =>
 some (.t [v2, (.b true)], h2)) (
 bnd (aN x0 h1) fun v3 h3 =>
 bnd (aB 0 v3 h3) fun v4 h4 =>
 bnd (aA v4 h4) fun v5 h5 =>
 bnd (isF [v5, x1] h5) fun v6 h6 =>
 bnd (gD v6 true (some (x0, h6)) h6) fun v7 h7 =>
 bnd (gD v6 true (aN v7 h7) h7) fun v8 h8 =>
 bnd (gD v6 true (aB 0 v8 h8) h8) fun v9 h9 =>
 bnd (gD v6 true (aA v9 h9) h9) fun v10 h10 =>
 bnd (gD v6 true (some (x1, h10)) h10) fun v11 h11 =>
 bnd (gD v6 true (iM [v10, v11] h11) h11) fun v12 h12 =>
 bnd (gD v6 true (some (x0, h12)) h12) fun v13 h13 =>
 bnd (gD v6 true (r 30 [v13, (aE 8)] h13) h13) fun v14 h14 =>
 bnd (gD v6 true (aD .eql v12 v14 h14) h14) fun v15 h15 =>
 bnd (aP v6 v15 (.b false) h15) fun v16 h16 =>
 bnd (gD v16 true (some (x0, h16)) h16) fun v17 h17 =>
 bnd (gD v16 true (aN v17 h17) h17) fun v18 h18 =>
 bnd (gD v16 true (aB 0 v18 h18) h18) fun v19 h19 =>
 bnd (gD v16 true (aA v19 h19) h19) fun v20 h20 =>
 bnd (gD v16 true (some (x1, h20)) h20) fun v21 h21 =>
 bnd (gD v16 true (jU [v20, v21] h21) h21) fun v22 h22 =>
 bnd (gD v16 true (aD .eql v22 (aE 1) h22) h22) fun v23 h23 =>
 bnd (aP v16 v23 (.b false) h23) fun v24 h24 =>
 aR v24 (
 bnd (r 51 [x0, x1, (aE 0)] h24) fun v25 h25 =>
 some (.t [v25, (.b true)], h25)) (
 some (.t [(aE 0), (.b false)], h24)))
noncomputable abbrev c15 : Code := cf Tryz.f15
noncomputable abbrev r15 : K := aU CF Tryz.f15
noncomputable def D15 (r : RT) (n : Nat) (c : Code) (X : Nat → K) (k : K) : K := aM CF r 41 n c X r15 k
theorem dMl : D15 r n c15 x0 r15 = (K2 (s15 r n) 0 1) :=
 (by kernel_rfl)
theorem cQq : aF CF r n 15 args h = s15 r n (aS args 0) (aS args 1) h :=
 (by kernel_rfl : aF CF r n 15 args h = D15 r n c15 x0 r15 (aH args) h).trans ((congrFun (congrFun (dMl r n) (aH args)) h).trans (by kernel_rfl))
noncomputable def bC (r : RT) (n : Nat) (x12 : DV) (h0 : Hp) : aJ :=
 bnd (cX CF r x12 [] h0) fun v1 h1 =>
 bnd (aC 0 v1 h1) fun v2 h2 =>
 bnd (aC 1 v1 h2) fun v3 h3 =>
 some (.t [v2, v3], h3)
noncomputable def aKh (r : RT) (n : Nat) (x11 x12 x69 : DV) (h0 : Hp) : aJ :=
 aR x69 (
  bC r n (.f 61 [x11] []) h0) (
  bC r n x12 h0)
noncomputable def bWv (r : RT) (n : Nat) (x11 x12 x42 : DV) (h0 : Hp) : aJ :=
 bnd (aD .eql x42 (aE 50) h0) fun v1 h1 =>
 aR v1 (
  aKh r n x11 x12 v1 h1) (
 bnd (aD .eql x42 (aE 51) h1) fun v2 h2 =>
  aKh r n x11 x12 v2 h2)
noncomputable def aGv (r : RT) (n : Nat) (x11 x12 x42 x64 : DV) (h0 : Hp) : aJ :=
 aR x64 (
  bC r n (.f 60 [x11] []) h0) (
  bWv r n x11 x12 x42 h0)
noncomputable def bMc (r : RT) (n : Nat) (x11 x12 x42 : DV) (h0 : Hp) : aJ :=
 bnd (aD .eql x42 (aE 40) h0) fun v1 h1 =>
 aR v1 (
  aGv r n x11 x12 x42 v1 h1) (
 bnd (aD .eql x42 (aE 41) h1) fun v2 h2 =>
  aGv r n x11 x12 x42 v2 h2)
noncomputable def aIv (r : RT) (n : Nat) (x11 x12 x42 x59 : DV) (h0 : Hp) : aJ :=
 aR x59 (
  bC r n (.f 59 [x11] []) h0) (
  bMc r n x11 x12 x42 h0)
noncomputable def bGv (r : RT) (n : Nat) (x11 x12 x42 : DV) (h0 : Hp) : aJ :=
 bnd (aD .eql x42 (aE 25) h0) fun v1 h1 =>
 aR v1 (
  aIv r n x11 x12 x42 v1 h1) (
 bnd (aD .eql x42 (aE 26) h1) fun v2 h2 =>
  aIv r n x11 x12 x42 v2 h2)
noncomputable def aGf (r : RT) (n : Nat) (x11 x12 x42 x54 : DV) (h0 : Hp) : aJ :=
 aR x54 (
  bC r n (.f 58 [x11] []) h0) (
  bGv r n x11 x12 x42 h0)
noncomputable def bWz (r : RT) (n : Nat) (x11 x12 x42 : DV) (h0 : Hp) : aJ :=
 bnd (aD .eql x42 (aE 23) h0) fun v1 h1 =>
 aR v1 (
  aGf r n x11 x12 x42 v1 h1) (
 bnd (aD .eql x42 (aE 24) h1) fun v2 h2 =>
  aGf r n x11 x12 x42 v2 h2)
noncomputable def vJ (r : RT) (n : Nat) (x11 x12 x42 x48 : DV) (h0 : Hp) : aJ :=
 aR x48 (
  bC r n (.f 57 [x11] []) h0) (
  bWz r n x11 x12 x42 h0)
noncomputable def cRg (r : RT) (n : Nat) (x11 x12 x42 : DV) (h0 : Hp) : aJ :=
 bnd (aD .eql x42 (aE 20) h0) fun v1 h1 =>
 aR v1 (
  vJ r n x11 x12 x42 v1 h1) (
 bnd (aD .eql x42 (aE 21) h1) fun v2 h2 =>
 aR v2 (
   vJ r n x11 x12 x42 v2 h2) (
 bnd (aD .eql x42 (aE 22) h2) fun v3 h3 =>
      vJ r n x11 x12 x42 v3 h3))
noncomputable def aWj (r : RT) (n : Nat) (x11 x12 x42 x43 : DV) (h0 : Hp) : aJ :=
 aR x43 (
  bC r n (.f 56 [x11] []) h0) (
  cRg r n x11 x12 x42 h0)
noncomputable def bHv (r : RT) (n : Nat) (x11 x12 x42 : DV) (h0 : Hp) : aJ :=
 bnd (aD .eql x42 (aE 10) h0) fun v1 h1 =>
 aR v1 (
  aWj r n x11 x12 x42 v1 h1) (
 bnd (aD .eql x42 (aE 11) h1) fun v2 h2 =>
  aWj r n x11 x12 x42 v2 h2)
noncomputable def bSv (r : RT) (n : Nat) (x1 x11 x12 : DV) (h0 : Hp) : aJ :=
 bHv r n x11 x12 x1 h0
noncomputable def oW (r : RT) (n : Nat) (x1 x11 : DV) (h0 : Hp) : aJ :=
 bSv r n x1 x11 (.f 55 [x11] []) h0
noncomputable def zL (r : RT) (n : Nat) (x0 x1 x2 x3 : DV) (h0 : Hp) : aJ :=
 bnd (bB [.p0, (aE 0), (aE 0), .l0] [(0, 1, x0), (1, 1, x1), (2, 1, x2), (3, 1, x3)] h0) fun v1 h1 =>
 bnd (bS v1 h1) fun v2 h2 =>
  oW r n x1 v2 h2
noncomputable def aAr (r : RT) (n : Nat) (x0 x1 x2 x3 x10 : DV) (h0 : Hp) : aJ :=
 bnd (r 39 [x1] h0) fun v1 h1 =>
 bnd (bZ x3 h1) fun v2 h2 =>
 bnd (aD .neq v1 v2 h2) fun v3 h3 =>
 bnd (gD v3 false (aA x10 h3) h3) fun v4 h4 =>
 bnd (gD v3 false (some (x2, h4)) h4) fun v5 h5 =>
 bnd (gD v3 false (aAb [v4, v5] h5) h5) fun v6 h6 =>
 bnd (gD v3 false (gX .not v6 h6) h6) fun v7 h7 =>
 bnd (aP v3 (.b true) v7 h7) fun v8 h8 =>
 bnd (gD v8 false (some (x3, h8)) h8) fun v9 h9 =>
 bnd (gD v8 false (some ((.f 53 [] [x10]), h9)) h9) fun v10 h10 =>
 bnd (gD v8 false (r 52 [v9, v10] h10) h10) fun v11 h11 =>
 bnd (aP v8 (.b true) v11 h11) fun v12 h12 =>
 aR v12 (
 bnd (r 54 [] h12) fun v13 h13 =>
 bnd (aC 0 v13 h13) fun v14 h14 =>
 bnd (aC 1 v13 h14) fun v15 h15 =>
 some (.t [v14, v15], h15)) (
  zL r n x0 x1 x2 x3 h12)
noncomputable def aLr (r : RT) (n : Nat) (x0 x1 x2 x3 : DV) (h0 : Hp) : aJ :=
 bnd (r 23 [x0] h0) fun v1 h1 =>
 bnd (bM [.p0] h1) fun v2 h2 =>
 bnd (aG 1 v2 v1 h2) fun _ h3 =>
  aAr r n x0 x1 x2 x3 v2 h3
noncomputable def s16 (r : RT) (n : Nat) (x0 x1 x2 x3 : DV) (h0 : Hp) : aJ :=
 aLr r n x0 x1 x2 x3 h0
noncomputable abbrev c16 : Code := cf Tryz.f16
noncomputable abbrev aZq : Code := cR c16
noncomputable abbrev aZc : Code := cR aZq
noncomputable abbrev bBo : Code := cR aZc
noncomputable abbrev bAl : Code := cR bBo
noncomputable abbrev aZv : Code := cR bAl
noncomputable abbrev dJy : Code := cR aZv
noncomputable abbrev aMu : Code := cL aZv
noncomputable abbrev bRz : Code := cR aMu
noncomputable abbrev aWp : Code := cL bRz
noncomputable abbrev yV : Code := cR aWp
noncomputable abbrev xB : Code := cR yV
noncomputable abbrev xX : Code := cR xB
noncomputable abbrev xM : Code := cR xX
noncomputable abbrev xO : Code := cR xM
noncomputable abbrev zH : Code := cR xO
noncomputable abbrev yZ : Code := cR zH
noncomputable abbrev zT : Code := cR yZ
noncomputable abbrev xD : Code := cR zT
noncomputable abbrev wT : Code := cR xD
noncomputable abbrev dBq : Code := cR wT
noncomputable abbrev bHs : Code := cL wT
noncomputable abbrev cUt : Code := cL xD
noncomputable abbrev bVc : Code := cL zT
noncomputable abbrev cXt : Code := cL yZ
noncomputable abbrev bJp : Code := cL zH
noncomputable abbrev cYu : Code := cL xO
noncomputable abbrev bXh : Code := cL xM
noncomputable abbrev cUb : Code := cL xX
noncomputable abbrev cAx : Code := cL xB
noncomputable abbrev cSc : Code := cL yV
noncomputable abbrev bHg : Code := cL aWp
noncomputable abbrev bVg : Code := cL aMu
noncomputable abbrev bSz : Code := cL bAl
noncomputable abbrev aRz : Code := cL bBo
noncomputable abbrev bQo : Code := cL aZc
noncomputable abbrev aSs : Code := cL aZq
noncomputable abbrev bPm : Code := cL c16
noncomputable abbrev r16 : K := aU CF Tryz.f16
noncomputable def D16 (r : RT) (n : Nat) (c : Code) (X : Nat → K) (k : K) : K := aM CF r 78 n c X r16 k
theorem cUx : D16 r n dJy x0 r16 = (K1 (bC r n) 12) :=
 (by kernel_rfl)
theorem cPc : D16 r n dBq (xs x0 0 (K1 (bC r n) 12)) (K1 (bC r n) 12) = (K3 (aKh r n) 11 12 69) :=
 (by kernel_rfl)
theorem bPu : D16 r n wT (xs x0 0 (K1 (bC r n) 12)) (K1 (bC r n) 12) = D16 r n bHs (xs x0 0 (K1 (bC r n) 12)) (K3 (aKh r n) 11 12 69) :=
 congrArg (fun k => D16 r n bHs (xs x0 0 (K1 (bC r n) 12)) k) (cPc r n)
theorem cGa : D16 r n wT (xs x0 0 (K1 (bC r n) 12)) (K1 (bC r n) 12) = (K3 (bWv r n) 11 12 42) :=
 (bPu r n).trans
 ((by kernel_rfl))
theorem cEj : D16 r n xD (xs x0 0 (K1 (bC r n) 12)) (K1 (bC r n) 12) = (K4 (aGv r n) 11 12 42 64) :=
 (by kernel_rfl : D16 r n xD (xs x0 0 (K1 (bC r n) 12)) (K1 (bC r n) 12) = (fun (env : aZ) (h : Hp) => aR (opr env (cC xD)) (D16 r n cUt (xs x0 0 (K1 (bC r n) 12)) (K1 (bC r n) 12) env h) (D16 r n wT (xs x0 0 (K1 (bC r n) 12)) (K1 (bC r n) 12) env h))).trans (by rw [cGa r n]; kernel_rfl)
theorem bWw : D16 r n zT (xs x0 0 (K1 (bC r n) 12)) (K1 (bC r n) 12) = D16 r n bVc (xs x0 0 (K1 (bC r n) 12)) (K4 (aGv r n) 11 12 42 64) :=
 congrArg (fun k => D16 r n bVc (xs x0 0 (K1 (bC r n) 12)) k) (cEj r n)
theorem cOk : D16 r n zT (xs x0 0 (K1 (bC r n) 12)) (K1 (bC r n) 12) = (K3 (bMc r n) 11 12 42) :=
 (bWw r n).trans
 ((by kernel_rfl))
theorem cNc : D16 r n yZ (xs x0 0 (K1 (bC r n) 12)) (K1 (bC r n) 12) = (K4 (aIv r n) 11 12 42 59) :=
 (by kernel_rfl : D16 r n yZ (xs x0 0 (K1 (bC r n) 12)) (K1 (bC r n) 12) = (fun (env : aZ) (h : Hp) => aR (opr env (cC yZ)) (D16 r n cXt (xs x0 0 (K1 (bC r n) 12)) (K1 (bC r n) 12) env h) (D16 r n zT (xs x0 0 (K1 (bC r n) 12)) (K1 (bC r n) 12) env h))).trans (by rw [cOk r n]; kernel_rfl)
theorem bRt : D16 r n zH (xs x0 0 (K1 (bC r n) 12)) (K1 (bC r n) 12) = D16 r n bJp (xs x0 0 (K1 (bC r n) 12)) (K4 (aIv r n) 11 12 42 59) :=
 congrArg (fun k => D16 r n bJp (xs x0 0 (K1 (bC r n) 12)) k) (cNc r n)
theorem cLq : D16 r n zH (xs x0 0 (K1 (bC r n) 12)) (K1 (bC r n) 12) = (K3 (bGv r n) 11 12 42) :=
 (bRt r n).trans
 ((by kernel_rfl))
theorem cDe : D16 r n xO (xs x0 0 (K1 (bC r n) 12)) (K1 (bC r n) 12) = (K4 (aGf r n) 11 12 42 54) :=
 (by kernel_rfl : D16 r n xO (xs x0 0 (K1 (bC r n) 12)) (K1 (bC r n) 12) = (fun (env : aZ) (h : Hp) => aR (opr env (cC xO)) (D16 r n cYu (xs x0 0 (K1 (bC r n) 12)) (K1 (bC r n) 12) env h) (D16 r n zH (xs x0 0 (K1 (bC r n) 12)) (K1 (bC r n) 12) env h))).trans (by rw [cLq r n]; kernel_rfl)
theorem bRp : D16 r n xM (xs x0 0 (K1 (bC r n) 12)) (K1 (bC r n) 12) = D16 r n bXh (xs x0 0 (K1 (bC r n) 12)) (K4 (aGf r n) 11 12 42 54) :=
 congrArg (fun k => D16 r n bXh (xs x0 0 (K1 (bC r n) 12)) k) (cDe r n)
theorem cBr : D16 r n xM (xs x0 0 (K1 (bC r n) 12)) (K1 (bC r n) 12) = (K3 (bWz r n) 11 12 42) :=
 (bRp r n).trans
 ((by kernel_rfl))
theorem cJg : D16 r n xX (xs x0 0 (K1 (bC r n) 12)) (K1 (bC r n) 12) = (K4 (vJ r n) 11 12 42 48) :=
 (by kernel_rfl : D16 r n xX (xs x0 0 (K1 (bC r n) 12)) (K1 (bC r n) 12) = (fun (env : aZ) (h : Hp) => aR (opr env (cC xX)) (D16 r n cUb (xs x0 0 (K1 (bC r n) 12)) (K1 (bC r n) 12) env h) (D16 r n xM (xs x0 0 (K1 (bC r n) 12)) (K1 (bC r n) 12) env h))).trans (by rw [cBr r n]; kernel_rfl)
theorem cKy : D16 r n xB (xs x0 0 (K1 (bC r n) 12)) (K1 (bC r n) 12) = D16 r n cAx (xs x0 0 (K1 (bC r n) 12)) (K4 (vJ r n) 11 12 42 48) :=
 congrArg (fun k => D16 r n cAx (xs x0 0 (K1 (bC r n) 12)) k) (cJg r n)
theorem dAu : D16 r n xB (xs x0 0 (K1 (bC r n) 12)) (K1 (bC r n) 12) = (K3 (cRg r n) 11 12 42) :=
 (cKy r n).trans
 ((by kernel_rfl))
theorem dCb : D16 r n yV (xs x0 0 (K1 (bC r n) 12)) (K1 (bC r n) 12) = (K4 (aWj r n) 11 12 42 43) :=
 (by kernel_rfl : D16 r n yV (xs x0 0 (K1 (bC r n) 12)) (K1 (bC r n) 12) = (fun (env : aZ) (h : Hp) => aR (opr env (cC yV)) (D16 r n cSc (xs x0 0 (K1 (bC r n) 12)) (K1 (bC r n) 12) env h) (D16 r n xB (xs x0 0 (K1 (bC r n) 12)) (K1 (bC r n) 12) env h))).trans (by rw [dAu r n]; kernel_rfl)
theorem cEl : D16 r n aWp (xs x0 0 (K1 (bC r n) 12)) (K1 (bC r n) 12) = D16 r n bHg (xs x0 0 (K1 (bC r n) 12)) (K4 (aWj r n) 11 12 42 43) :=
 congrArg (fun k => D16 r n bHg (xs x0 0 (K1 (bC r n) 12)) k) (dCb r n)
theorem cVk : D16 r n bRz x0 (K1 (bC r n) 12) = (K3 (bHv r n) 11 12 42) :=
 (by kernel_rfl : D16 r n bRz x0 (K1 (bC r n) 12) = D16 r n aWp (xs x0 0 (K1 (bC r n) 12)) (K1 (bC r n) 12)).trans
 ((cEl r n).trans
 ((by kernel_rfl)))
theorem cAz : D16 r n aZv x0 r16 = D16 r n aMu x0 (K1 (bC r n) 12) :=
 congrArg (fun k => D16 r n aMu x0 k) (cUx r n)
theorem cJi : D16 r n aMu x0 (K1 (bC r n) 12) = D16 r n bVg x0 (K3 (bHv r n) 11 12 42) :=
 congrArg (fun k => D16 r n bVg x0 k) (cVk r n)
theorem cUo : D16 r n aZv x0 r16 = (K3 (bSv r n) 1 11 12) :=
 (cAz r n).trans
 ((cJi r n).trans
 ((by kernel_rfl)))
theorem cJa : D16 r n bAl x0 r16 = D16 r n bSz x0 (K3 (bSv r n) 1 11 12) :=
 congrArg (fun k => D16 r n bSz x0 k) (cUo r n)
theorem dBt : D16 r n bAl x0 r16 = (K2 (oW r n) 1 11) :=
 (cJa r n).trans
 ((by kernel_rfl))
theorem bRa : D16 r n bBo x0 r16 = D16 r n aRz x0 (K2 (oW r n) 1 11) :=
 congrArg (fun k => D16 r n aRz x0 k) (dBt r n)
theorem bJb (q0 : oU) : D16 r n aRz x0 (K2 q0 1 11) = fun (env : aZ) (h : Hp) =>
 bnd (bB [.p0, (aE 0), (aE 0), .l0] [(0, 1, (env 0)), (1, 1, (env 1)), (2, 1, (env 2)), (3, 1, (env 3))] h) fun v1 h1 =>
 bnd (bS v1 h1) fun v2 h2 =>
  q0 (env 1) v2 h2 := by kernel_rfl
theorem bEj : (fun (env : aZ) (h : Hp) =>
 bnd (bB [.p0, (aE 0), (aE 0), .l0] [(0, 1, (env 0)), (1, 1, (env 1)), (2, 1, (env 2)), (3, 1, (env 3))] h) fun v1 h1 =>
 bnd (bS v1 h1) fun v2 h2 =>
  oW r n (env 1) v2 h2) = (K4 (zL r n) 0 1 2 3) := by kernel_rfl
theorem cZc : D16 r n bBo x0 r16 = (K4 (zL r n) 0 1 2 3) :=
 (bRa r n).trans
 ((bJb r n (oW r n)).trans (bEj r n))
theorem bMd : D16 r n aZc x0 r16 = D16 r n bQo x0 (K4 (zL r n) 0 1 2 3) :=
 congrArg (fun k => D16 r n bQo x0 k) (cZc r n)
theorem cXl : D16 r n aZc x0 r16 = (K5 (aAr r n) 0 1 2 3 10) :=
 (bMd r n).trans
 ((by kernel_rfl))
theorem bQf : D16 r n aZq x0 r16 = D16 r n aSs x0 (K5 (aAr r n) 0 1 2 3 10) :=
 congrArg (fun k => D16 r n aSs x0 k) (cXl r n)
theorem bKd (q0 : cF) : D16 r n aSs x0 (K5 q0 0 1 2 3 10) = fun (env : aZ) (h : Hp) =>
 bnd (r 23 [(env 0)] h) fun v1 h1 =>
 bnd (bM [.p0] h1) fun v2 h2 =>
 bnd (aG 1 v2 v1 h2) fun _ h3 =>
  q0 (env 0) (env 1) (env 2) (env 3) v2 h3 := by kernel_rfl
theorem bFn : (fun (env : aZ) (h : Hp) =>
 bnd (r 23 [(env 0)] h) fun v1 h1 =>
 bnd (bM [.p0] h1) fun v2 h2 =>
 bnd (aG 1 v2 v1 h2) fun _ h3 =>
  aAr r n (env 0) (env 1) (env 2) (env 3) v2 h3) = (K4 (aLr r n) 0 1 2 3) := by kernel_rfl
theorem dCf : D16 r n aZq x0 r16 = (K4 (aLr r n) 0 1 2 3) :=
 (bQf r n).trans
 ((bKd r n (aAr r n)).trans (bFn r n))
theorem dBw : D16 r n c16 x0 r16 = D16 r n bPm x0 (K4 (aLr r n) 0 1 2 3) :=
 congrArg (fun k => D16 r n bPm x0 k) (dCf r n)
theorem dNj : D16 r n c16 x0 r16 = (K4 (s16 r n) 0 1 2 3) :=
 (dBw r n).trans
 ((by kernel_rfl))
theorem cRi : aF CF r n 16 args h = s16 r n (aS args 0) (aS args 1) (aS args 2) (aS args 3) h :=
 (by kernel_rfl : aF CF r n 16 args h = D16 r n c16 x0 r16 (aH args) h).trans ((congrFun (congrFun (dNj r n) (aH args)) h).trans (by kernel_rfl))
noncomputable def s17 (r : RT) (n : Nat) (x0 : DV) (h0 : Hp) : aJ :=
 aR x0 (
 some ((aE 2), h0)) (
 some ((aE 4), h0))
noncomputable abbrev c17 : Code := cf Tryz.f17
noncomputable abbrev r17 : K := aU CF Tryz.f17
noncomputable def D17 (r : RT) (n : Nat) (c : Code) (X : Nat → K) (k : K) : K := aM CF r 4 n c X r17 k
theorem dLs : D17 r n c17 x0 r17 = (K1 (s17 r n) 0) :=
 (by kernel_rfl)
theorem dJc : aF CF r n 17 args h = s17 r n (aS args 0) h :=
 (by kernel_rfl : aF CF r n 17 args h = D17 r n c17 x0 r17 (aH args) h).trans ((congrFun (congrFun (dLs r n) (aH args)) h).trans (by kernel_rfl))
noncomputable def s23 (r : RT) (n : Nat) (x0 : DV) (h0 : Hp) : aJ :=
 bnd (aN x0 h0) fun v1 h1 =>
 bnd (aB 0 v1 h1) fun v2 h2 =>
 bnd (aA v2 h2) fun v3 h3 =>
 some (v3, h3)
noncomputable abbrev c23 : Code := cf Tryz.f23
noncomputable abbrev r23 : K := aU CF Tryz.f23
noncomputable def D23 (r : RT) (n : Nat) (c : Code) (X : Nat → K) (k : K) : K := aM CF r 7 n c X r23 k
theorem dMn : D23 r n c23 x0 r23 = (K1 (s23 r n) 0) :=
 (by kernel_rfl)
theorem cRc : aF CF r n 23 args h = s23 r n (aS args 0) h :=
 (by kernel_rfl : aF CF r n 23 args h = D23 r n c23 x0 r23 (aH args) h).trans ((congrFun (congrFun (dMn r n) (aH args)) h).trans (by kernel_rfl))
noncomputable def s25 (r : RT) (n : Nat) (x0 x1 : DV) (h0 : Hp) : aJ :=
 bnd (aN x0 h0) fun v1 h1 =>
 bnd (aB 0 v1 h1) fun v2 h2 =>
 bnd (aA v2 h2) fun v3 h3 =>
 bnd (isF [v3, x1] h3) fun v4 h4 =>
 aR v4 (
 bnd (aN x0 h4) fun v5 h5 =>
 bnd (aB 0 v5 h5) fun v6 h6 =>
 bnd (aA v6 h6) fun v7 h7 =>
 bnd (iM [v7, x1] h7) fun v8 h8 =>
 some (v8, h8)) (
 bnd (eL [x1] h4) fun v9 h9 =>
 aR v9 (
 bnd (r 30 [x0, (aE 7)] h9) fun v10 h10 =>
 some (v10, h10)) (
 bnd (aD .eql x1 (aE 0) h9) fun v11 h11 =>
 aR v11 (
 bnd (r 30 [x0, (aE 2)] h11) fun v12 h12 =>
 some (v12, h12)) (
 bnd (aD .eql x1 (aE 2) h11) fun v13 h13 =>
 aR v13 (
 bnd (r 30 [x0, (aE 4)] h13) fun v14 h14 =>
 some (v14, h14)) (
 bnd (aD .eql x1 (aE 4) h13) fun v15 h15 =>
 aR v15 (
 bnd (r 30 [x0, (aE 5)] h15) fun v16 h16 =>
 some (v16, h16)) (
 some ((aE 0), h15))))))
noncomputable abbrev c25 : Code := cf Tryz.f25
noncomputable abbrev r25 : K := aU CF Tryz.f25
noncomputable def D25 (r : RT) (n : Nat) (c : Code) (X : Nat → K) (k : K) : K := aM CF r 38 n c X r25 k
theorem dPs : D25 r n c25 x0 r25 = (K2 (s25 r n) 0 1) :=
 (by kernel_rfl)
theorem cRh : aF CF r n 25 args h = s25 r n (aS args 0) (aS args 1) h :=
 (by kernel_rfl : aF CF r n 25 args h = D25 r n c25 x0 r25 (aH args) h).trans ((congrFun (congrFun (dPs r n) (aH args)) h).trans (by kernel_rfl))
noncomputable def fW (r : RT) (n : Nat) (x5 : DV) (h0 : Hp) : aJ :=
 some (x5, h0)
noncomputable def aUf (r : RT) (n : Nat) (kk5 : dL) (x0 x1 x5 x6 : DV) (h0 : Hp) : aJ :=
 bnd (r 23 [x0] h0) fun v1 h1 =>
 bnd (eI [v1, x1] h1) fun v2 h2 =>
 bnd (aD .lss x6 v2 h2) fun v3 h3 =>
 aR v3 (
 bnd (r 23 [x0] h3) fun v4 h4 =>
 bnd (oD [v4, x1, x6] h4) fun v5 h5 =>
 bnd (aC 0 v5 h5) fun v6 h6 =>
 bnd (aC 1 v5 h6) fun v7 h7 =>
 bnd (aL [(aE 0)] 1 [(0, 1, v6)] h7) fun v8 h8 =>
 bnd (bA 1 8 x5 v8 h8) fun v9 h9 =>
 bnd (aD .add x6 (aE 1) h9) fun v10 h10 =>
      kk5 x0 x1 v9 v10 h10) (
      fW r n x5 h3)
noncomputable def aFt (r : RT) (n : Nat) (m : Nat) : dL :=
 Nat.rec (motive := fun _ => dL) (fun _ _ _ _ _ => none) (fun _ ih => aUf r n ih) m
noncomputable def cQg (r : RT) (n : Nat) : dL := aFt r n n
noncomputable def bOn (r : RT) (n : Nat) (x0 x1 x5 x6 : DV) (h0 : Hp) : aJ :=
 cQg r n x0 x1 x5 x6 h0
noncomputable def bUb (r : RT) (n : Nat) (x0 x1 x5 : DV) (h0 : Hp) : aJ :=
 bOn r n x0 x1 x5 (aE 0) h0
noncomputable def bYm (r : RT) (n : Nat) (x0 x1 : DV) (h0 : Hp) : aJ :=
 bUb r n x0 x1 .l0 h0
noncomputable def s29 (r : RT) (n : Nat) (x0 x1 : DV) (h0 : Hp) : aJ :=
 bYm r n x0 x1 h0
noncomputable abbrev c29 : Code := cf Tryz.f29
noncomputable abbrev bBi : Code := cR c29
noncomputable abbrev aZl : Code := cR bBi
noncomputable abbrev dJa : Code := cR aZl
noncomputable abbrev aNi : Code := cL aZl
noncomputable abbrev bTu : Code := cR aNi
noncomputable abbrev aVi : Code := cL bTu
noncomputable abbrev sI : Code := cL aVi
noncomputable abbrev cQt : Code := cL aNi
noncomputable abbrev cQz : Code := cL bBi
noncomputable abbrev bYr : Code := cL c29
noncomputable abbrev r29 : K := aU CF Tryz.f29
noncomputable def D29 (r : RT) (n : Nat) (c : Code) (X : Nat → K) (k : K) : K := aM CF r 30 n c X r29 k
theorem dBl : D29 r n dJa x0 r29 = (K1 (fW r n) 5) :=
 (by kernel_rfl)
theorem cNw (kk5 : dL) (q0 : TT1) : D29 r n sI (xs x0 0 (K1 q0 5)) (K4 kk5 0 1 5 6) = fun (env : aZ) (h : Hp) =>
 bnd (r 23 [(env 0)] h) fun v1 h1 =>
 bnd (eI [v1, (env 1)] h1) fun v2 h2 =>
 bnd (aD .lss (env 6) v2 h2) fun v3 h3 =>
 aR v3 (
 bnd (r 23 [(env 0)] h3) fun v4 h4 =>
 bnd (oD [v4, (env 1), (env 6)] h4) fun v5 h5 =>
 bnd (aC 0 v5 h5) fun v6 h6 =>
 bnd (aC 1 v5 h6) fun v7 h7 =>
 bnd (aL [(aE 0)] 1 [(0, 1, v6)] h7) fun v8 h8 =>
 bnd (bA 1 8 (env 5) v8 h8) fun v9 h9 =>
 bnd (aD .add (env 6) (aE 1) h9) fun v10 h10 =>
      kk5 (env 0) (env 1) v9 v10 h10) (
      q0 (env 5) h3) := by kernel_rfl
theorem bOe (kk5 : dL) : (fun (env : aZ) (h : Hp) =>
 bnd (r 23 [(env 0)] h) fun v1 h1 =>
 bnd (eI [v1, (env 1)] h1) fun v2 h2 =>
 bnd (aD .lss (env 6) v2 h2) fun v3 h3 =>
 aR v3 (
 bnd (r 23 [(env 0)] h3) fun v4 h4 =>
 bnd (oD [v4, (env 1), (env 6)] h4) fun v5 h5 =>
 bnd (aC 0 v5 h5) fun v6 h6 =>
 bnd (aC 1 v5 h6) fun v7 h7 =>
 bnd (aL [(aE 0)] 1 [(0, 1, v6)] h7) fun v8 h8 =>
 bnd (bA 1 8 (env 5) v8 h8) fun v9 h9 =>
 bnd (aD .add (env 6) (aE 1) h9) fun v10 h10 =>
      kk5 (env 0) (env 1) v9 v10 h10) (
      fW r n (env 5) h3)) = (K4 (aUf r n kk5) 0 1 5 6) := by kernel_rfl
theorem cEq (kk5 : dL) : D29 r n sI (xs x0 0 (K1 (fW r n) 5)) (K4 kk5 0 1 5 6) = (K4 (aUf r n kk5) 0 1 5 6) :=
 (cNw r n kk5 (fW r n)).trans (bOe r n kk5)
theorem cDo (m : Nat) : aO (fun kk => D29 r n sI (xs x0 0 (K1 (fW r n) 5)) kk) m = (K4 (aFt r n m) 0 1 5 6) := by
 induction m with
 | zero => exact (by kernel_rfl : aO (fun kk => D29 r n sI (xs x0 0 (K1 (fW r n) 5)) kk) 0 = (K4 (aFt r n 0) 0 1 5 6))
 | succ m ih =>
  refine (by kernel_rfl : aO (fun kk => D29 r n sI (xs x0 0 (K1 (fW r n) 5)) kk) (m + 1) = D29 r n sI (xs x0 0 (K1 (fW r n) 5)) (aO (fun kk => D29 r n sI (xs x0 0 (K1 (fW r n) 5)) kk) m)).trans ?_
  rw [ih]
  exact (cEq r n (aFt r n m)).trans (by kernel_rfl)
theorem dCz : D29 r n aVi (xs x0 0 (K1 (fW r n) 5)) (K1 (fW r n) 5) = (K4 (cQg r n) 0 1 5 6) :=
 (by kernel_rfl : D29 r n aVi (xs x0 0 (K1 (fW r n) 5)) (K1 (fW r n) 5) = aO (fun kk => D29 r n sI (xs x0 0 (K1 (fW r n) 5)) kk) n).trans ((cDo r n n).trans (by kernel_rfl))
theorem cRq : D29 r n bTu x0 (K1 (fW r n) 5) = (K4 (bOn r n) 0 1 5 6) :=
 (by kernel_rfl : D29 r n bTu x0 (K1 (fW r n) 5) = D29 r n aVi (xs x0 0 (K1 (fW r n) 5)) (K1 (fW r n) 5)).trans
 ((dCz r n).trans (by kernel_rfl))
theorem cBu : D29 r n aZl x0 r29 = D29 r n aNi x0 (K1 (fW r n) 5) :=
 congrArg (fun k => D29 r n aNi x0 k) (dBl r n)
theorem cKi : D29 r n aNi x0 (K1 (fW r n) 5) = D29 r n cQt x0 (K4 (bOn r n) 0 1 5 6) :=
 congrArg (fun k => D29 r n cQt x0 k) (cRq r n)
theorem cSv : D29 r n aZl x0 r29 = (K3 (bUb r n) 0 1 5) :=
 (cBu r n).trans
 ((cKi r n).trans
 ((by kernel_rfl)))
theorem cLp : D29 r n bBi x0 r29 = D29 r n cQz x0 (K3 (bUb r n) 0 1 5) :=
 congrArg (fun k => D29 r n cQz x0 k) (cSv r n)
theorem cWz : D29 r n bBi x0 r29 = (K2 (bYm r n) 0 1) :=
 (cLp r n).trans
 ((by kernel_rfl))
theorem dFi : D29 r n c29 x0 r29 = D29 r n bYr x0 (K2 (bYm r n) 0 1) :=
 congrArg (fun k => D29 r n bYr x0 k) (cWz r n)
theorem dOg : D29 r n c29 x0 r29 = (K2 (s29 r n) 0 1) :=
 (dFi r n).trans
 ((by kernel_rfl))
theorem dIv : aF CF r n 29 args h = s29 r n (aS args 0) (aS args 1) h :=
 (by kernel_rfl : aF CF r n 29 args h = D29 r n c29 x0 r29 (aH args) h).trans ((congrFun (congrFun (dOg r n) (aH args)) h).trans (by kernel_rfl))
noncomputable def s30 (r : RT) (n : Nat) (x0 x1 : DV) (h0 : Hp) : aJ :=
 bnd (aD .lss x1 (aE 0) h0) fun v1 h1 =>
 bnd (gD v1 false (some (x1, h1)) h1) fun v2 h2 =>
 bnd (gD v1 false (aD .geq v2 (aE 16) h2) h2) fun v3 h3 =>
 bnd (aP v1 (.b true) v3 h3) fun v4 h4 =>
 aR v4 (
 some ((aE 0), h4)) (
 bnd (aN x0 h4) fun v5 h5 =>
 bnd (aB 1 v5 h5) fun v6 h6 =>
 bnd (aA v6 h6) fun v7 h7 =>
 bnd (aD .add (aE 2) x1 h7) fun v8 h8 =>
 bnd (aI 1 v7 v8 h8) fun v9 h9 =>
 bnd (aA v9 h9) fun v10 h10 =>
 some (v10, h10))
noncomputable abbrev c30 : Code := cf Tryz.f30
noncomputable abbrev r30 : K := aU CF Tryz.f30
noncomputable def D30 (r : RT) (n : Nat) (c : Code) (X : Nat → K) (k : K) : K := aM CF r 19 n c X r30 k
theorem dPd : D30 r n c30 x0 r30 = (K2 (s30 r n) 0 1) :=
 (by kernel_rfl)
theorem bWs : aF CF r n 30 args h = s30 r n (aS args 0) (aS args 1) h :=
 (by kernel_rfl : aF CF r n 30 args h = D30 r n c30 x0 r30 (aH args) h).trans ((congrFun (congrFun (dPd r n) (aH args)) h).trans (by kernel_rfl))
noncomputable def s32 (r : RT) (n : Nat) (x0 x1 : DV) (h0 : Hp) : aJ :=
 bnd (r 67 [x0, x1] h0) fun v1 h1 =>
 bnd (gX .not v1 h1) fun v2 h2 =>
 aR v2 (
 some ((.i .i64 (Int.negSucc 0)), h2)) (
 bnd (r 51 [x0, x1, (aE 5)] h2) fun v3 h3 =>
 bnd (jL [v3] h3) fun v4 h4 =>
 some (v4, h4))
noncomputable abbrev c32 : Code := cf Tryz.f32
noncomputable abbrev r32 : K := aU CF Tryz.f32
noncomputable def D32 (r : RT) (n : Nat) (c : Code) (X : Nat → K) (k : K) : K := aM CF r 13 n c X r32 k
theorem dMq : D32 r n c32 x0 r32 = (K2 (s32 r n) 0 1) :=
 (by kernel_rfl)
theorem cPx : aF CF r n 32 args h = s32 r n (aS args 0) (aS args 1) h :=
 (by kernel_rfl : aF CF r n 32 args h = D32 r n c32 x0 r32 (aH args) h).trans ((congrFun (congrFun (dMq r n) (aH args)) h).trans (by kernel_rfl))
noncomputable def fY (r : RT) (n : Nat) (x7 : DV) (h0 : Hp) : aJ :=
 bnd (gJ x7 h0) fun v1 h1 =>
 some (.t [v1, (.b true)], h1)
noncomputable def aOs (r : RT) (n : Nat) (kk7 : cF) (x0 x1 x7 x48 x49 : DV) (h0 : Hp) : aJ :=
 bnd (aD .lss x49 x48 h0) fun v1 h1 =>
 aR v1 (
 bnd (r 51 [x0, x1, x49] h1) fun v2 h2 =>
 bnd (eA .u8 v2 h2) fun v3 h3 =>
 bnd (aL [(.i .u8 (Int.ofNat 0))] 1 [(0, 1, v3)] h3) fun v4 h4 =>
 bnd (bA 1 1 x7 v4 h4) fun v5 h5 =>
 bnd (aD .add x49 (aE 1) h5) fun v6 h6 =>
      kk7 x0 x1 v5 x48 v6 h6) (
      fY r n x7 h1)
noncomputable def aEx (r : RT) (n : Nat) (m : Nat) : cF :=
 Nat.rec (motive := fun _ => cF) (fun _ _ _ _ _ _ => none) (fun _ ih => aOs r n ih) m
noncomputable def cQb (r : RT) (n : Nat) : cF := aEx r n n
noncomputable def bHi (r : RT) (n : Nat) (x0 x1 x7 x48 x49 : DV) (h0 : Hp) : aJ :=
 cQb r n x0 x1 x7 x48 x49 h0
noncomputable def bXe (r : RT) (n : Nat) (x0 x1 x7 : DV) (h0 : Hp) : aJ :=
 bnd (aN x0 h0) fun v1 h1 =>
 bnd (aB 0 v1 h1) fun v2 h2 =>
 bnd (aA v2 h2) fun v3 h3 =>
 bnd (eI [v3, x1] h3) fun v4 h4 =>
  bHi r n x0 x1 x7 v4 (aE 0) h4
noncomputable def bMh (r : RT) (n : Nat) (x0 x1 : DV) (h0 : Hp) : aJ :=
 bXe r n x0 x1 .l0 h0
noncomputable def bYc (r : RT) (n : Nat) (x0 x1 x6 : DV) (h0 : Hp) : aJ :=
 bnd (aN x0 h0) fun v1 h1 =>
 bnd (aB 0 v1 h1) fun v2 h2 =>
 bnd (aA v2 h2) fun v3 h3 =>
 bnd (isF [v3, x1] h3) fun v4 h4 =>
 bnd (gX .not v4 h4) fun v5 h5 =>
 bnd (gD v5 false (some (x6, h5)) h5) fun v6 h6 =>
 bnd (gD v5 false (some (x0, h6)) h6) fun v7 h7 =>
 bnd (gD v5 false (r 30 [v7, (aE 10)] h7) h7) fun v8 h8 =>
 bnd (gD v5 false (aD .neq v6 v8 h8) h8) fun v9 h9 =>
 bnd (gD v5 false (some (v9, h9)) h9) fun v10 h10 =>
 bnd (gD v10 true (some (x6, h10)) h10) fun v11 h11 =>
 bnd (gD v10 true (some (x0, h11)) h11) fun v12 h12 =>
 bnd (gD v10 true (r 30 [v12, (aE 11)] h12) h12) fun v13 h13 =>
 bnd (gD v10 true (aD .neq v11 v13 h13) h13) fun v14 h14 =>
 bnd (gD v5 false (aP v10 v14 (.b false) h14) h14) fun v15 h15 =>
 bnd (aP v5 (.b true) v15 h15) fun v16 h16 =>
 bnd (gD v16 false (some (x0, h16)) h16) fun v17 h17 =>
 bnd (gD v16 false (aN v17 h17) h17) fun v18 h18 =>
 bnd (gD v16 false (aB 0 v18 h18) h18) fun v19 h19 =>
 bnd (gD v16 false (aA v19 h19) h19) fun v20 h20 =>
 bnd (gD v16 false (some (x1, h20)) h20) fun v21 h21 =>
 bnd (gD v16 false (jU [v20, v21] h21) h21) fun v22 h22 =>
 bnd (gD v16 false (aD .neq v22 (aE 2) h22) h22) fun v23 h23 =>
 bnd (aP v16 (.b true) v23 h23) fun v24 h24 =>
 aR v24 (
 some (.t [(.s []), (.b false)], h24)) (
  bMh r n x0 x1 h24)
noncomputable def bKo (r : RT) (n : Nat) (x0 x1 : DV) (h0 : Hp) : aJ :=
 bnd (aN x0 h0) fun v1 h1 =>
 bnd (aB 0 v1 h1) fun v2 h2 =>
 bnd (aA v2 h2) fun v3 h3 =>
 bnd (iM [v3, x1] h3) fun v4 h4 =>
  bYc r n x0 x1 v4 h4
noncomputable def s33 (r : RT) (n : Nat) (x0 x1 : DV) (h0 : Hp) : aJ :=
 bKo r n x0 x1 h0
noncomputable abbrev c33 : Code := cf Tryz.f33
noncomputable abbrev aVp : Code := cR c33
noncomputable abbrev aVe : Code := cR aVp
noncomputable abbrev bAj : Code := cR aVe
noncomputable abbrev aYs : Code := cR bAj
noncomputable abbrev dGa : Code := cR aYs
noncomputable abbrev aKv : Code := cL aYs
noncomputable abbrev bHk : Code := cR aKv
noncomputable abbrev aWm : Code := cL bHk
noncomputable abbrev sC : Code := cL aWm
noncomputable abbrev bMr : Code := cL aKv
noncomputable abbrev bIi : Code := cL bAj
noncomputable abbrev bVy : Code := cL aVe
noncomputable abbrev bRu : Code := cL aVp
noncomputable abbrev bUu : Code := cL c33
noncomputable abbrev r33 : K := aU CF Tryz.f33
noncomputable def D33 (r : RT) (n : Nat) (c : Code) (X : Nat → K) (k : K) : K := aM CF r 63 n c X r33 k
theorem cYq : D33 r n dGa x0 r33 = (K1 (fY r n) 7) :=
 (by kernel_rfl)
theorem cMn (kk7 : cF) (q0 : TT1) : D33 r n sC (xs x0 0 (K1 q0 7)) (K5 kk7 0 1 7 48 49) = fun (env : aZ) (h : Hp) =>
 bnd (aD .lss (env 49) (env 48) h) fun v1 h1 =>
 aR v1 (
 bnd (r 51 [(env 0), (env 1), (env 49)] h1) fun v2 h2 =>
 bnd (eA .u8 v2 h2) fun v3 h3 =>
 bnd (aL [(.i .u8 (Int.ofNat 0))] 1 [(0, 1, v3)] h3) fun v4 h4 =>
 bnd (bA 1 1 (env 7) v4 h4) fun v5 h5 =>
 bnd (aD .add (env 49) (aE 1) h5) fun v6 h6 =>
      kk7 (env 0) (env 1) v5 (env 48) v6 h6) (
      q0 (env 7) h1) := by kernel_rfl
theorem bNr (kk7 : cF) : (fun (env : aZ) (h : Hp) =>
 bnd (aD .lss (env 49) (env 48) h) fun v1 h1 =>
 aR v1 (
 bnd (r 51 [(env 0), (env 1), (env 49)] h1) fun v2 h2 =>
 bnd (eA .u8 v2 h2) fun v3 h3 =>
 bnd (aL [(.i .u8 (Int.ofNat 0))] 1 [(0, 1, v3)] h3) fun v4 h4 =>
 bnd (bA 1 1 (env 7) v4 h4) fun v5 h5 =>
 bnd (aD .add (env 49) (aE 1) h5) fun v6 h6 =>
      kk7 (env 0) (env 1) v5 (env 48) v6 h6) (
      fY r n (env 7) h1)) = (K5 (aOs r n kk7) 0 1 7 48 49) := by kernel_rfl
theorem cNd (kk7 : cF) : D33 r n sC (xs x0 0 (K1 (fY r n) 7)) (K5 kk7 0 1 7 48 49) = (K5 (aOs r n kk7) 0 1 7 48 49) :=
 (cMn r n kk7 (fY r n)).trans (bNr r n kk7)
theorem cEz (m : Nat) : aO (fun kk => D33 r n sC (xs x0 0 (K1 (fY r n) 7)) kk) m = (K5 (aEx r n m) 0 1 7 48 49) := by
 induction m with
 | zero => exact (by kernel_rfl : aO (fun kk => D33 r n sC (xs x0 0 (K1 (fY r n) 7)) kk) 0 = (K5 (aEx r n 0) 0 1 7 48 49))
 | succ m ih =>
  refine (by kernel_rfl : aO (fun kk => D33 r n sC (xs x0 0 (K1 (fY r n) 7)) kk) (m + 1) = D33 r n sC (xs x0 0 (K1 (fY r n) 7)) (aO (fun kk => D33 r n sC (xs x0 0 (K1 (fY r n) 7)) kk) m)).trans ?_
  rw [ih]
  exact (cNd r n (aEx r n m)).trans (by kernel_rfl)
theorem cTp : D33 r n aWm (xs x0 0 (K1 (fY r n) 7)) (K1 (fY r n) 7) = (K5 (cQb r n) 0 1 7 48 49) :=
 (by kernel_rfl : D33 r n aWm (xs x0 0 (K1 (fY r n) 7)) (K1 (fY r n) 7) = aO (fun kk => D33 r n sC (xs x0 0 (K1 (fY r n) 7)) kk) n).trans ((cEz r n n).trans (by kernel_rfl))
theorem cYv : D33 r n bHk x0 (K1 (fY r n) 7) = (K5 (bHi r n) 0 1 7 48 49) :=
 (by kernel_rfl : D33 r n bHk x0 (K1 (fY r n) 7) = D33 r n aWm (xs x0 0 (K1 (fY r n) 7)) (K1 (fY r n) 7)).trans
 ((cTp r n).trans (by kernel_rfl))
theorem cPq : D33 r n aYs x0 r33 = D33 r n aKv x0 (K1 (fY r n) 7) :=
 congrArg (fun k => D33 r n aKv x0 k) (cYq r n)
theorem cMd : D33 r n aKv x0 (K1 (fY r n) 7) = D33 r n bMr x0 (K5 (bHi r n) 0 1 7 48 49) :=
 congrArg (fun k => D33 r n bMr x0 k) (cYv r n)
theorem cSn : D33 r n aYs x0 r33 = (K3 (bXe r n) 0 1 7) :=
 (cPq r n).trans
 ((cMd r n).trans
 ((by kernel_rfl)))
theorem cEf : D33 r n bAj x0 r33 = D33 r n bIi x0 (K3 (bXe r n) 0 1 7) :=
 congrArg (fun k => D33 r n bIi x0 k) (cSn r n)
theorem dBk : D33 r n bAj x0 r33 = (K2 (bMh r n) 0 1) :=
 (cEf r n).trans
 ((by kernel_rfl))
theorem cEk : D33 r n aVe x0 r33 = D33 r n bVy x0 (K2 (bMh r n) 0 1) :=
 congrArg (fun k => D33 r n bVy x0 k) (dBk r n)
theorem cRm : D33 r n aVe x0 r33 = (K3 (bYc r n) 0 1 6) :=
 (cEk r n).trans
 ((by kernel_rfl))
theorem cLw : D33 r n aVp x0 r33 = D33 r n bRu x0 (K3 (bYc r n) 0 1 6) :=
 congrArg (fun k => D33 r n bRu x0 k) (cRm r n)
theorem cXx : D33 r n aVp x0 r33 = (K2 (bKo r n) 0 1) :=
 (cLw r n).trans
 ((by kernel_rfl))
theorem dIo : D33 r n c33 x0 r33 = D33 r n bUu x0 (K2 (bKo r n) 0 1) :=
 congrArg (fun k => D33 r n bUu x0 k) (cXx r n)
theorem dPv : D33 r n c33 x0 r33 = (K2 (s33 r n) 0 1) :=
 (dIo r n).trans
 ((by kernel_rfl))
theorem dEy : aF CF r n 33 args h = s33 r n (aS args 0) (aS args 1) h :=
 (by kernel_rfl : aF CF r n 33 args h = D33 r n c33 x0 r33 (aH args) h).trans ((congrFun (congrFun (dPv r n) (aH args)) h).trans (by kernel_rfl))
noncomputable def s34 (r : RT) (n : Nat) (x0 x1 : DV) (h0 : Hp) : aJ :=
 bnd (r 67 [x0, x1] h0) fun v1 h1 =>
 bnd (gX .not v1 h1) fun v2 h2 =>
 aR v2 (
 some ((.s []), h2)) (
 bnd (r 51 [x0, x1, (aE 0)] h2) fun v3 h3 =>
 bnd (r 33 [x0, v3] h3) fun v4 h4 =>
 bnd (aC 0 v4 h4) fun v5 h5 =>
 bnd (aC 1 v4 h5) fun v6 h6 =>
 some (v5, h6))
noncomputable abbrev c34 : Code := cf Tryz.f34
noncomputable abbrev r34 : K := aU CF Tryz.f34
noncomputable def D34 (r : RT) (n : Nat) (c : Code) (X : Nat → K) (k : K) : K := aM CF r 20 n c X r34 k
theorem dKy : D34 r n c34 x0 r34 = (K2 (s34 r n) 0 1) :=
 (by kernel_rfl)
theorem dGz : aF CF r n 34 args h = s34 r n (aS args 0) (aS args 1) h :=
 (by kernel_rfl : aF CF r n 34 args h = D34 r n c34 x0 r34 (aH args) h).trans ((congrFun (congrFun (dKy r n) (aH args)) h).trans (by kernel_rfl))
noncomputable def s35 (r : RT) (n : Nat) (x0 x1 : DV) (h0 : Hp) : aJ :=
 bnd (r 67 [x0, x1] h0) fun v1 h1 =>
 bnd (gX .not v1 h1) fun v2 h2 =>
 aR v2 (
 some ((aE 0), h2)) (
 bnd (r 51 [x0, x1, (aE 1)] h2) fun v3 h3 =>
 some (v3, h3))
noncomputable abbrev c35 : Code := cf Tryz.f35
noncomputable abbrev r35 : K := aU CF Tryz.f35
noncomputable def D35 (r : RT) (n : Nat) (c : Code) (X : Nat → K) (k : K) : K := aM CF r 12 n c X r35 k
theorem dLy : D35 r n c35 x0 r35 = (K2 (s35 r n) 0 1) :=
 (by kernel_rfl)
theorem dJz : aF CF r n 35 args h = s35 r n (aS args 0) (aS args 1) h :=
 (by kernel_rfl : aF CF r n 35 args h = D35 r n c35 x0 r35 (aH args) h).trans ((congrFun (congrFun (dLy r n) (aH args)) h).trans (by kernel_rfl))
noncomputable def s36 (r : RT) (n : Nat) (x0 : DV) (h0 : Hp) : aJ :=
 bnd (aN x0 h0) fun v1 h1 =>
 bnd (aB 2 v1 h1) fun v2 h2 =>
 bnd (aA v2 h2) fun v3 h3 =>
 some (v3, h3)
noncomputable abbrev c36 : Code := cf Tryz.f36
noncomputable abbrev r36 : K := aU CF Tryz.f36
noncomputable def D36 (r : RT) (n : Nat) (c : Code) (X : Nat → K) (k : K) : K := aM CF r 7 n c X r36 k
theorem dLg : D36 r n c36 x0 r36 = (K1 (s36 r n) 0) :=
 (by kernel_rfl)
theorem dIn : aF CF r n 36 args h = s36 r n (aS args 0) h :=
 (by kernel_rfl : aF CF r n 36 args h = D36 r n c36 x0 r36 (aH args) h).trans ((congrFun (congrFun (dLg r n) (aH args)) h).trans (by kernel_rfl))
end Go.Dd

namespace Go.Dd
open Go.Proofs
variable (r : RT) (n : Nat) (args : List DV) (h : Hp)
noncomputable def s37 (r : RT) (n : Nat) (x0 x1 : DV) (h0 : Hp) : aJ :=
 bnd (r 67 [x0, x1] h0) fun v1 h1 =>
 bnd (gX .not v1 h1) fun v2 h2 =>
 aR v2 (
 some ((aE 0), h2)) (
 bnd (r 51 [x0, x1, (aE 2)] h2) fun v3 h3 =>
 bnd (jL [v3] h3) fun v4 h4 =>
 some (v4, h4))
noncomputable abbrev c37 : Code := cf Tryz.f37
noncomputable abbrev r37 : K := aU CF Tryz.f37
noncomputable def D37 (r : RT) (n : Nat) (c : Code) (X : Nat → K) (k : K) : K := aM CF r 13 n c X r37 k
theorem dMu : D37 r n c37 x0 r37 = (K2 (s37 r n) 0 1) :=
 (by kernel_rfl)
theorem dIu : aF CF r n 37 args h = s37 r n (aS args 0) (aS args 1) h :=
 (by kernel_rfl : aF CF r n 37 args h = D37 r n c37 x0 r37 (aH args) h).trans ((congrFun (congrFun (dMu r n) (aH args)) h).trans (by kernel_rfl))
noncomputable def cQ (r : RT) (n : Nat) (h0 : Hp) : aJ :=
 some ((.i .i64 (Int.negSucc 0)), h0)
noncomputable def aMy (r : RT) (n : Nat) (x24 : DV) (h0 : Hp) : aJ :=
 aR x24 (
 some ((aE 2), h0)) (
  cQ r n h0)
noncomputable def bWr (r : RT) (n : Nat) (x3 : DV) (h0 : Hp) : aJ :=
 bnd (aD .eql x3 (aE 21) h0) fun v1 h1 =>
 aR v1 (
  aMy r n v1 h1) (
 bnd (aD .eql x3 (aE 51) h1) fun v2 h2 =>
  aMy r n v2 h2)
noncomputable def iP (r : RT) (n : Nat) (x3 x10 : DV) (h0 : Hp) : aJ :=
 aR x10 (
 some ((aE 1), h0)) (
  bWr r n x3 h0)
noncomputable def cAv (r : RT) (n : Nat) (x3 : DV) (h0 : Hp) : aJ :=
 bnd (aD .eql x3 (aE 1) h0) fun v1 h1 =>
 aR v1 (
  iP r n x3 v1 h1) (
 bnd (aD .eql x3 (aE 2) h1) fun v2 h2 =>
 aR v2 (
   iP r n x3 v2 h2) (
 bnd (aD .eql x3 (aE 3) h2) fun v3 h3 =>
 aR v3 (
    iP r n x3 v3 h3) (
 bnd (aD .eql x3 (aE 4) h3) fun v4 h4 =>
 aR v4 (
     iP r n x3 v4 h4) (
 bnd (aD .eql x3 (aE 5) h4) fun v5 h5 =>
 aR v5 (
      iP r n x3 v5 h5) (
 bnd (aD .eql x3 (aE 6) h5) fun v6 h6 =>
 aR v6 (
       iP r n x3 v6 h6) (
 bnd (aD .eql x3 (aE 7) h6) fun v7 h7 =>
 aR v7 (
        iP r n x3 v7 h7) (
 bnd (aD .eql x3 (aE 10) h7) fun v8 h8 =>
 aR v8 (
         iP r n x3 v8 h8) (
 bnd (aD .eql x3 (aE 20) h8) fun v9 h9 =>
 aR v9 (
          iP r n x3 v9 h9) (
 bnd (aD .eql x3 (aE 24) h9) fun v10 h10 =>
 aR v10 (
           iP r n x3 v10 h10) (
 bnd (aD .eql x3 (aE 25) h10) fun v11 h11 =>
 aR v11 (
            iP r n x3 v11 h11) (
 bnd (aD .eql x3 (aE 26) h11) fun v12 h12 =>
 aR v12 (
             iP r n x3 v12 h12) (
 bnd (aD .eql x3 (aE 50) h12) fun v13 h13 =>
             iP r n x3 v13 h13))))))))))))
noncomputable def sD (r : RT) (n : Nat) (x3 x4 : DV) (h0 : Hp) : aJ :=
 aR x4 (
 some ((aE 0), h0)) (
  cAv r n x3 h0)
noncomputable def bAw (r : RT) (n : Nat) (x3 : DV) (h0 : Hp) : aJ :=
 bnd (aD .eql x3 (aE 11) h0) fun v1 h1 =>
 aR v1 (
  sD r n x3 v1 h1) (
 bnd (aD .eql x3 (aE 22) h1) fun v2 h2 =>
 aR v2 (
   sD r n x3 v2 h2) (
 bnd (aD .eql x3 (aE 23) h2) fun v3 h3 =>
 aR v3 (
    sD r n x3 v3 h3) (
 bnd (aD .eql x3 (aE 40) h3) fun v4 h4 =>
 aR v4 (
     sD r n x3 v4 h4) (
 bnd (aD .eql x3 (aE 41) h4) fun v5 h5 =>
     sD r n x3 v5 h5))))
noncomputable def aYy (r : RT) (n : Nat) (x0 : DV) (h0 : Hp) : aJ :=
 bAw r n x0 h0
noncomputable def s39 (r : RT) (n : Nat) (x0 : DV) (h0 : Hp) : aJ :=
 aYy r n x0 h0
noncomputable abbrev c39 : Code := cf Tryz.f39
noncomputable abbrev aYa : Code := cR c39
noncomputable abbrev dEl : Code := cR aYa
noncomputable abbrev aMj : Code := cL aYa
noncomputable abbrev bIp : Code := cR aMj
noncomputable abbrev aWw : Code := cL bIp
noncomputable abbrev aLt : Code := cR aWw
noncomputable abbrev aLe : Code := cR aLt
noncomputable abbrev aMa : Code := cR aLe
noncomputable abbrev aLh : Code := cR aMa
noncomputable abbrev cUw : Code := cR aLh
noncomputable abbrev bIs : Code := cL aLh
noncomputable abbrev dBp : Code := cL aMa
noncomputable abbrev bNa : Code := cL aLe
noncomputable abbrev cZq : Code := cL aLt
noncomputable abbrev bPz : Code := cL aWw
noncomputable abbrev bMp : Code := cL aMj
noncomputable abbrev bIy : Code := cL c39
noncomputable abbrev r39 : K := aU CF Tryz.f39
noncomputable def D39 (r : RT) (n : Nat) (c : Code) (X : Nat → K) (k : K) : K := aM CF r 27 n c X r39 k
theorem cXr : D39 r n dEl x0 r39 = (K0 (cQ r n)) :=
 (by kernel_rfl)
theorem dCr : D39 r n cUw (xs x0 0 (K0 (cQ r n))) (K0 (cQ r n)) = (K1 (aMy r n) 24) :=
 (by kernel_rfl)
theorem cGl : D39 r n aLh (xs x0 0 (K0 (cQ r n))) (K0 (cQ r n)) = D39 r n bIs (xs x0 0 (K0 (cQ r n))) (K1 (aMy r n) 24) :=
 congrArg (fun k => D39 r n bIs (xs x0 0 (K0 (cQ r n))) k) (dCr r n)
theorem cVt : D39 r n aLh (xs x0 0 (K0 (cQ r n))) (K0 (cQ r n)) = (K1 (bWr r n) 3) :=
 (cGl r n).trans
 ((by kernel_rfl))
theorem cVg : D39 r n aMa (xs x0 0 (K0 (cQ r n))) (K0 (cQ r n)) = (K2 (iP r n) 3 10) :=
 (by kernel_rfl : D39 r n aMa (xs x0 0 (K0 (cQ r n))) (K0 (cQ r n)) = (fun (env : aZ) (h : Hp) => aR (opr env (cC aMa)) (D39 r n dBp (xs x0 0 (K0 (cQ r n))) (K0 (cQ r n)) env h) (D39 r n aLh (xs x0 0 (K0 (cQ r n))) (K0 (cQ r n)) env h))).trans (by rw [cVt r n]; kernel_rfl)
theorem cDb : D39 r n aLe (xs x0 0 (K0 (cQ r n))) (K0 (cQ r n)) = D39 r n bNa (xs x0 0 (K0 (cQ r n))) (K2 (iP r n) 3 10) :=
 congrArg (fun k => D39 r n bNa (xs x0 0 (K0 (cQ r n))) k) (cVg r n)
theorem cXm : D39 r n aLe (xs x0 0 (K0 (cQ r n))) (K0 (cQ r n)) = (K1 (cAv r n) 3) :=
 (cDb r n).trans
 ((by kernel_rfl))
theorem cWo : D39 r n aLt (xs x0 0 (K0 (cQ r n))) (K0 (cQ r n)) = (K2 (sD r n) 3 4) :=
 (by kernel_rfl : D39 r n aLt (xs x0 0 (K0 (cQ r n))) (K0 (cQ r n)) = (fun (env : aZ) (h : Hp) => aR (opr env (cC aLt)) (D39 r n cZq (xs x0 0 (K0 (cQ r n))) (K0 (cQ r n)) env h) (D39 r n aLe (xs x0 0 (K0 (cQ r n))) (K0 (cQ r n)) env h))).trans (by rw [cXm r n]; kernel_rfl)
theorem cHd : D39 r n aWw (xs x0 0 (K0 (cQ r n))) (K0 (cQ r n)) = D39 r n bPz (xs x0 0 (K0 (cQ r n))) (K2 (sD r n) 3 4) :=
 congrArg (fun k => D39 r n bPz (xs x0 0 (K0 (cQ r n))) k) (cWo r n)
theorem cTl : D39 r n bIp x0 (K0 (cQ r n)) = (K1 (bAw r n) 3) :=
 (by kernel_rfl : D39 r n bIp x0 (K0 (cQ r n)) = D39 r n aWw (xs x0 0 (K0 (cQ r n))) (K0 (cQ r n))).trans
 ((cHd r n).trans
 ((by kernel_rfl)))
theorem cMi : D39 r n aYa x0 r39 = D39 r n aMj x0 (K0 (cQ r n)) :=
 congrArg (fun k => D39 r n aMj x0 k) (cXr r n)
theorem cHi : D39 r n aMj x0 (K0 (cQ r n)) = D39 r n bMp x0 (K1 (bAw r n) 3) :=
 congrArg (fun k => D39 r n bMp x0 k) (cTl r n)
theorem dBr : D39 r n aYa x0 r39 = (K1 (aYy r n) 0) :=
 (cMi r n).trans
 ((cHi r n).trans
 ((by kernel_rfl)))
theorem dHi : D39 r n c39 x0 r39 = D39 r n bIy x0 (K1 (aYy r n) 0) :=
 congrArg (fun k => D39 r n bIy x0 k) (dBr r n)
theorem dLe : D39 r n c39 x0 r39 = (K1 (s39 r n) 0) :=
 (dHi r n).trans
 ((by kernel_rfl))
theorem cPt : aF CF r n 39 args h = s39 r n (aS args 0) h :=
 (by kernel_rfl : aF CF r n 39 args h = D39 r n c39 x0 r39 (aH args) h).trans ((congrFun (congrFun (dLe r n) (aH args)) h).trans (by kernel_rfl))
noncomputable def eW (r : RT) (n : Nat) (x5 : DV) (h0 : Hp) : aJ :=
 some (.t [x5, (aE 0)], h0)
noncomputable def kC (r : RT) (n : Nat) (kk9 : dL) (x5 x155 x156 x157 : DV) (h0 : Hp) : aJ :=
 bnd (aD .lss x157 x156 h0) fun v1 h1 =>
 aR v1 (
 bnd (aI 1 x155 x157 h1) fun v2 h2 =>
 bnd (aA v2 h2) fun v3 h3 =>
 bnd (aI 1 v3 (aE 0) h3) fun v4 h4 =>
 bnd (aA v4 h4) fun v5 h5 =>
 bnd (aI 1 v3 (aE 1) h5) fun v6 h6 =>
 bnd (aA v6 h6) fun v7 h7 =>
 bnd (r 75 [x5, v5, v7] h7) fun v8 h8 =>
 bnd (aC 0 v8 h8) fun v9 h9 =>
 bnd (aC 1 v8 h9) fun v10 h10 =>
 bnd (aC 2 v8 h10) fun v11 h11 =>
 bnd (aC 3 v8 h11) fun v12 h12 =>
 bnd (aD .neq v12 (aE 0) h12) fun v13 h13 =>
 aR v13 (
 some (.t [.p0, v12], h13)) (
 bnd (aD .add x157 (aE 1) h13) fun v14 h14 =>
    kk9 x5 x155 x156 v14 h14)) (
      eW r n x5 h1)
noncomputable def jY (r : RT) (n : Nat) (m : Nat) : dL :=
 Nat.rec (motive := fun _ => dL) (fun _ _ _ _ _ => none) (fun _ ih => kC r n ih) m
noncomputable def bBp (r : RT) (n : Nat) : dL := jY r n n
noncomputable def bYk (r : RT) (n : Nat) (x5 x155 x156 x157 : DV) (h0 : Hp) : aJ :=
 bBp r n x5 x155 x156 x157 h0
noncomputable def bF (r : RT) (n : Nat) (x5 : DV) (h0 : Hp) : aJ :=
 bnd (r 74 [] h0) fun v1 h1 =>
 bnd (bZ v1 h1) fun v2 h2 =>
  bYk r n x5 v1 v2 (aE 0) h2
noncomputable def aY (r : RT) (n : Nat) (kk11 : cF) (x4 x5 x59 x60 x61 : DV) (h0 : Hp) : aJ :=
 bnd (aD .add x61 (aE 1) h0) fun v1 h1 =>
  kk11 x4 x5 x59 x60 v1 h1
noncomputable def eP (r : RT) (n : Nat) (kk11 : cF) (x4 x5 x8 x9 x59 x60 x61 : DV) (h0 : Hp) : aJ :=
 bnd (aN x5 h0) fun v1 h1 =>
 bnd (aB 1 v1 h1) fun v2 h2 =>
 bnd (aA v2 h2) fun v3 h3 =>
 bnd (aN x5 h3) fun v4 h4 =>
 bnd (aB 1 v4 h4) fun v5 h5 =>
 bnd (aA v5 h5) fun v6 h6 =>
 bnd (aI 1 v6 (aE 1) h6) fun v7 h7 =>
 bnd (aA v7 h7) fun v8 h8 =>
 bnd (r 73 [x5, x9, v8] h8) fun v9 h9 =>
 cnd (bG (aA v2 h9) v3 && true) (
 bnd (aC 0 v9 h9) fun v10 h10 =>
 bnd (aC 1 v9 h10) fun v11 h11 =>
 bnd (aI 1 v3 (aE 1) h11) fun v12 h12 =>
 bnd (aG 1 v12 v10 h12) fun v13 h13 =>
 bnd (aN x5 h13) fun v14 h14 =>
 bnd (aB 3 v14 h14) fun v15 h15 =>
 bnd (aA v15 h15) fun v16 h16 =>
 bnd (aB 0 x8 h16) fun v17 h17 =>
 bnd (aA v17 h17) fun v18 h18 =>
 bnd (gA .string v16 v18 x9 h18) fun v19 h19 =>
  aY r n kk11 x4 x5 x59 x60 x61 h19)
noncomputable def aYu (r : RT) (n : Nat) (kk11 : cF) (kk25 : aNr) (x4 x5 x8 x9 x59 x60 x61 x117 x118 x119 : DV) (h0 : Hp) : aJ :=
 bnd (aD .lss x119 x118 h0) fun v1 h1 =>
 aR v1 (
 bnd (aI 1 x117 x119 h1) fun v2 h2 =>
 bnd (aA v2 h2) fun v3 h3 =>
 bnd (qF [x4, x9, x119, v3] h3) fun v4 h4 =>
 bnd (aD .add x119 (aE 1) h4) fun v5 h5 =>
      kk25 x4 x5 x8 x9 x59 x60 x61 x117 x118 v5 h5) (
      eP r n kk11 x4 x5 x8 x9 x59 x60 x61 h1)
noncomputable def uL (r : RT) (n : Nat) (kk11 : cF) (m : Nat) : aNr :=
 Nat.rec (motive := fun _ => aNr) (fun _ _ _ _ _ _ _ _ _ _ _ => none) (fun _ ih => aYu r n kk11 ih) m
noncomputable def bTl (r : RT) (n : Nat) (kk11 : cF) : aNr := uL r n kk11 n
noncomputable def yI (r : RT) (n : Nat) (kk11 : cF) (x4 x5 x8 x9 x59 x60 x61 x117 x118 x119 : DV) (h0 : Hp) : aJ :=
 bTl r n kk11 x4 x5 x8 x9 x59 x60 x61 x117 x118 x119 h0
noncomputable def aBr (r : RT) (n : Nat) (kk11 : cF) (x4 x5 x8 x9 x10 x12 x13 x19 x59 x60 x61 : DV) (h0 : Hp) : aJ :=
 bnd (r 71 [x13] (resv 1 h0)) fun v1 h1 =>
 bnd (aB 2 x8 h1) fun v2 h2 =>
 bnd (aA v2 h2) fun v3 h3 =>
 cnd (bG (aA v2 (resv 1 h0)) v3 && true) (
 bnd (r 71 [v3] h3) fun v4 h4 =>
 bnd (bK (bW 0 h0.next) [(aE 0), (aE 0), (aE 0), (aE 0), (aE 0), (aE 0)] 6 [(0, 1, x10), (1, 1, x12), (2, 1, v1), (3, 1, x19), (4, 1, (aE 0)), (5, 1, v4)] h4) fun v5 h5 =>
 bnd (bZ v5 h5) fun v6 h6 =>
  yI r n kk11 x4 x5 x8 x9 x59 x60 x61 v5 v6 (aE 0) h6)
noncomputable def nQ (r : RT) (n : Nat) (kk11 : cF) (x4 x5 x8 x9 x10 x12 x13 x14 x59 x60 x61 : DV) (h0 : Hp) : aJ :=
 bnd (r 46 [x5, x14] h0) fun v1 h1 =>
 bnd (aC 0 v1 h1) fun v2 h2 =>
 bnd (aC 1 v1 h2) fun v3 h3 =>
  aBr r n kk11 x4 x5 x8 x9 x10 x12 x13 v2 x59 x60 x61 h3
noncomputable def xV (r : RT) (n : Nat) (kk11 : cF) (x4 x5 x7 x8 x9 x10 x12 x13 x14 x59 x60 x61 : DV) (h0 : Hp) : aJ :=
 bnd (aD .eql x7 (aE 15) h0) fun v1 h1 =>
 aR v1 (
 bnd (r 44 [x5, (.s [115, 101, 108, 101, 99, 116, 111, 114])] h1) fun v2 h2 =>
 bnd (aC 0 v2 h2) fun v3 h3 =>
 bnd (aC 1 v2 h3) fun v4 h4 =>
 bnd (r 44 [x5, (.s [97, 114, 103, 117, 109, 101, 110, 116, 115])] h4) fun v5 h5 =>
 bnd (aC 0 v5 h5) fun v6 h6 =>
 bnd (aC 1 v5 h6) fun v7 h7 =>
 bnd (aL [(aE 0), (aE 0)] 2 [(0, 1, v3), (1, 1, v6)] h7) fun v8 h8 =>
  nQ r n kk11 x4 x5 x8 x9 x10 x12 (aE 2) v8 x59 x60 x61 h8) (
  nQ r n kk11 x4 x5 x8 x9 x10 x12 x13 x14 x59 x60 x61 h1)
noncomputable def aQy (r : RT) (n : Nat) (kk11 : cF) (x4 x5 x7 x8 x9 x10 x12 x13 x14 x59 x60 x61 : DV) (h0 : Hp) : aJ :=
 bnd (aB 1 x8 h0) fun v1 h1 =>
 bnd (aA v1 h1) fun v2 h2 =>
 bnd (aD .geq v2 (aE 0) h2) fun v3 h3 =>
 aR v3 (
 bnd (aB 1 x8 h3) fun v4 h4 =>
 bnd (aA v4 h4) fun v5 h5 =>
 bnd (r 30 [x5, v5] h5) fun v6 h6 =>
  xV r n kk11 x4 x5 x7 x8 x9 x10 v6 x13 x14 x59 x60 x61 h6) (
  xV r n kk11 x4 x5 x7 x8 x9 x10 x12 x13 x14 x59 x60 x61 h3)
noncomputable def aRc (r : RT) (n : Nat) (kk11 : cF) (x4 x5 x7 x8 x9 x10 x59 x60 x61 : DV) (h0 : Hp) : aJ :=
 aQy r n kk11 x4 x5 x7 x8 x9 x10 (aE 0) (aE 0) .l0 x59 x60 x61 h0
noncomputable def aTz (r : RT) (n : Nat) (kk11 : cF) (x4 x5 x7 x8 x9 x59 x60 x61 : DV) (h0 : Hp) : aJ :=
 bnd (aB 0 x8 h0) fun v1 h1 =>
 bnd (aA v1 h1) fun v2 h2 =>
 bnd (r 44 [x5, v2] h2) fun v3 h3 =>
 bnd (aC 0 v3 h3) fun v4 h4 =>
 bnd (aC 1 v3 h4) fun v5 h5 =>
  aRc r n kk11 x4 x5 x7 x8 x9 v4 x59 x60 x61 h5
noncomputable def aSn (r : RT) (n : Nat) (kk11 : cF) (x4 x5 x7 x8 x9 x59 x60 x61 : DV) (h0 : Hp) : aJ :=
 bnd (r 30 [x5, (aE 1)] h0) fun v1 h1 =>
 bnd (kR [x4, x9, v1] h1) fun v2 h2 =>
  aTz r n kk11 x4 x5 x7 x8 x9 x59 x60 x61 h2
noncomputable def zJ (r : RT) (n : Nat) (kk11 : cF) (x4 x5 x7 x8 x59 x60 x61 : DV) (h0 : Hp) : aJ :=
 bnd (r 30 [x5, x7] h0) fun v1 h1 =>
  aSn r n kk11 x4 x5 x7 x8 v1 x59 x60 x61 h1
noncomputable def aDe (r : RT) (n : Nat) (kk11 : cF) (x4 x5 x59 x60 x61 : DV) (h0 : Hp) : aJ :=
 bnd (aI 3 x59 x61 h0) fun v1 h1 =>
 bnd (aK 3 v1 h1) fun v2 h2 =>
 bnd (bM [(.s []), (aE 0), (aE 0)] h2) fun v3 h3 =>
 bnd (aG 3 v3 v2 h3) fun _ h4 =>
  zJ r n kk11 x4 x5 x61 v3 x59 x60 x61 h4
noncomputable def aTx (r : RT) (n : Nat) (kk11 : cF) (x4 x5 x59 x60 x61 x62 : DV) (h0 : Hp) : aJ :=
 aR x62 (
  aDe r n kk11 x4 x5 x59 x60 x61 h0) (
  bF r n x5 h0)
noncomputable def bAc (r : RT) (n : Nat) (kk11 : cF) (x4 x5 x59 x60 x61 : DV) (h0 : Hp) : aJ :=
 bnd (aD .lss x61 x60 h0) fun v1 h1 =>
  aTx r n kk11 x4 x5 x59 x60 x61 v1 h1
noncomputable def tW (r : RT) (n : Nat) (m : Nat) : cF :=
 Nat.rec (motive := fun _ => cF) (fun _ _ _ _ _ _ => none) (fun _ ih => bAc r n ih) m
noncomputable def bIu (r : RT) (n : Nat) : cF := tW r n n
noncomputable def aTr (r : RT) (n : Nat) (x4 x5 x59 x60 x61 : DV) (h0 : Hp) : aJ :=
 bIu r n x4 x5 x59 x60 x61 h0
noncomputable def gU (r : RT) (n : Nat) (x4 x5 : DV) (h0 : Hp) : aJ :=
 bnd (r 69 [] h0) fun v1 h1 =>
 bnd (bZ v1 h1) fun v2 h2 =>
  aTr r n x4 x5 v1 v2 (aE 0) h2
noncomputable def aVr (r : RT) (n : Nat) (kk27 : mW) (x4 x5 x43 : DV) (h0 : Hp) : aJ :=
 bnd (aD .lss x43 (aE 16) h0) fun v1 h1 =>
 aR v1 (
 bnd (aN x5 h1) fun v2 h2 =>
 bnd (aB 1 v2 h2) fun v3 h3 =>
 bnd (aA v3 h3) fun v4 h4 =>
 bnd (aD .add (aE 2) x43 h4) fun v5 h5 =>
 bnd (iS [x4, (aE 0), (aE 0), (aE 6)] h5) fun v6 h6 =>
 cnd (bG (aA v3 h6) v4 && true) (
 bnd (aC 0 v6 h6) fun v7 h7 =>
 bnd (aC 1 v6 h7) fun v8 h8 =>
 bnd (aI 1 v4 v5 h8) fun v9 h9 =>
 bnd (aG 1 v9 v7 h9) fun v10 h10 =>
 bnd (aD .add x43 (aE 1) h10) fun v11 h11 =>
      kk27 x4 x5 v11 h11)) (
      gU r n x4 x5 h1)
noncomputable def uY (r : RT) (n : Nat) (m : Nat) : mW :=
 Nat.rec (motive := fun _ => mW) (fun _ _ _ _ => none) (fun _ ih => aVr r n ih) m
noncomputable def bVf (r : RT) (n : Nat) : mW := uY r n n
noncomputable def aUd (r : RT) (n : Nat) (x4 x5 x43 : DV) (h0 : Hp) : aJ :=
 bVf r n x4 x5 x43 h0
noncomputable def aLx (r : RT) (n : Nat) (x4 x5 : DV) (h0 : Hp) : aJ :=
 aUd r n x4 x5 (aE 0) h0
noncomputable def aVy (r : RT) (n : Nat) (x4 : DV) (h0 : Hp) : aJ :=
 bnd (cK 1 8 [(aE 0)] (aE 18) (aE 18) h0) fun v1 h1 =>
 bnd (dW h1) fun v2 h2 =>
 bnd (dW h2) fun v3 h3 =>
 bnd (bB [.p0, .l0, .m0, .m0] [(0, 1, x4), (1, 1, v1), (2, 1, v2), (3, 1, v3)] h3) fun v4 h4 =>
 bnd (bS v4 h4) fun v5 h5 =>
  aLx r n x4 v5 h5
noncomputable def bIm (r : RT) (n : Nat) (x0 x4 : DV) (h0 : Hp) : aJ :=
 bnd (pEq (.pointer 73) true x4 .p0 h0) fun v1 h1 =>
 aR v1 (
 some (.t [.p0, (aE 1)], h1)) (
 bnd (aD .lss x0 (aE 16384) h1) fun v2 h2 =>
 aR v2 (
 some (.t [.p0, (aE 4)], h2)) (
   aVy r n x4 h2))
noncomputable def cAs (r : RT) (n : Nat) (x0 : DV) (h0 : Hp) : aJ :=
 bnd (aSr [x0] h0) fun v1 h1 =>
  bIm r n x0 v1 h1
noncomputable def s40 (r : RT) (n : Nat) (x0 : DV) (h0 : Hp) : aJ :=
 cAs r n x0 h0
noncomputable abbrev c40 : Code := cf Tryz.f40
noncomputable abbrev aWy : Code := cR c40
noncomputable abbrev aVw : Code := cR aWy
noncomputable abbrev aZx : Code := cR aVw
noncomputable abbrev bAh : Code := cR aZx
noncomputable abbrev bBl : Code := cR bAh
noncomputable abbrev aXj : Code := cR bBl
noncomputable abbrev dDw : Code := cR aXj
noncomputable abbrev aMb : Code := cL aXj
noncomputable abbrev bMs : Code := cR aMb
noncomputable abbrev aBi : Code := cL bMs
noncomputable abbrev oN : Code := cL aBi
noncomputable abbrev bQb : Code := cL aMb
noncomputable abbrev yA : Code := cL bBl
noncomputable abbrev aPb : Code := cR yA
noncomputable abbrev aJp : Code := cL aPb
noncomputable abbrev kB : Code := cL aJp
noncomputable abbrev aGs : Code := cR kB
noncomputable abbrev aDb : Code := cR aGs
noncomputable abbrev cXe : Code := cR aDb
noncomputable abbrev aGo : Code := cL aDb
noncomputable abbrev aDj : Code := cL aGo
noncomputable abbrev aBa : Code := cR aDj
noncomputable abbrev aCk : Code := cR aBa
noncomputable abbrev aGl : Code := cR aCk
noncomputable abbrev aCp : Code := cR aGl
noncomputable abbrev aJn : Code := cR aCp
noncomputable abbrev aHj : Code := cR aJn
noncomputable abbrev aJt : Code := cR aHj
noncomputable abbrev aBk : Code := cR aJt
noncomputable abbrev dCs : Code := cR aBk
noncomputable abbrev wF : Code := cL aBk
noncomputable abbrev aSd : Code := cR wF
noncomputable abbrev aGq : Code := cL aSd
noncomputable abbrev oQ : Code := cL aGq
noncomputable abbrev aUo : Code := cL wF
noncomputable abbrev bWh : Code := cL aJt
noncomputable abbrev aRr : Code := cL aHj
noncomputable abbrev bLk : Code := cL aJn
noncomputable abbrev bSl : Code := cL aCp
noncomputable abbrev bPy : Code := cL aGl
noncomputable abbrev bIz : Code := cL aCk
noncomputable abbrev bXx : Code := cL aBa
noncomputable abbrev aRh : Code := cL aDj
noncomputable abbrev bUk : Code := cL aGs
noncomputable abbrev bJf : Code := cL kB
noncomputable abbrev bQc : Code := cL yA
noncomputable abbrev vP : Code := cL bAh
noncomputable abbrev aNq : Code := cR vP
noncomputable abbrev aEc : Code := cL aNq
noncomputable abbrev nT : Code := cL aEc
noncomputable abbrev bMj : Code := cL vP
noncomputable abbrev aOi : Code := cL aZx
noncomputable abbrev bRj : Code := cL aVw
noncomputable abbrev bLb : Code := cL aWy
noncomputable abbrev bVz : Code := cL c40
noncomputable abbrev r40 : K := aU CF Tryz.f40
noncomputable def D40 (r : RT) (n : Nat) (c : Code) (X : Nat → K) (k : K) : K := aM CF r 179 n c X r40 k
theorem bZq : D40 r n dDw x0 r40 = (K1 (eW r n) 5) :=
 (by kernel_rfl)
theorem aXn (kk9 : dL) : D40 r n oN (xs x0 7 (K1 (eW r n) 5)) (K4 kk9 5 155 156 157) = (K4 (kC r n kk9) 5 155 156 157) :=
 (by kernel_rfl)
theorem cKa (m : Nat) : aO (fun kk => D40 r n oN (xs x0 7 (K1 (eW r n) 5)) kk) m = (K4 (jY r n m) 5 155 156 157) := by
 induction m with
 | zero => exact (by kernel_rfl : aO (fun kk => D40 r n oN (xs x0 7 (K1 (eW r n) 5)) kk) 0 = (K4 (jY r n 0) 5 155 156 157))
 | succ m ih =>
  refine (by kernel_rfl : aO (fun kk => D40 r n oN (xs x0 7 (K1 (eW r n) 5)) kk) (m + 1) = D40 r n oN (xs x0 7 (K1 (eW r n) 5)) (aO (fun kk => D40 r n oN (xs x0 7 (K1 (eW r n) 5)) kk) m)).trans ?_
  rw [ih]
  exact (aXn r n (jY r n m)).trans (by kernel_rfl)
theorem bJj : D40 r n aBi (xs x0 7 (K1 (eW r n) 5)) (K1 (eW r n) 5) = (K4 (bBp r n) 5 155 156 157) :=
 (by kernel_rfl : D40 r n aBi (xs x0 7 (K1 (eW r n) 5)) (K1 (eW r n) 5) = aO (fun kk => D40 r n oN (xs x0 7 (K1 (eW r n) 5)) kk) n).trans ((cKa r n n).trans (by kernel_rfl))
theorem cUn : D40 r n bMs x0 (K1 (eW r n) 5) = (K4 (bYk r n) 5 155 156 157) :=
 (by kernel_rfl : D40 r n bMs x0 (K1 (eW r n) 5) = D40 r n aBi (xs x0 7 (K1 (eW r n) 5)) (K1 (eW r n) 5)).trans
 ((bJj r n).trans (by kernel_rfl))
theorem cDu : D40 r n aXj x0 r40 = D40 r n aMb x0 (K1 (eW r n) 5) :=
 congrArg (fun k => D40 r n aMb x0 k) (bZq r n)
theorem cIw : D40 r n aMb x0 (K1 (eW r n) 5) = D40 r n bQb x0 (K4 (bYk r n) 5 155 156 157) :=
 congrArg (fun k => D40 r n bQb x0 k) (cUn r n)
theorem cVx : D40 r n aXj x0 r40 = (K1 (bF r n) 5) :=
 (cDu r n).trans
 ((cIw r n).trans
 ((by kernel_rfl)))
theorem cHl (kk11 : cF) : D40 r n cXe (xs x0 3 (K1 (bF r n) 5)) (K5 kk11 4 5 59 60 61) = (K5 (aY r n kk11) 4 5 59 60 61) :=
 (by kernel_rfl)
theorem cIz (kk11 : cF) : D40 r n dCs (xs (xs x0 3 (K1 (bF r n) 5)) 4 (K5 (aY r n kk11) 4 5 59 60 61)) (K5 (aY r n kk11) 4 5 59 60 61) = (K7 (eP r n kk11) 4 5 8 9 59 60 61) :=
 (by kernel_rfl)
theorem bOw (kk11 : cF) (kk25 : aNr) : D40 r n oQ (xs (xs (xs x0 3 (K1 (bF r n) 5)) 4 (K5 (aY r n kk11) 4 5 59 60 61)) 5 (K7 (eP r n kk11) 4 5 8 9 59 60 61)) (K10 kk25 4 5 8 9 59 60 61 117 118 119) = (K10 (aYu r n kk11 kk25) 4 5 8 9 59 60 61 117 118 119) :=
 (by kernel_rfl)
theorem bXv (kk11 : cF) (m : Nat) : aO (fun kk => D40 r n oQ (xs (xs (xs x0 3 (K1 (bF r n) 5)) 4 (K5 (aY r n kk11) 4 5 59 60 61)) 5 (K7 (eP r n kk11) 4 5 8 9 59 60 61)) kk) m = (K10 (uL r n kk11 m) 4 5 8 9 59 60 61 117 118 119) := by
 induction m with
 | zero => exact (by kernel_rfl : aO (fun kk => D40 r n oQ (xs (xs (xs x0 3 (K1 (bF r n) 5)) 4 (K5 (aY r n kk11) 4 5 59 60 61)) 5 (K7 (eP r n kk11) 4 5 8 9 59 60 61)) kk) 0 = (K10 (uL r n kk11 0) 4 5 8 9 59 60 61 117 118 119))
 | succ m ih =>
  refine (by kernel_rfl : aO (fun kk => D40 r n oQ (xs (xs (xs x0 3 (K1 (bF r n) 5)) 4 (K5 (aY r n kk11) 4 5 59 60 61)) 5 (K7 (eP r n kk11) 4 5 8 9 59 60 61)) kk) (m + 1) = D40 r n oQ (xs (xs (xs x0 3 (K1 (bF r n) 5)) 4 (K5 (aY r n kk11) 4 5 59 60 61)) 5 (K7 (eP r n kk11) 4 5 8 9 59 60 61)) (aO (fun kk => D40 r n oQ (xs (xs (xs x0 3 (K1 (bF r n) 5)) 4 (K5 (aY r n kk11) 4 5 59 60 61)) 5 (K7 (eP r n kk11) 4 5 8 9 59 60 61)) kk) m)).trans ?_
  rw [ih]
  exact (bOw r n kk11 (uL r n kk11 m)).trans (by kernel_rfl)
theorem cNz (kk11 : cF) : D40 r n aGq (xs (xs (xs x0 3 (K1 (bF r n) 5)) 4 (K5 (aY r n kk11) 4 5 59 60 61)) 5 (K7 (eP r n kk11) 4 5 8 9 59 60 61)) (K7 (eP r n kk11) 4 5 8 9 59 60 61) = (K10 (bTl r n kk11) 4 5 8 9 59 60 61 117 118 119) :=
 (by kernel_rfl : D40 r n aGq (xs (xs (xs x0 3 (K1 (bF r n) 5)) 4 (K5 (aY r n kk11) 4 5 59 60 61)) 5 (K7 (eP r n kk11) 4 5 8 9 59 60 61)) (K7 (eP r n kk11) 4 5 8 9 59 60 61) = aO (fun kk => D40 r n oQ (xs (xs (xs x0 3 (K1 (bF r n) 5)) 4 (K5 (aY r n kk11) 4 5 59 60 61)) 5 (K7 (eP r n kk11) 4 5 8 9 59 60 61)) kk) n).trans ((bXv r n kk11 n).trans (by kernel_rfl))
theorem cHr (kk11 : cF) : D40 r n aSd (xs (xs x0 3 (K1 (bF r n) 5)) 4 (K5 (aY r n kk11) 4 5 59 60 61)) (K7 (eP r n kk11) 4 5 8 9 59 60 61) = (K10 (yI r n kk11) 4 5 8 9 59 60 61 117 118 119) :=
 (by kernel_rfl : D40 r n aSd (xs (xs x0 3 (K1 (bF r n) 5)) 4 (K5 (aY r n kk11) 4 5 59 60 61)) (K7 (eP r n kk11) 4 5 8 9 59 60 61) = D40 r n aGq (xs (xs (xs x0 3 (K1 (bF r n) 5)) 4 (K5 (aY r n kk11) 4 5 59 60 61)) 5 (K7 (eP r n kk11) 4 5 8 9 59 60 61)) (K7 (eP r n kk11) 4 5 8 9 59 60 61)).trans
 ((cNz r n kk11).trans (by kernel_rfl))
theorem bSo (kk11 : cF) : D40 r n aBk (xs (xs x0 3 (K1 (bF r n) 5)) 4 (K5 (aY r n kk11) 4 5 59 60 61)) (K5 (aY r n kk11) 4 5 59 60 61) = D40 r n wF (xs (xs x0 3 (K1 (bF r n) 5)) 4 (K5 (aY r n kk11) 4 5 59 60 61)) (K7 (eP r n kk11) 4 5 8 9 59 60 61) :=
 congrArg (fun k => D40 r n wF (xs (xs x0 3 (K1 (bF r n) 5)) 4 (K5 (aY r n kk11) 4 5 59 60 61)) k) (cIz r n kk11)
theorem bLq (kk11 : cF) : D40 r n wF (xs (xs x0 3 (K1 (bF r n) 5)) 4 (K5 (aY r n kk11) 4 5 59 60 61)) (K7 (eP r n kk11) 4 5 8 9 59 60 61) = D40 r n aUo (xs (xs x0 3 (K1 (bF r n) 5)) 4 (K5 (aY r n kk11) 4 5 59 60 61)) (K10 (yI r n kk11) 4 5 8 9 59 60 61 117 118 119) :=
 congrArg (fun k => D40 r n aUo (xs (xs x0 3 (K1 (bF r n) 5)) 4 (K5 (aY r n kk11) 4 5 59 60 61)) k) (cHr r n kk11)
theorem bGu (kk11 : cF) (q0 : aNr) (q1 : TT1) (q2 : cF) : D40 r n aUo (xs (xs x0 3 (K1 q1 5)) 4 (K5 q2 4 5 59 60 61)) (K10 q0 4 5 8 9 59 60 61 117 118 119) = fun (env : aZ) (h : Hp) =>
 bnd (r 71 [(env 13)] (resv 1 h)) fun v1 h1 =>
 bnd (aB 2 (env 8) h1) fun v2 h2 =>
 bnd (aA v2 h2) fun v3 h3 =>
 cnd (bG (aA v2 (resv 1 h)) v3 && true) (
 bnd (r 71 [v3] h3) fun v4 h4 =>
 bnd (bK (bW 0 h.next) [(aE 0), (aE 0), (aE 0), (aE 0), (aE 0), (aE 0)] 6 [(0, 1, (env 10)), (1, 1, (env 12)), (2, 1, v1), (3, 1, (env 19)), (4, 1, (aE 0)), (5, 1, v4)] h4) fun v5 h5 =>
 bnd (bZ v5 h5) fun v6 h6 =>
  q0 (env 4) (env 5) (env 8) (env 9) (env 59) (env 60) (env 61) v5 v6 (aE 0) h6) := by kernel_rfl
theorem bEx (kk11 : cF) : (fun (env : aZ) (h : Hp) =>
 bnd (r 71 [(env 13)] (resv 1 h)) fun v1 h1 =>
 bnd (aB 2 (env 8) h1) fun v2 h2 =>
 bnd (aA v2 h2) fun v3 h3 =>
 cnd (bG (aA v2 (resv 1 h)) v3 && true) (
 bnd (r 71 [v3] h3) fun v4 h4 =>
 bnd (bK (bW 0 h.next) [(aE 0), (aE 0), (aE 0), (aE 0), (aE 0), (aE 0)] 6 [(0, 1, (env 10)), (1, 1, (env 12)), (2, 1, v1), (3, 1, (env 19)), (4, 1, (aE 0)), (5, 1, v4)] h4) fun v5 h5 =>
 bnd (bZ v5 h5) fun v6 h6 =>
  yI r n kk11 (env 4) (env 5) (env 8) (env 9) (env 59) (env 60) (env 61) v5 v6 (aE 0) h6)) = (K11 (aBr r n kk11) 4 5 8 9 10 12 13 19 59 60 61) := by kernel_rfl
theorem cKc (kk11 : cF) : D40 r n aBk (xs (xs x0 3 (K1 (bF r n) 5)) 4 (K5 (aY r n kk11) 4 5 59 60 61)) (K5 (aY r n kk11) 4 5 59 60 61) = (K11 (aBr r n kk11) 4 5 8 9 10 12 13 19 59 60 61) :=
 (bSo r n kk11).trans
 ((bLq r n kk11).trans
 ((bGu r n kk11 (yI r n kk11) (bF r n) (aY r n kk11)).trans (bEx r n kk11)))
theorem cAq (kk11 : cF) : D40 r n aJt (xs (xs x0 3 (K1 (bF r n) 5)) 4 (K5 (aY r n kk11) 4 5 59 60 61)) (K5 (aY r n kk11) 4 5 59 60 61) = D40 r n bWh (xs (xs x0 3 (K1 (bF r n) 5)) 4 (K5 (aY r n kk11) 4 5 59 60 61)) (K11 (aBr r n kk11) 4 5 8 9 10 12 13 19 59 60 61) :=
 congrArg (fun k => D40 r n bWh (xs (xs x0 3 (K1 (bF r n) 5)) 4 (K5 (aY r n kk11) 4 5 59 60 61)) k) (cKc r n kk11)
theorem cCc (kk11 : cF) : D40 r n aJt (xs (xs x0 3 (K1 (bF r n) 5)) 4 (K5 (aY r n kk11) 4 5 59 60 61)) (K5 (aY r n kk11) 4 5 59 60 61) = (K11 (nQ r n kk11) 4 5 8 9 10 12 13 14 59 60 61) :=
 (cAq r n kk11).trans
 ((by kernel_rfl))
theorem bXk (kk11 : cF) : D40 r n aHj (xs (xs x0 3 (K1 (bF r n) 5)) 4 (K5 (aY r n kk11) 4 5 59 60 61)) (K5 (aY r n kk11) 4 5 59 60 61) = D40 r n aRr (xs (xs x0 3 (K1 (bF r n) 5)) 4 (K5 (aY r n kk11) 4 5 59 60 61)) (K11 (nQ r n kk11) 4 5 8 9 10 12 13 14 59 60 61) :=
 congrArg (fun k => D40 r n aRr (xs (xs x0 3 (K1 (bF r n) 5)) 4 (K5 (aY r n kk11) 4 5 59 60 61)) k) (cCc r n kk11)
theorem bQd (kk11 : cF) (q0 : dFy) (q1 : TT1) (q2 : cF) : D40 r n aRr (xs (xs x0 3 (K1 q1 5)) 4 (K5 q2 4 5 59 60 61)) (K11 q0 4 5 8 9 10 12 13 14 59 60 61) = fun (env : aZ) (h : Hp) =>
 bnd (aD .eql (env 7) (aE 15) h) fun v1 h1 =>
 aR v1 (
 bnd (r 44 [(env 5), (.s [115, 101, 108, 101, 99, 116, 111, 114])] h1) fun v2 h2 =>
 bnd (aC 0 v2 h2) fun v3 h3 =>
 bnd (aC 1 v2 h3) fun v4 h4 =>
 bnd (r 44 [(env 5), (.s [97, 114, 103, 117, 109, 101, 110, 116, 115])] h4) fun v5 h5 =>
 bnd (aC 0 v5 h5) fun v6 h6 =>
 bnd (aC 1 v5 h6) fun v7 h7 =>
 bnd (aL [(aE 0), (aE 0)] 2 [(0, 1, v3), (1, 1, v6)] h7) fun v8 h8 =>
      q0 (env 4) (env 5) (env 8) (env 9) (env 10) (env 12) (aE 2) v8 (env 59) (env 60) (env 61) h8) (
      q0 (env 4) (env 5) (env 8) (env 9) (env 10) (env 12) (env 13) (env 14) (env 59) (env 60) (env 61) h1) := by kernel_rfl
theorem bFu (kk11 : cF) : (fun (env : aZ) (h : Hp) =>
 bnd (aD .eql (env 7) (aE 15) h) fun v1 h1 =>
 aR v1 (
 bnd (r 44 [(env 5), (.s [115, 101, 108, 101, 99, 116, 111, 114])] h1) fun v2 h2 =>
 bnd (aC 0 v2 h2) fun v3 h3 =>
 bnd (aC 1 v2 h3) fun v4 h4 =>
 bnd (r 44 [(env 5), (.s [97, 114, 103, 117, 109, 101, 110, 116, 115])] h4) fun v5 h5 =>
 bnd (aC 0 v5 h5) fun v6 h6 =>
 bnd (aC 1 v5 h6) fun v7 h7 =>
 bnd (aL [(aE 0), (aE 0)] 2 [(0, 1, v3), (1, 1, v6)] h7) fun v8 h8 =>
      nQ r n kk11 (env 4) (env 5) (env 8) (env 9) (env 10) (env 12) (aE 2) v8 (env 59) (env 60) (env 61) h8) (
      nQ r n kk11 (env 4) (env 5) (env 8) (env 9) (env 10) (env 12) (env 13) (env 14) (env 59) (env 60) (env 61) h1)) = (K12 (xV r n kk11) 4 5 7 8 9 10 12 13 14 59 60 61) := by kernel_rfl
theorem cJq (kk11 : cF) : D40 r n aHj (xs (xs x0 3 (K1 (bF r n) 5)) 4 (K5 (aY r n kk11) 4 5 59 60 61)) (K5 (aY r n kk11) 4 5 59 60 61) = (K12 (xV r n kk11) 4 5 7 8 9 10 12 13 14 59 60 61) :=
 (bXk r n kk11).trans
 ((bQd r n kk11 (nQ r n kk11) (bF r n) (aY r n kk11)).trans (bFu r n kk11))
theorem bNx (kk11 : cF) : D40 r n aJn (xs (xs x0 3 (K1 (bF r n) 5)) 4 (K5 (aY r n kk11) 4 5 59 60 61)) (K5 (aY r n kk11) 4 5 59 60 61) = D40 r n bLk (xs (xs x0 3 (K1 (bF r n) 5)) 4 (K5 (aY r n kk11) 4 5 59 60 61)) (K12 (xV r n kk11) 4 5 7 8 9 10 12 13 14 59 60 61) :=
 congrArg (fun k => D40 r n bLk (xs (xs x0 3 (K1 (bF r n) 5)) 4 (K5 (aY r n kk11) 4 5 59 60 61)) k) (cJq r n kk11)
theorem cNj (kk11 : cF) : D40 r n aJn (xs (xs x0 3 (K1 (bF r n) 5)) 4 (K5 (aY r n kk11) 4 5 59 60 61)) (K5 (aY r n kk11) 4 5 59 60 61) = (K12 (aQy r n kk11) 4 5 7 8 9 10 12 13 14 59 60 61) :=
 (bNx r n kk11).trans
 ((by kernel_rfl))
theorem bCv (kk11 : cF) : D40 r n aCp (xs (xs x0 3 (K1 (bF r n) 5)) 4 (K5 (aY r n kk11) 4 5 59 60 61)) (K5 (aY r n kk11) 4 5 59 60 61) = D40 r n bSl (xs (xs x0 3 (K1 (bF r n) 5)) 4 (K5 (aY r n kk11) 4 5 59 60 61)) (K12 (aQy r n kk11) 4 5 7 8 9 10 12 13 14 59 60 61) :=
 congrArg (fun k => D40 r n bSl (xs (xs x0 3 (K1 (bF r n) 5)) 4 (K5 (aY r n kk11) 4 5 59 60 61)) k) (cNj r n kk11)
theorem cMk (kk11 : cF) : D40 r n aCp (xs (xs x0 3 (K1 (bF r n) 5)) 4 (K5 (aY r n kk11) 4 5 59 60 61)) (K5 (aY r n kk11) 4 5 59 60 61) = (K9 (aRc r n kk11) 4 5 7 8 9 10 59 60 61) :=
 (bCv r n kk11).trans
 ((by kernel_rfl))
theorem bFl (kk11 : cF) : D40 r n aGl (xs (xs x0 3 (K1 (bF r n) 5)) 4 (K5 (aY r n kk11) 4 5 59 60 61)) (K5 (aY r n kk11) 4 5 59 60 61) = D40 r n bPy (xs (xs x0 3 (K1 (bF r n) 5)) 4 (K5 (aY r n kk11) 4 5 59 60 61)) (K9 (aRc r n kk11) 4 5 7 8 9 10 59 60 61) :=
 congrArg (fun k => D40 r n bPy (xs (xs x0 3 (K1 (bF r n) 5)) 4 (K5 (aY r n kk11) 4 5 59 60 61)) k) (cMk r n kk11)
theorem cMp (kk11 : cF) : D40 r n aGl (xs (xs x0 3 (K1 (bF r n) 5)) 4 (K5 (aY r n kk11) 4 5 59 60 61)) (K5 (aY r n kk11) 4 5 59 60 61) = (K8 (aTz r n kk11) 4 5 7 8 9 59 60 61) :=
 (bFl r n kk11).trans
 ((by kernel_rfl))
theorem bEy (kk11 : cF) : D40 r n aCk (xs (xs x0 3 (K1 (bF r n) 5)) 4 (K5 (aY r n kk11) 4 5 59 60 61)) (K5 (aY r n kk11) 4 5 59 60 61) = D40 r n bIz (xs (xs x0 3 (K1 (bF r n) 5)) 4 (K5 (aY r n kk11) 4 5 59 60 61)) (K8 (aTz r n kk11) 4 5 7 8 9 59 60 61) :=
 congrArg (fun k => D40 r n bIz (xs (xs x0 3 (K1 (bF r n) 5)) 4 (K5 (aY r n kk11) 4 5 59 60 61)) k) (cMp r n kk11)
theorem cKz (kk11 : cF) : D40 r n aCk (xs (xs x0 3 (K1 (bF r n) 5)) 4 (K5 (aY r n kk11) 4 5 59 60 61)) (K5 (aY r n kk11) 4 5 59 60 61) = (K8 (aSn r n kk11) 4 5 7 8 9 59 60 61) :=
 (bEy r n kk11).trans
 ((by kernel_rfl))
theorem bDv (kk11 : cF) : D40 r n aBa (xs (xs x0 3 (K1 (bF r n) 5)) 4 (K5 (aY r n kk11) 4 5 59 60 61)) (K5 (aY r n kk11) 4 5 59 60 61) = D40 r n bXx (xs (xs x0 3 (K1 (bF r n) 5)) 4 (K5 (aY r n kk11) 4 5 59 60 61)) (K8 (aSn r n kk11) 4 5 7 8 9 59 60 61) :=
 congrArg (fun k => D40 r n bXx (xs (xs x0 3 (K1 (bF r n) 5)) 4 (K5 (aY r n kk11) 4 5 59 60 61)) k) (cKz r n kk11)
theorem cMv (kk11 : cF) : D40 r n aBa (xs (xs x0 3 (K1 (bF r n) 5)) 4 (K5 (aY r n kk11) 4 5 59 60 61)) (K5 (aY r n kk11) 4 5 59 60 61) = (K7 (zJ r n kk11) 4 5 7 8 59 60 61) :=
 (bDv r n kk11).trans
 ((by kernel_rfl))
theorem bDb (kk11 : cF) : D40 r n aDb (xs x0 3 (K1 (bF r n) 5)) (K5 kk11 4 5 59 60 61) = D40 r n aGo (xs x0 3 (K1 (bF r n) 5)) (K5 (aY r n kk11) 4 5 59 60 61) :=
 congrArg (fun k => D40 r n aGo (xs x0 3 (K1 (bF r n) 5)) k) (cHl r n kk11)
theorem bDa (kk11 : cF) : D40 r n aDj (xs (xs x0 3 (K1 (bF r n) 5)) 4 (K5 (aY r n kk11) 4 5 59 60 61)) (K5 (aY r n kk11) 4 5 59 60 61) = D40 r n aRh (xs (xs x0 3 (K1 (bF r n) 5)) 4 (K5 (aY r n kk11) 4 5 59 60 61)) (K7 (zJ r n kk11) 4 5 7 8 59 60 61) :=
 congrArg (fun k => D40 r n aRh (xs (xs x0 3 (K1 (bF r n) 5)) 4 (K5 (aY r n kk11) 4 5 59 60 61)) k) (cMv r n kk11)
theorem bFs (kk11 : cF) (q0 : TT7) (q1 : TT1) (q2 : cF) : D40 r n aRh (xs (xs x0 3 (K1 q1 5)) 4 (K5 q2 4 5 59 60 61)) (K7 q0 4 5 7 8 59 60 61) = fun (env : aZ) (h : Hp) =>
 bnd (aI 3 (env 59) (env 61) h) fun v1 h1 =>
 bnd (aK 3 v1 h1) fun v2 h2 =>
 bnd (bM [(.s []), (aE 0), (aE 0)] h2) fun v3 h3 =>
 bnd (aG 3 v3 v2 h3) fun _ h4 =>
  q0 (env 4) (env 5) (env 61) v3 (env 59) (env 60) (env 61) h4 := by kernel_rfl
theorem aTn (kk11 : cF) : (fun (env : aZ) (h : Hp) =>
 bnd (aI 3 (env 59) (env 61) h) fun v1 h1 =>
 bnd (aK 3 v1 h1) fun v2 h2 =>
 bnd (bM [(.s []), (aE 0), (aE 0)] h2) fun v3 h3 =>
 bnd (aG 3 v3 v2 h3) fun _ h4 =>
  zJ r n kk11 (env 4) (env 5) (env 61) v3 (env 59) (env 60) (env 61) h4) = (K5 (aDe r n kk11) 4 5 59 60 61) := by kernel_rfl
theorem cNo (kk11 : cF) : D40 r n aDb (xs x0 3 (K1 (bF r n) 5)) (K5 kk11 4 5 59 60 61) = (K5 (aDe r n kk11) 4 5 59 60 61) :=
 (bDb r n kk11).trans
 ((by kernel_rfl : D40 r n aGo (xs x0 3 (K1 (bF r n) 5)) (K5 (aY r n kk11) 4 5 59 60 61) = D40 r n aDj (xs (xs x0 3 (K1 (bF r n) 5)) 4 (K5 (aY r n kk11) 4 5 59 60 61)) (K5 (aY r n kk11) 4 5 59 60 61)).trans
 ((bDa r n kk11).trans
 ((bFs r n kk11 (zJ r n kk11) (bF r n) (aY r n kk11)).trans (aTn r n kk11))))
theorem bEi (kk11 : cF) : D40 r n aGs (xs x0 3 (K1 (bF r n) 5)) (K5 kk11 4 5 59 60 61) = D40 r n bUk (xs x0 3 (K1 (bF r n) 5)) (K5 (aDe r n kk11) 4 5 59 60 61) :=
 congrArg (fun k => D40 r n bUk (xs x0 3 (K1 (bF r n) 5)) k) (cNo r n kk11)
theorem cEy (kk11 : cF) : D40 r n aGs (xs x0 3 (K1 (bF r n) 5)) (K5 kk11 4 5 59 60 61) = (K6 (aTx r n kk11) 4 5 59 60 61 62) :=
 (bEi r n kk11).trans
 ((by kernel_rfl))
theorem bCi (kk11 : cF) : D40 r n kB (xs x0 3 (K1 (bF r n) 5)) (K5 kk11 4 5 59 60 61) = D40 r n bJf (xs x0 3 (K1 (bF r n) 5)) (K6 (aTx r n kk11) 4 5 59 60 61 62) :=
 congrArg (fun k => D40 r n bJf (xs x0 3 (K1 (bF r n) 5)) k) (cEy r n kk11)
theorem bSh (kk11 : cF) : D40 r n kB (xs x0 3 (K1 (bF r n) 5)) (K5 kk11 4 5 59 60 61) = (K5 (bAc r n kk11) 4 5 59 60 61) :=
 (bCi r n kk11).trans
 ((by kernel_rfl))
theorem bVu (m : Nat) : aO (fun kk => D40 r n kB (xs x0 3 (K1 (bF r n) 5)) kk) m = (K5 (tW r n m) 4 5 59 60 61) := by
 induction m with
 | zero => exact (by kernel_rfl : aO (fun kk => D40 r n kB (xs x0 3 (K1 (bF r n) 5)) kk) 0 = (K5 (tW r n 0) 4 5 59 60 61))
 | succ m ih =>
  refine (by kernel_rfl : aO (fun kk => D40 r n kB (xs x0 3 (K1 (bF r n) 5)) kk) (m + 1) = D40 r n kB (xs x0 3 (K1 (bF r n) 5)) (aO (fun kk => D40 r n kB (xs x0 3 (K1 (bF r n) 5)) kk) m)).trans ?_
  rw [ih]
  exact (bSh r n (tW r n m)).trans (by kernel_rfl)
theorem cGc : D40 r n aJp (xs x0 3 (K1 (bF r n) 5)) (K1 (bF r n) 5) = (K5 (bIu r n) 4 5 59 60 61) :=
 (by kernel_rfl : D40 r n aJp (xs x0 3 (K1 (bF r n) 5)) (K1 (bF r n) 5) = aO (fun kk => D40 r n kB (xs x0 3 (K1 (bF r n) 5)) kk) n).trans ((bVu r n n).trans (by kernel_rfl))
theorem cHj : D40 r n aPb x0 (K1 (bF r n) 5) = (K5 (aTr r n) 4 5 59 60 61) :=
 (by kernel_rfl : D40 r n aPb x0 (K1 (bF r n) 5) = D40 r n aJp (xs x0 3 (K1 (bF r n) 5)) (K1 (bF r n) 5)).trans
 ((cGc r n).trans (by kernel_rfl))
theorem bNe : D40 r n bBl x0 r40 = D40 r n yA x0 (K1 (bF r n) 5) :=
 congrArg (fun k => D40 r n yA x0 k) (cVx r n)
theorem bOd : D40 r n yA x0 (K1 (bF r n) 5) = D40 r n bQc x0 (K5 (aTr r n) 4 5 59 60 61) :=
 congrArg (fun k => D40 r n bQc x0 k) (cHj r n)
theorem cWr : D40 r n bBl x0 r40 = (K2 (gU r n) 4 5) :=
 (bNe r n).trans
 ((bOd r n).trans
 ((by kernel_rfl)))
theorem bSx (kk27 : mW) : D40 r n nT (xs x0 1 (K2 (gU r n) 4 5)) (K3 kk27 4 5 43) = (K3 (aVr r n kk27) 4 5 43) :=
 (by kernel_rfl)
theorem bTh (m : Nat) : aO (fun kk => D40 r n nT (xs x0 1 (K2 (gU r n) 4 5)) kk) m = (K3 (uY r n m) 4 5 43) := by
 induction m with
 | zero => exact (by kernel_rfl : aO (fun kk => D40 r n nT (xs x0 1 (K2 (gU r n) 4 5)) kk) 0 = (K3 (uY r n 0) 4 5 43))
 | succ m ih =>
  refine (by kernel_rfl : aO (fun kk => D40 r n nT (xs x0 1 (K2 (gU r n) 4 5)) kk) (m + 1) = D40 r n nT (xs x0 1 (K2 (gU r n) 4 5)) (aO (fun kk => D40 r n nT (xs x0 1 (K2 (gU r n) 4 5)) kk) m)).trans ?_
  rw [ih]
  exact (bSx r n (uY r n m)).trans (by kernel_rfl)
theorem cBs : D40 r n aEc (xs x0 1 (K2 (gU r n) 4 5)) (K2 (gU r n) 4 5) = (K3 (bVf r n) 4 5 43) :=
 (by kernel_rfl : D40 r n aEc (xs x0 1 (K2 (gU r n) 4 5)) (K2 (gU r n) 4 5) = aO (fun kk => D40 r n nT (xs x0 1 (K2 (gU r n) 4 5)) kk) n).trans ((bTh r n n).trans (by kernel_rfl))
theorem cDp : D40 r n aNq x0 (K2 (gU r n) 4 5) = (K3 (aUd r n) 4 5 43) :=
 (by kernel_rfl : D40 r n aNq x0 (K2 (gU r n) 4 5) = D40 r n aEc (xs x0 1 (K2 (gU r n) 4 5)) (K2 (gU r n) 4 5)).trans
 ((cBs r n).trans (by kernel_rfl))
theorem bHq : D40 r n bAh x0 r40 = D40 r n vP x0 (K2 (gU r n) 4 5) :=
 congrArg (fun k => D40 r n vP x0 k) (cWr r n)
theorem bRg : D40 r n vP x0 (K2 (gU r n) 4 5) = D40 r n bMj x0 (K3 (aUd r n) 4 5 43) :=
 congrArg (fun k => D40 r n bMj x0 k) (cDp r n)
theorem cYs : D40 r n bAh x0 r40 = (K2 (aLx r n) 4 5) :=
 (bHq r n).trans
 ((bRg r n).trans
 ((by kernel_rfl)))
theorem bVo : D40 r n aZx x0 r40 = D40 r n aOi x0 (K2 (aLx r n) 4 5) :=
 congrArg (fun k => D40 r n aOi x0 k) (cYs r n)
theorem bOt (q0 : oU) : D40 r n aOi x0 (K2 q0 4 5) = fun (env : aZ) (h : Hp) =>
 bnd (cK 1 8 [(aE 0)] (aE 18) (aE 18) h) fun v1 h1 =>
 bnd (dW h1) fun v2 h2 =>
 bnd (dW h2) fun v3 h3 =>
 bnd (bB [.p0, .l0, .m0, .m0] [(0, 1, (env 4)), (1, 1, v1), (2, 1, v2), (3, 1, v3)] h3) fun v4 h4 =>
 bnd (bS v4 h4) fun v5 h5 =>
  q0 (env 4) v5 h5 := by kernel_rfl
theorem bFx : (fun (env : aZ) (h : Hp) =>
 bnd (cK 1 8 [(aE 0)] (aE 18) (aE 18) h) fun v1 h1 =>
 bnd (dW h1) fun v2 h2 =>
 bnd (dW h2) fun v3 h3 =>
 bnd (bB [.p0, .l0, .m0, .m0] [(0, 1, (env 4)), (1, 1, v1), (2, 1, v2), (3, 1, v3)] h3) fun v4 h4 =>
 bnd (bS v4 h4) fun v5 h5 =>
  aLx r n (env 4) v5 h5) = (K1 (aVy r n) 4) := by kernel_rfl
theorem cZr : D40 r n aZx x0 r40 = (K1 (aVy r n) 4) :=
 (bVo r n).trans
 ((bOt r n (aLx r n)).trans (bFx r n))
theorem bTg : D40 r n aVw x0 r40 = D40 r n bRj x0 (K1 (aVy r n) 4) :=
 congrArg (fun k => D40 r n bRj x0 k) (cZr r n)
theorem cYo : D40 r n aVw x0 r40 = (K2 (bIm r n) 0 4) :=
 (bTg r n).trans
 ((by kernel_rfl))
theorem bJa : D40 r n aWy x0 r40 = D40 r n bLb x0 (K2 (bIm r n) 0 4) :=
 congrArg (fun k => D40 r n bLb x0 k) (cYo r n)
theorem cUk : D40 r n aWy x0 r40 = (K1 (cAs r n) 0) :=
 (bJa r n).trans
 ((by kernel_rfl))
theorem cZo : D40 r n c40 x0 r40 = D40 r n bVz x0 (K1 (cAs r n) 0) :=
 congrArg (fun k => D40 r n bVz x0 k) (cUk r n)
theorem dLv : D40 r n c40 x0 r40 = (K1 (s40 r n) 0) :=
 (cZo r n).trans
 ((by kernel_rfl))
theorem dHb : aF CF r n 40 args h = s40 r n (aS args 0) h :=
 (by kernel_rfl : aF CF r n 40 args h = D40 r n c40 x0 r40 (aH args) h).trans ((congrFun (congrFun (dLv r n) (aH args)) h).trans (by kernel_rfl))
noncomputable def s42 (r : RT) (n : Nat) (x0 x1 : DV) (h0 : Hp) : aJ :=
 bnd (aD .lss x1 (.i .i64 (Int.negSucc 1152921504606846975)) h0) fun v1 h1 =>
 bnd (gD v1 false (some (x1, h1)) h1) fun v2 h2 =>
 bnd (gD v1 false (aD .gtr v2 (aE 1152921504606846976) h2) h2) fun v3 h3 =>
 bnd (aP v1 (.b true) v3 h3) fun v4 h4 =>
 aR v4 (
 some (.t [(aE 0), (aE 2)], h4)) (
 bnd (gW [x1] h4) fun v5 h5 =>
 bnd (aC 0 v5 h5) fun v6 h6 =>
 bnd (aC 1 v5 h6) fun v7 h7 =>
 aR v7 (
 some (.t [v6, (aE 0)], h7)) (
 bnd (r 30 [x0, (aE 8)] h7) fun v8 h8 =>
 bnd (aL [(aE 0)] 1 [(0, 1, x1)] h8) fun v9 h9 =>
 bnd (r 82 [x0, v8, (aE 1), v9] h9) fun v10 h10 =>
 bnd (aC 0 v10 h10) fun v11 h11 =>
 bnd (aC 1 v10 h11) fun v12 h12 =>
 some (.t [v11, v12], h12)))
noncomputable abbrev c42 : Code := cf Tryz.f42
noncomputable abbrev r42 : K := aU CF Tryz.f42
noncomputable def D42 (r : RT) (n : Nat) (c : Code) (X : Nat → K) (k : K) : K := aM CF r 29 n c X r42 k
theorem dLq : D42 r n c42 x0 r42 = (K2 (s42 r n) 0 1) :=
 (by kernel_rfl)
theorem cQw : aF CF r n 42 args h = s42 r n (aS args 0) (aS args 1) h :=
 (by kernel_rfl : aF CF r n 42 args h = D42 r n c42 x0 r42 (aH args) h).trans ((congrFun (congrFun (dLq r n) (aH args)) h).trans (by kernel_rfl))
noncomputable def s43 (r : RT) (n : Nat) (x0 x1 : DV) (h0 : Hp) : aJ :=
 bnd (dU x1 h0) fun v1 h1 =>
 bnd (aD .gtr v1 (aE 250) h1) fun v2 h2 =>
 aR v2 (
 some (.t [(aE 0), (aE 1)], h2)) (
 bnd (r 30 [x0, (aE 10)] h2) fun v3 h3 =>
 bnd (r 83 [x0, v3, x1] h3) fun v4 h4 =>
 bnd (aC 0 v4 h4) fun v5 h5 =>
 bnd (aC 1 v4 h5) fun v6 h6 =>
 some (.t [v5, v6], h6))
noncomputable abbrev c43 : Code := cf Tryz.f43
noncomputable abbrev r43 : K := aU CF Tryz.f43
noncomputable def D43 (r : RT) (n : Nat) (c : Code) (X : Nat → K) (k : K) : K := aM CF r 16 n c X r43 k
theorem dOp : D43 r n c43 x0 r43 = (K2 (s43 r n) 0 1) :=
 (by kernel_rfl)
theorem cRa : aF CF r n 43 args h = s43 r n (aS args 0) (aS args 1) h :=
 (by kernel_rfl : aF CF r n 43 args h = D43 r n c43 x0 r43 (aH args) h).trans ((congrFun (congrFun (dOp r n) (aH args)) h).trans (by kernel_rfl))
noncomputable def s44 (r : RT) (n : Nat) (x0 x1 : DV) (h0 : Hp) : aJ :=
 bnd (dU x1 h0) fun v1 h1 =>
 bnd (aD .lss v1 (aE 1) h1) fun v2 h2 =>
 bnd (gD v2 false (some (x1, h2)) h2) fun v3 h3 =>
 bnd (gD v2 false (dU v3 h3) h3) fun v4 h4 =>
 bnd (gD v2 false (aD .gtr v4 (aE 60) h4) h4) fun v5 h5 =>
 bnd (aP v2 (.b true) v5 h5) fun v6 h6 =>
 aR v6 (
 some (.t [(aE 0), (aE 1)], h6)) (
 bnd (aN x0 h6) fun v7 h7 =>
 bnd (aB 2 v7 h7) fun v8 h8 =>
 bnd (aA v8 h8) fun v9 h9 =>
 bnd (dP .string (aE 0) false v9 x1 h9) fun v10 h10 =>
 bnd (aD .neq v10 (aE 0) h10) fun v11 h11 =>
 aR v11 (
 some (.t [v10, (aE 0)], h11)) (
 bnd (r 30 [x0, (aE 11)] h11) fun v12 h12 =>
 bnd (r 83 [x0, v12, x1] h12) fun v13 h13 =>
 bnd (aC 0 v13 h13) fun v14 h14 =>
 bnd (aC 1 v13 h14) fun v15 h15 =>
 bnd (aD .neq v15 (aE 0) h15) fun v16 h16 =>
 aR v16 (
 some (.t [(aE 0), v15], h16)) (
 bnd (aN x0 h16) fun v17 h17 =>
 bnd (aB 1 v17 h17) fun v18 h18 =>
 bnd (aA v18 h18) fun v19 h19 =>
 bnd (aI 1 v19 (aE 0) h19) fun v20 h20 =>
 bnd (aA v20 h20) fun v21 h21 =>
 bnd (r 73 [x0, v14, v21] h21) fun v22 h22 =>
 bnd (aC 0 v22 h22) fun v23 h23 =>
 bnd (aC 1 v22 h23) fun v24 h24 =>
 bnd (aD .neq v24 (aE 0) h24) fun v25 h25 =>
 aR v25 (
 some (.t [(aE 0), v24], h25)) (
 bnd (aN x0 h25) fun v26 h26 =>
 bnd (aB 1 v26 h26) fun v27 h27 =>
 bnd (aA v27 h27) fun v28 h28 =>
 bnd (aN x0 h28) fun v29 h29 =>
 bnd (aB 2 v29 h29) fun v30 h30 =>
 bnd (aA v30 h30) fun v31 h31 =>
 bnd (aI 1 v28 (aE 0) h31) fun v32 h32 =>
 bnd (aG 1 v32 v23 h32) fun v33 h33 =>
 bnd (fP .string (aE 0) v31 x1 h33) fun v34 h34 =>
 bnd (aC 1 v34 h34) fun v35 h35 =>
 bnd (dY v31 v35 v14 h35) fun v36 h36 =>
 some (.t [v14, (aE 0)], h36)))))
noncomputable abbrev c44 : Code := cf Tryz.f44
noncomputable abbrev r44 : K := aU CF Tryz.f44
noncomputable def D44 (r : RT) (n : Nat) (c : Code) (X : Nat → K) (k : K) : K := aM CF r 68 n c X r44 k
theorem dLt : D44 r n c44 x0 r44 = (K2 (s44 r n) 0 1) :=
 (by kernel_rfl)
theorem cQo : aF CF r n 44 args h = s44 r n (aS args 0) (aS args 1) h :=
 (by kernel_rfl : aF CF r n 44 args h = D44 r n c44 x0 r44 (aH args) h).trans ((congrFun (congrFun (dLt r n) (aH args)) h).trans (by kernel_rfl))
noncomputable def s45 (r : RT) (n : Nat) (x0 x1 : DV) (h0 : Hp) : aJ :=
 bnd (aN x0 h0) fun v1 h1 =>
 bnd (aB 3 v1 h1) fun v2 h2 =>
 bnd (aA v2 h2) fun v3 h3 =>
 bnd (dP .string (aE 0) false v3 x1 h3) fun v4 h4 =>
 some (v4, h4)
noncomputable abbrev c45 : Code := cf Tryz.f45
noncomputable abbrev r45 : K := aU CF Tryz.f45
noncomputable def D45 (r : RT) (n : Nat) (c : Code) (X : Nat → K) (k : K) : K := aM CF r 11 n c X r45 k
theorem dNz : D45 r n c45 x0 r45 = (K2 (s45 r n) 0 1) :=
 (by kernel_rfl)
theorem cPv : aF CF r n 45 args h = s45 r n (aS args 0) (aS args 1) h :=
 (by kernel_rfl : aF CF r n 45 args h = D45 r n c45 x0 r45 (aH args) h).trans ((congrFun (congrFun (dNz r n) (aH args)) h).trans (by kernel_rfl))
noncomputable def s46 (r : RT) (n : Nat) (x0 x1 : DV) (h0 : Hp) : aJ :=
 bnd (bS x0 h0) fun v1 h1 =>
 bnd (bZ x1 h1) fun v2 h2 =>
 bnd (aD .gtr v2 (aE 250) h2) fun v3 h3 =>
 bnd (gD v3 false (some (x1, h3)) h3) fun v4 h4 =>
 bnd (gD v3 false (some ((.f 84 [] [v1]), h4)) h4) fun v5 h5 =>
 bnd (gD v3 false (r 52 [v4, v5] h5) h5) fun v6 h6 =>
 bnd (aP v3 (.b true) v6 h6) fun v7 h7 =>
 aR v7 (
 some (.t [(aE 0), (aE 1)], h7)) (
 bnd (aA v1 h7) fun v8 h8 =>
 bnd (aA v1 h8) fun v9 h9 =>
 bnd (r 30 [v9, (aE 9)] h9) fun v10 h10 =>
 cnd (bG (aA v1 h10) v8 && true) (
 bnd (r 82 [v8, v10, (aE 0), x1] h10) fun v11 h11 =>
 bnd (aC 0 v11 h11) fun v12 h12 =>
 bnd (aC 1 v11 h12) fun v13 h13 =>
 some (.t [v12, v13], h13)))
noncomputable abbrev c46 : Code := cf Tryz.f46
noncomputable abbrev r46 : K := aU CF Tryz.f46
noncomputable def D46 (r : RT) (n : Nat) (c : Code) (X : Nat → K) (k : K) : K := aM CF r 21 n c X r46 k
theorem dOk : D46 r n c46 x0 r46 = (K2 (s46 r n) 0 1) :=
 (by kernel_rfl)
theorem cQc : aF CF r n 46 args h = s46 r n (aS args 0) (aS args 1) h :=
 (by kernel_rfl : aF CF r n 46 args h = D46 r n c46 x0 r46 (aH args) h).trans ((congrFun (congrFun (dOk r n) (aH args)) h).trans (by kernel_rfl))
noncomputable def s51 (r : RT) (n : Nat) (x0 x1 x2 : DV) (h0 : Hp) : aJ :=
 bnd (aN x0 h0) fun v1 h1 =>
 bnd (aB 0 v1 h1) fun v2 h2 =>
 bnd (aA v2 h2) fun v3 h3 =>
 bnd (oD [v3, x1, x2] h3) fun v4 h4 =>
 bnd (aC 0 v4 h4) fun v5 h5 =>
 bnd (aC 1 v4 h5) fun v6 h6 =>
 some (v5, h6)
noncomputable abbrev c51 : Code := cf Tryz.f51
noncomputable abbrev r51 : K := aU CF Tryz.f51
noncomputable def D51 (r : RT) (n : Nat) (c : Code) (X : Nat → K) (k : K) : K := aM CF r 20 n c X r51 k
theorem dOa : D51 r n c51 x0 r51 = (K3 (s51 r n) 0 1 2) :=
 (by kernel_rfl)
theorem cRj : aF CF r n 51 args h = s51 r n (aS args 0) (aS args 1) (aS args 2) h :=
 (by kernel_rfl : aF CF r n 51 args h = D51 r n c51 x0 r51 (aH args) h).trans ((congrFun (congrFun (dOa r n) (aH args)) h).trans (by kernel_rfl))
noncomputable def s52 (r : RT) (n : Nat) (x0 x1 : DV) (h0 : Hp) : aJ :=
 bnd (r 89 [x0, x1] h0) fun v1 h1 =>
 bnd (aD .geq v1 (aE 0) h1) fun v2 h2 =>
 some (v2, h2)
noncomputable abbrev c52 : Code := cf Tryz.f52
noncomputable abbrev r52 : K := aU CF Tryz.f52
noncomputable def D52 (r : RT) (n : Nat) (c : Code) (X : Nat → K) (k : K) : K := aM CF r 9 n c X r52 k
theorem dNb : D52 r n c52 x0 r52 = (K2 (s52 r n) 0 1) :=
 (by kernel_rfl)
theorem bSb : aF CF r n 52 args h = s52 r n (aS args 0) (aS args 1) h :=
 (by kernel_rfl : aF CF r n 52 args h = D52 r n c52 x0 r52 (aH args) h).trans ((congrFun (congrFun (dNb r n) (aH args)) h).trans (by kernel_rfl))
noncomputable def s53 (r : RT) (n : Nat) (x0 x1 : DV) (h0 : Hp) : aJ :=
 bnd (aA x1 h0) fun v1 h1 =>
 bnd (aAb [v1, x0] h1) fun v2 h2 =>
 bnd (gX .not v2 h2) fun v3 h3 =>
 some (v3, h3)
noncomputable abbrev c53 : Code := cf Tryz.f53
noncomputable abbrev r53 : K := aU CF Tryz.f53
noncomputable def D53 (r : RT) (n : Nat) (c : Code) (X : Nat → K) (k : K) : K := aM CF r 8 n c X r53 k
theorem dNk : D53 r n c53 x0 r53 = (K2 (s53 r n) 0 1) :=
 (by kernel_rfl)
theorem cRe : aF CF r n 53 args h = s53 r n (aS args 0) (aS args 1) h :=
 (by kernel_rfl : aF CF r n 53 args h = D53 r n c53 x0 r53 (aH args) h).trans ((congrFun (congrFun (dNk r n) (aH args)) h).trans (by kernel_rfl))
noncomputable def s54 (r : RT) (n : Nat) (h0 : Hp) : aJ :=
 some (.t [(aE 0), (aE 20)], h0)
noncomputable abbrev c54 : Code := cf Tryz.f54
noncomputable abbrev r54 : K := aU CF Tryz.f54
noncomputable def D54 (r : RT) (n : Nat) (c : Code) (X : Nat → K) (k : K) : K := aM CF r 2 n c X r54 k
theorem dLj : D54 r n c54 x0 r54 = (K0 (s54 r n)) :=
 (by kernel_rfl)
theorem bIw : aF CF r n 54 args h = s54 r n h :=
 (by kernel_rfl : aF CF r n 54 args h = D54 r n c54 x0 r54 (aH args) h).trans ((congrFun (congrFun (dLj r n) (aH args)) h).trans (by kernel_rfl))
noncomputable def s56 (r : RT) (n : Nat) (x0 : DV) (h0 : Hp) : aJ :=
 bnd (aN x0 h0) fun v1 h1 =>
 bnd (aB 1 v1 h1) fun v2 h2 =>
 bnd (aA v2 h2) fun v3 h3 =>
 bnd (aD .eql v3 (.i .i64 (Int.ofNat 10)) h3) fun v4 h4 =>
 aR v4 (
 bnd (aN x0 h4) fun v5 h5 =>
 bnd (aB 2 v5 h5) fun v6 h6 =>
 bnd (aA v6 h6) fun v7 h7 =>
 bnd (aN x0 h7) fun v8 h8 =>
 bnd (aB 3 v8 h8) fun v9 h9 =>
 bnd (aA v9 h9) fun v10 h10 =>
 bnd (aI 1 v10 (.i .i64 (Int.ofNat 0)) h10) fun v11 h11 =>
 bnd (aA v11 h11) fun v12 h12 =>
 bnd (aD .eql v7 v12 h12) fun v13 h13 =>
 bnd (r 95 [v13] h13) fun v14 h14 =>
 bnd (aC 0 v14 h14) fun v15 h15 =>
 bnd (aC 1 v14 h15) fun v16 h16 =>
 some (.t [v15, v16], h16)) (
 bnd (aN x0 h4) fun v17 h17 =>
 bnd (aB 0 v17 h17) fun v18 h18 =>
 bnd (aA v18 h18) fun v19 h19 =>
 bnd (aN x0 h19) fun v20 h20 =>
 bnd (aB 2 v20 h20) fun v21 h21 =>
 bnd (aA v21 h21) fun v22 h22 =>
 bnd (r 25 [v19, v22] h22) fun v23 h23 =>
 some (.t [v23, (.i .i64 (Int.ofNat 0))], h23))
noncomputable abbrev c56 : Code := cf Tryz.f56
noncomputable abbrev r56 : K := aU CF Tryz.f56
noncomputable def D56 (r : RT) (n : Nat) (c : Code) (X : Nat → K) (k : K) : K := aM CF r 32 n c X r56 k
theorem dNx : D56 r n c56 x0 r56 = (K1 (s56 r n) 0) :=
 (by kernel_rfl)
theorem dKc : aF CF r n 56 args h = s56 r n (aS args 0) h :=
 (by kernel_rfl : aF CF r n 56 args h = D56 r n c56 x0 r56 (aH args) h).trans ((congrFun (congrFun (dNx r n) (aH args)) h).trans (by kernel_rfl))
noncomputable def s57 (r : RT) (n : Nat) (x0 : DV) (h0 : Hp) : aJ :=
 bnd (aN x0 h0) fun v1 h1 =>
 bnd (aB 0 v1 h1) fun v2 h2 =>
 bnd (aA v2 h2) fun v3 h3 =>
 bnd (r 23 [v3] h3) fun v4 h4 =>
 bnd (aL [(.i .i64 (Int.ofNat 0)), (.i .i64 (Int.ofNat 0)), (.i .i64 (Int.ofNat 0))] 3 [(0, 1, (.i .i64 (Int.ofNat 9))), (1, 1, (.i .i64 (Int.ofNat 10))), (2, 1, (.i .i64 (Int.ofNat 11)))] h4) fun v5 h5 =>
 bnd (r 96 [x0, v5] h5) fun v6 h6 =>
 bnd (gX .not v6 h6) fun v7 h7 =>
 aR v7 (
 bnd (r 54 [] h7) fun v8 h8 =>
 bnd (aC 0 v8 h8) fun v9 h9 =>
 bnd (aC 1 v8 h9) fun v10 h10 =>
 some (.t [v9, v10], h10)) (
 bnd (aN x0 h7) fun v11 h11 =>
 bnd (aB 1 v11 h11) fun v12 h12 =>
 bnd (aA v12 h12) fun v13 h13 =>
 bnd (aD .eql v13 (.i .i64 (Int.ofNat 22)) h13) fun v14 h14 =>
 aR v14 (
 bnd (aN x0 h14) fun v15 h15 =>
 bnd (aB 0 v15 h15) fun v16 h16 =>
 bnd (aA v16 h16) fun v17 h17 =>
 bnd (aN x0 h17) fun v18 h18 =>
 bnd (aB 2 v18 h18) fun v19 h19 =>
 bnd (aA v19 h19) fun v20 h20 =>
 bnd (eI [v4, v20] h20) fun v21 h21 =>
 cnd (bG (aA v16 h21) v17 && true) (
 bnd (r 42 [v17, v21] h21) fun v22 h22 =>
 bnd (aC 0 v22 h22) fun v23 h23 =>
 bnd (aC 1 v22 h23) fun v24 h24 =>
 some (.t [v23, v24], h24))) (
 bnd (r 97 [x0] h14) fun v25 h25 =>
 bnd (aC 0 v25 h25) fun v26 h26 =>
 bnd (aC 1 v25 h26) fun v27 h27 =>
 bnd (gX .not v27 h27) fun v28 h28 =>
 aR v28 (
 bnd (r 54 [] h28) fun v29 h29 =>
 bnd (aC 0 v29 h29) fun v30 h30 =>
 bnd (aC 1 v29 h30) fun v31 h31 =>
 some (.t [v30, v31], h31)) (
 bnd (aN x0 h28) fun v32 h32 =>
 bnd (aB 1 v32 h32) fun v33 h33 =>
 bnd (aA v33 h33) fun v34 h34 =>
 bnd (aD .eql v34 (.i .i64 (Int.ofNat 21)) h34) fun v35 h35 =>
 aR v35 (
 bnd (r 98 [x0, v26] h35) fun v36 h36 =>
 bnd (aC 0 v36 h36) fun v37 h37 =>
 bnd (aC 1 v36 h37) fun v38 h38 =>
 some (.t [v37, v38], h38)) (
 bnd (aN x0 h35) fun v39 h39 =>
 bnd (aB 2 v39 h39) fun v40 h40 =>
 bnd (aA v40 h40) fun v41 h41 =>
 bnd (oD [v4, v41, v26] h41) fun v42 h42 =>
 bnd (aC 0 v42 h42) fun v43 h43 =>
 bnd (aC 1 v42 h43) fun v44 h44 =>
 bnd (aL [(.i .i64 (Int.ofNat 0))] 1 [(0, 1, (.i .i64 (Int.ofNat 9)))] h44) fun v45 h45 =>
 bnd (r 96 [x0, v45] h45) fun v46 h46 =>
 aR v46 (
 some (.t [v43, (.i .i64 (Int.ofNat 0))], h46)) (
 bnd (aN x0 h46) fun v47 h47 =>
 bnd (aB 0 v47 h47) fun v48 h48 =>
 bnd (aA v48 h48) fun v49 h49 =>
 bnd (r 42 [v49, v43] h49) fun v50 h50 =>
 bnd (aC 0 v50 h50) fun v51 h51 =>
 bnd (aC 1 v50 h51) fun v52 h52 =>
 some (.t [v51, v52], h52))))))
noncomputable abbrev c57 : Code := cf Tryz.f57
noncomputable abbrev r57 : K := aU CF Tryz.f57
noncomputable def D57 (r : RT) (n : Nat) (c : Code) (X : Nat → K) (k : K) : K := aM CF r 83 n c X r57 k
theorem dMy : D57 r n c57 x0 r57 = (K1 (s57 r n) 0) :=
 (by kernel_rfl)
theorem dEw : aF CF r n 57 args h = s57 r n (aS args 0) h :=
 (by kernel_rfl : aF CF r n 57 args h = D57 r n c57 x0 r57 (aH args) h).trans ((congrFun (congrFun (dMy r n) (aH args)) h).trans (by kernel_rfl))
end Go.Dd

namespace Go.Dd
open Go.Proofs
variable (r : RT) (n : Nat) (args : List DV) (h : Hp)
noncomputable def s58 (r : RT) (n : Nat) (x0 : DV) (h0 : Hp) : aJ :=
 bnd (aN x0 h0) fun v1 h1 =>
 bnd (aB 0 v1 h1) fun v2 h2 =>
 bnd (aA v2 h2) fun v3 h3 =>
 bnd (r 23 [v3] h3) fun v4 h4 =>
 bnd (aN x0 h4) fun v5 h5 =>
 bnd (aB 0 v5 h5) fun v6 h6 =>
 bnd (aA v6 h6) fun v7 h7 =>
 cnd (bG (aA v6 h0) v7 && true) (
 bnd (aN x0 h7) fun v8 h8 =>
 bnd (aB 2 v8 h8) fun v9 h9 =>
 bnd (aA v9 h9) fun v10 h10 =>
 cnd (bG (aA v9 h0) v10 && true) (
 bnd (r 32 [v7, v10] h10) fun v11 h11 =>
 bnd (aN x0 h11) fun v12 h12 =>
 bnd (aB 1 v12 h12) fun v13 h13 =>
 bnd (aA v13 h13) fun v14 h14 =>
 bnd (aD .eql v14 (.i .i64 (Int.ofNat 23)) h14) fun v15 h15 =>
 aR v15 (
 bnd (aD .neq v11 (.i .i64 (Int.ofNat 0)) h15) fun v16 h16 =>
 aR v16 (
 bnd (r 54 [] h16) fun v17 h17 =>
 bnd (aC 0 v17 h17) fun v18 h18 =>
 bnd (aC 1 v17 h18) fun v19 h19 =>
 some (.t [v18, v19], h19)) (
 bnd (aN x0 h16) fun v20 h20 =>
 bnd (aB 2 v20 h20) fun v21 h21 =>
 bnd (aA v21 h21) fun v22 h22 =>
 bnd (aN x0 h22) fun v23 h23 =>
 bnd (aB 0 v23 h23) fun v24 h24 =>
 bnd (aA v24 h24) fun v25 h25 =>
 bnd (aN x0 h25) fun v26 h26 =>
 bnd (aB 2 v26 h26) fun v27 h27 =>
 bnd (aA v27 h27) fun v28 h28 =>
 bnd (r 37 [v25, v28] h28) fun v29 h29 =>
 cnd (bG (aA v21 h29) v22 && true) (
 bnd (iS [v4, v22, (.i .i64 (Int.ofNat 0)), v29] h29) fun v30 h30 =>
 bnd (aC 0 v30 h30) fun v31 h31 =>
 bnd (aC 1 v30 h31) fun v32 h32 =>
 some (.t [v31, v32], h32)))) (
 bnd (aN x0 h15) fun v33 h33 =>
 bnd (aB 0 v33 h33) fun v34 h34 =>
 bnd (aA v34 h34) fun v35 h35 =>
 bnd (aN x0 h35) fun v36 h36 =>
 bnd (aB 3 v36 h36) fun v37 h37 =>
 bnd (aA v37 h37) fun v38 h38 =>
 bnd (aI 1 v38 (.i .i64 (Int.ofNat 0)) h38) fun v39 h39 =>
 bnd (aA v39 h39) fun v40 h40 =>
 bnd (r 15 [v35, v40] h40) fun v41 h41 =>
 bnd (aC 0 v41 h41) fun v42 h42 =>
 bnd (aC 1 v41 h42) fun v43 h43 =>
 bnd (gX .not v43 h43) fun v44 h44 =>
 bnd (gD v44 false (some (v42, h44)) h44) fun v45 h45 =>
 bnd (gD v44 false (aD .lss v45 (.i .i64 (Int.ofNat 0)) h45) h45) fun v46 h46 =>
 bnd (aP v44 (.b true) v46 h46) fun v47 h47 =>
 bnd (gD v47 false (some (v42, h47)) h47) fun v48 h48 =>
 bnd (gD v47 false (aD .gtr v48 (.i .i64 (Int.ofNat 250)) h48) h48) fun v49 h49 =>
 bnd (aP v47 (.b true) v49 h49) fun v50 h50 =>
 aR v50 (
 bnd (r 54 [] h50) fun v51 h51 =>
 bnd (aC 0 v51 h51) fun v52 h52 =>
 bnd (aC 1 v51 h52) fun v53 h53 =>
 some (.t [v52, v53], h53)) (
 bnd (aN x0 h50) fun v54 h54 =>
 bnd (aB 2 v54 h54) fun v55 h55 =>
 bnd (aA v55 h55) fun v56 h56 =>
 bnd (aN x0 h56) fun v57 h57 =>
 bnd (aB 0 v57 h57) fun v58 h58 =>
 bnd (aA v58 h58) fun v59 h59 =>
 bnd (r 30 [v59, (.i .i64 (Int.ofNat 9))] h59) fun v60 h60 =>
 cnd (bG (aA v55 h60) v56 && true) (
 bnd (aD .eql v56 v60 h60) fun v61 h61 =>
 aR v61 (
 bnd (aN x0 h61) fun v62 h62 =>
 bnd (aB 2 v62 h62) fun v63 h63 =>
 bnd (aA v63 h63) fun v64 h64 =>
 bnd (iS [v4, v64, (.i .i64 (Int.ofNat 0)), v42] h64) fun v65 h65 =>
 bnd (aC 0 v65 h65) fun v66 h66 =>
 bnd (aC 1 v65 h66) fun v67 h67 =>
 some (.t [v66, v67], h67)) (
 bnd (aN x0 h61) fun v68 h68 =>
 bnd (aB 2 v68 h68) fun v69 h69 =>
 bnd (aA v69 h69) fun v70 h70 =>
 bnd (aN x0 h70) fun v71 h71 =>
 bnd (aB 0 v71 h71) fun v72 h72 =>
 bnd (aA v72 h72) fun v73 h73 =>
 bnd (r 30 [v73, (.i .i64 (Int.ofNat 10))] h73) fun v74 h74 =>
 cnd (bG (aA v69 h74) v70 && true) (
 bnd (aD .eql v70 v74 h74) fun v75 h75 =>
 aR v75 (
 bnd (aN x0 h75) fun v76 h76 =>
 bnd (aB 2 v76 h76) fun v77 h77 =>
 bnd (aA v77 h77) fun v78 h78 =>
 bnd (iS [v4, v78, (.i .i64 (Int.ofNat 2)), v42] h78) fun v79 h79 =>
 bnd (aC 0 v79 h79) fun v80 h80 =>
 bnd (aC 1 v79 h80) fun v81 h81 =>
 some (.t [v80, v81], h81)) (
 bnd (r 54 [] h75) fun v82 h82 =>
 bnd (aC 0 v82 h82) fun v83 h83 =>
 bnd (aC 1 v82 h83) fun v84 h84 =>
 some (.t [v83, v84], h84)))))))))
noncomputable abbrev c58 : Code := cf Tryz.f58
noncomputable abbrev r58 : K := aU CF Tryz.f58
noncomputable def D58 (r : RT) (n : Nat) (c : Code) (X : Nat → K) (k : K) : K := aM CF r 120 n c X r58 k
theorem dOv : D58 r n c58 x0 r58 = (K1 (s58 r n) 0) :=
 (by kernel_rfl)
theorem dGt : aF CF r n 58 args h = s58 r n (aS args 0) h :=
 (by kernel_rfl : aF CF r n 58 args h = D58 r n c58 x0 r58 (aH args) h).trans ((congrFun (congrFun (dOv r n) (aH args)) h).trans (by kernel_rfl))
noncomputable def s60 (r : RT) (n : Nat) (x0 : DV) (h0 : Hp) : aJ :=
 bnd (aN x0 h0) fun v1 h1 =>
 bnd (aB 0 v1 h1) fun v2 h2 =>
 bnd (aA v2 h2) fun v3 h3 =>
 bnd (aN x0 h3) fun v4 h4 =>
 bnd (aB 2 v4 h4) fun v5 h5 =>
 bnd (aA v5 h5) fun v6 h6 =>
 bnd (r 32 [v3, v6] h6) fun v7 h7 =>
 bnd (aD .lss v7 (.i .i64 (Int.ofNat 0)) h7) fun v8 h8 =>
 aR v8 (
 bnd (r 54 [] h8) fun v9 h9 =>
 bnd (aC 0 v9 h9) fun v10 h10 =>
 bnd (aC 1 v9 h10) fun v11 h11 =>
 some (.t [v10, v11], h11)) (
 bnd (aN x0 h8) fun v12 h12 =>
 bnd (aB 1 v12 h12) fun v13 h13 =>
 bnd (aA v13 h13) fun v14 h14 =>
 bnd (aD .eql v14 (.i .i64 (Int.ofNat 41)) h14) fun v15 h15 =>
 aR v15 (
 bnd (aN x0 h15) fun v16 h16 =>
 bnd (aB 0 v16 h16) fun v17 h17 =>
 bnd (aA v17 h17) fun v18 h18 =>
 bnd (aN x0 h18) fun v19 h19 =>
 bnd (aB 2 v19 h19) fun v20 h20 =>
 bnd (aA v20 h20) fun v21 h21 =>
 bnd (r 35 [v18, v21] h21) fun v22 h22 =>
 some (.t [v22, (.i .i64 (Int.ofNat 0))], h22)) (
 bnd (aN x0 h15) fun v23 h23 =>
 bnd (aB 0 v23 h23) fun v24 h24 =>
 bnd (aA v24 h24) fun v25 h25 =>
 bnd (aN x0 h25) fun v26 h26 =>
 bnd (aB 0 v26 h26) fun v27 h27 =>
 bnd (aA v27 h27) fun v28 h28 =>
 bnd (aN x0 h28) fun v29 h29 =>
 bnd (aB 2 v29 h29) fun v30 h30 =>
 bnd (aA v30 h30) fun v31 h31 =>
 bnd (r 34 [v28, v31] h31) fun v32 h32 =>
 cnd (bG (aA v24 h32) v25 && true) (
 bnd (r 44 [v25, v32] h32) fun v33 h33 =>
 bnd (aC 0 v33 h33) fun v34 h34 =>
 bnd (aC 1 v33 h34) fun v35 h35 =>
 some (.t [v34, v35], h35))))
noncomputable abbrev c60 : Code := cf Tryz.f60
noncomputable abbrev r60 : K := aU CF Tryz.f60
noncomputable def D60 (r : RT) (n : Nat) (c : Code) (X : Nat → K) (k : K) : K := aM CF r 49 n c X r60 k
theorem dNt : D60 r n c60 x0 r60 = (K1 (s60 r n) 0) :=
 (by kernel_rfl)
theorem dKn : aF CF r n 60 args h = s60 r n (aS args 0) h :=
 (by kernel_rfl : aF CF r n 60 args h = D60 r n c60 x0 r60 (aH args) h).trans ((congrFun (congrFun (dNt r n) (aH args)) h).trans (by kernel_rfl))
noncomputable def s61 (r : RT) (n : Nat) (x0 : DV) (h0 : Hp) : aJ :=
 bnd (aN x0 h0) fun v1 h1 =>
 bnd (aB 0 v1 h1) fun v2 h2 =>
 bnd (aA v2 h2) fun v3 h3 =>
 bnd (r 23 [v3] h3) fun v4 h4 =>
 bnd (aN x0 h4) fun v5 h5 =>
 bnd (aB 2 v5 h5) fun v6 h6 =>
 bnd (aA v6 h6) fun v7 h7 =>
 bnd (isF [v4, v7] h7) fun v8 h8 =>
 bnd (gX .not v8 h8) fun v9 h9 =>
 bnd (gD v9 false (some (x0, h9)) h9) fun v10 h10 =>
 bnd (gD v9 false (aN v10 h10) h10) fun v11 h11 =>
 bnd (gD v9 false (aB 0 v11 h11) h11) fun v12 h12 =>
 bnd (gD v9 false (aA v12 h12) h12) fun v13 h13 =>
 bnd (gD v9 false (some (x0, h13)) h13) fun v14 h14 =>
 bnd (gD v9 false (aN v14 h14) h14) fun v15 h15 =>
 bnd (gD v9 false (aB 0 v15 h15) h15) fun v16 h16 =>
 bnd (gD v9 false (aA v16 h16) h16) fun v17 h17 =>
 bnd (gD v9 false (some (x0, h17)) h17) fun v18 h18 =>
 bnd (gD v9 false (aN v18 h18) h18) fun v19 h19 =>
 bnd (gD v9 false (aB 2 v19 h19) h19) fun v20 h20 =>
 bnd (gD v9 false (aA v20 h20) h20) fun v21 h21 =>
 bnd (gD v9 false (r 25 [v17, v21] h21) h21) fun v22 h22 =>
 cnd (bG (gD v9 false (aA v12 h22) h22) v13 && true) (
 bnd (gD v9 false (r 32 [v13, v22] h22) h22) fun v23 h23 =>
 bnd (gD v9 false (aD .neq v23 (.i .i64 (Int.ofNat 0)) h23) h23) fun v24 h24 =>
 bnd (aP v9 (.b true) v24 h24) fun v25 h25 =>
 aR v25 (
 bnd (r 54 [] h25) fun v26 h26 =>
 bnd (aC 0 v26 h26) fun v27 h27 =>
 bnd (aC 1 v26 h27) fun v28 h28 =>
 some (.t [v27, v28], h28)) (
 bnd (r 97 [x0] h25) fun v29 h29 =>
 bnd (aC 0 v29 h29) fun v30 h30 =>
 bnd (aC 1 v29 h30) fun v31 h31 =>
 bnd (gX .not v31 h31) fun v32 h32 =>
 aR v32 (
 bnd (r 54 [] h32) fun v33 h33 =>
 bnd (aC 0 v33 h33) fun v34 h34 =>
 bnd (aC 1 v33 h34) fun v35 h35 =>
 some (.t [v34, v35], h35)) (
 bnd (aN x0 h32) fun v36 h36 =>
 bnd (aB 1 v36 h36) fun v37 h37 =>
 bnd (aA v37 h37) fun v38 h38 =>
 bnd (aD .eql v38 (.i .i64 (Int.ofNat 51)) h38) fun v39 h39 =>
 aR v39 (
 bnd (aN x0 h39) fun v40 h40 =>
 bnd (aB 2 v40 h40) fun v41 h41 =>
 bnd (aA v41 h41) fun v42 h42 =>
 bnd (aN x0 h42) fun v43 h43 =>
 bnd (aB 3 v43 h43) fun v44 h44 =>
 bnd (aA v44 h44) fun v45 h45 =>
 bnd (aI 1 v45 (.i .i64 (Int.ofNat 1)) h45) fun v46 h46 =>
 bnd (aA v46 h46) fun v47 h47 =>
 bnd (qF [v4, v42, v30, v47] h47) fun v48 h48 =>
 bnd (aN x0 h48) fun v49 h49 =>
 bnd (aB 3 v49 h49) fun v50 h50 =>
 bnd (aA v50 h50) fun v51 h51 =>
 bnd (aI 1 v51 (.i .i64 (Int.ofNat 1)) h51) fun v52 h52 =>
 bnd (aA v52 h52) fun v53 h53 =>
 some (.t [v53, (.i .i64 (Int.ofNat 0))], h53)) (
 bnd (aN x0 h39) fun v54 h54 =>
 bnd (aB 2 v54 h54) fun v55 h55 =>
 bnd (aA v55 h55) fun v56 h56 =>
 bnd (oD [v4, v56, v30] h56) fun v57 h57 =>
 bnd (aC 0 v57 h57) fun v58 h58 =>
 bnd (aC 1 v57 h58) fun v59 h59 =>
 some (.t [v58, v59], h59)))))
noncomputable abbrev c61 : Code := cf Tryz.f61
noncomputable abbrev r61 : K := aU CF Tryz.f61
noncomputable def D61 (r : RT) (n : Nat) (c : Code) (X : Nat → K) (k : K) : K := aM CF r 84 n c X r61 k
theorem dOb : D61 r n c61 x0 r61 = (K1 (s61 r n) 0) :=
 (by kernel_rfl)
theorem cRb : aF CF r n 61 args h = s61 r n (aS args 0) h :=
 (by kernel_rfl : aF CF r n 61 args h = D61 r n c61 x0 r61 (aH args) h).trans ((congrFun (congrFun (dOb r n) (aH args)) h).trans (by kernel_rfl))
noncomputable def s67 (r : RT) (n : Nat) (x0 x1 : DV) (h0 : Hp) : aJ :=
 bnd (aN x0 h0) fun v1 h1 =>
 bnd (aB 0 v1 h1) fun v2 h2 =>
 bnd (aA v2 h2) fun v3 h3 =>
 bnd (isF [v3, x1] h3) fun v4 h4 =>
 bnd (gD v4 true (some (x0, h4)) h4) fun v5 h5 =>
 bnd (gD v4 true (aN v5 h5) h5) fun v6 h6 =>
 bnd (gD v4 true (aB 0 v6 h6) h6) fun v7 h7 =>
 bnd (gD v4 true (aA v7 h7) h7) fun v8 h8 =>
 bnd (gD v4 true (some (x1, h8)) h8) fun v9 h9 =>
 bnd (gD v4 true (iM [v8, v9] h9) h9) fun v10 h10 =>
 bnd (gD v4 true (some (x0, h10)) h10) fun v11 h11 =>
 bnd (gD v4 true (r 30 [v11, (aE 1)] h11) h11) fun v12 h12 =>
 bnd (gD v4 true (aD .eql v10 v12 h12) h12) fun v13 h13 =>
 bnd (aP v4 v13 (.b false) h13) fun v14 h14 =>
 bnd (gD v14 true (some (x0, h14)) h14) fun v15 h15 =>
 bnd (gD v14 true (aN v15 h15) h15) fun v16 h16 =>
 bnd (gD v14 true (aB 0 v16 h16) h16) fun v17 h17 =>
 bnd (gD v14 true (aA v17 h17) h17) fun v18 h18 =>
 bnd (gD v14 true (some (x1, h18)) h18) fun v19 h19 =>
 bnd (gD v14 true (eI [v18, v19] h19) h19) fun v20 h20 =>
 bnd (gD v14 true (aD .eql v20 (aE 6) h20) h20) fun v21 h21 =>
 bnd (aP v14 v21 (.b false) h21) fun v22 h22 =>
 some (v22, h22)
noncomputable abbrev c67 : Code := cf Tryz.f67
noncomputable abbrev r67 : K := aU CF Tryz.f67
noncomputable def D67 (r : RT) (n : Nat) (c : Code) (X : Nat → K) (k : K) : K := aM CF r 31 n c X r67 k
theorem dOl : D67 r n c67 x0 r67 = (K2 (s67 r n) 0 1) :=
 (by kernel_rfl)
theorem cRf : aF CF r n 67 args h = s67 r n (aS args 0) (aS args 1) h :=
 (by kernel_rfl : aF CF r n 67 args h = D67 r n c67 x0 r67 (aH args) h).trans ((congrFun (congrFun (dOl r n) (aH args)) h).trans (by kernel_rfl))
noncomputable def s71 (r : RT) (n : Nat) (x0 : DV) (h0 : Hp) : aJ :=
 bnd (gW [x0] h0) fun v1 h1 =>
 bnd (aC 0 v1 h1) fun v2 h2 =>
 bnd (aC 1 v1 h2) fun v3 h3 =>
 some (v2, h3)
noncomputable abbrev c71 : Code := cf Tryz.f71
noncomputable abbrev r71 : K := aU CF Tryz.f71
noncomputable def D71 (r : RT) (n : Nat) (c : Code) (X : Nat → K) (k : K) : K := aM CF r 11 n c X r71 k
theorem dMo : D71 r n c71 x0 r71 = (K1 (s71 r n) 0) :=
 (by kernel_rfl)
theorem dJp : aF CF r n 71 args h = s71 r n (aS args 0) h :=
 (by kernel_rfl : aF CF r n 71 args h = D71 r n c71 x0 r71 (aH args) h).trans ((congrFun (congrFun (dMo r n) (aH args)) h).trans (by kernel_rfl))
noncomputable def s73 (r : RT) (n : Nat) (x0 x1 x2 : DV) (h0 : Hp) : aJ :=
 bnd (r 30 [x0, (aE 9)] h0) fun v1 h1 =>
 bnd (aL [(aE 0), (aE 0)] 2 [(0, 1, x1), (1, 1, x2)] h1) fun v2 h2 =>
 bnd (r 82 [x0, v1, (aE 0), v2] h2) fun v3 h3 =>
 bnd (aC 0 v3 h3) fun v4 h4 =>
 bnd (aC 1 v3 h4) fun v5 h5 =>
 some (.t [v4, v5], h5)
noncomputable abbrev c73 : Code := cf Tryz.f73
noncomputable abbrev r73 : K := aU CF Tryz.f73
noncomputable def D73 (r : RT) (n : Nat) (c : Code) (X : Nat → K) (k : K) : K := aM CF r 17 n c X r73 k
theorem dOu : D73 r n c73 x0 r73 = (K3 (s73 r n) 0 1 2) :=
 (by kernel_rfl)
theorem cQn : aF CF r n 73 args h = s73 r n (aS args 0) (aS args 1) (aS args 2) h :=
 (by kernel_rfl : aF CF r n 73 args h = D73 r n c73 x0 r73 (aH args) h).trans ((congrFun (congrFun (dOu r n) (aH args)) h).trans (by kernel_rfl))
noncomputable def s75 (r : RT) (n : Nat) (x0 x1 x2 : DV) (h0 : Hp) : aJ :=
 bnd (r 45 [x0, x1] h0) fun v1 h1 =>
 bnd (aD .eql v1 (aE 0) h1) fun v2 h2 =>
 aR v2 (
 some (.t [(aE 0), (aE 0), (.s []), (aE 24)], h2)) (
 bnd (r 99 [x2] h2) fun v3 h3 =>
 bnd (aC 0 v3 h3) fun v4 h4 =>
 bnd (aC 1 v3 h4) fun v5 h5 =>
 bnd (aC 2 v3 h5) fun v6 h6 =>
 bnd (bM kA h6) fun v7 h7 =>
 bnd (aG 6 v7 v4 h7) fun _ h8 =>
 bnd (aD .neq v6 (aE 0) h8) fun v9 h9 =>
 aR v9 (
 some (.t [(aE 0), v5, (.s []), v6], h9)) (
 bnd (aK 6 v7 (resv 1 h9)) fun v10 h10 =>
 bnd (r 77 [x0, v1] h10) fun v11 h11 =>
 cnd (bG (aK 6 v7 h11) v10 && true) (
 bnd (r 100 [v10, v11] h11) fun v12 h12 =>
 bnd (aC 0 v12 h12) fun v13 h13 =>
 bnd (aC 1 v12 h13) fun v14 h14 =>
 bnd (aC 2 v12 h14) fun v15 h15 =>
 bnd (jZ (bW 0 h9.next) [(.s []), (aE 0), (aE 0), (aE 0), .l0, .l0] h15) fun v16 h16 =>
 bnd (aG 6 v16 v13 h16) fun v17 h17 =>
 bnd (aD .neq v15 (aE 0) h17) fun v18 h18 =>
 aR v18 (
 some (.t [(aE 0), (aE 0), v14, v15], h18)) (
 bnd (aK 6 v16 h18) fun v19 h19 =>
 bnd (r 101 [x0, v1, v19] h19) fun v20 h20 =>
 bnd (aC 0 v20 h20) fun v21 h21 =>
 bnd (aC 1 v20 h21) fun v22 h22 =>
 bnd (aD .neq v22 (aE 0) h22) fun v23 h23 =>
 aR v23 (
 some (.t [(aE 0), (aE 0), (.s []), v22], h23)) (
 some (.t [v21, (aE 0), (.s []), (aE 0)], h23))))))
noncomputable abbrev c75 : Code := cf Tryz.f75
noncomputable abbrev r75 : K := aU CF Tryz.f75
noncomputable def D75 (r : RT) (n : Nat) (c : Code) (X : Nat → K) (k : K) : K := aM CF r 56 n c X r75 k
theorem dKz : D75 r n c75 x0 r75 = (K3 (s75 r n) 0 1 2) :=
 (by kernel_rfl)
theorem dFs : aF CF r n 75 args h = s75 r n (aS args 0) (aS args 1) (aS args 2) h :=
 (by kernel_rfl : aF CF r n 75 args h = D75 r n c75 x0 r75 (aH args) h).trans ((congrFun (congrFun (dKz r n) (aH args)) h).trans (by kernel_rfl))
noncomputable def bY (r : RT) (n : Nat) (x5 : DV) (h0 : Hp) : aJ :=
 some (x5, h0)
noncomputable def cV (r : RT) (n : Nat) (kk5 : dL) (x0 x1 x5 x6 : DV) (h0 : Hp) : aJ :=
 bnd (aD .sub x6 (aE 1) h0) fun v1 h1 =>
  kk5 x0 x1 x5 v1 h1
noncomputable def eC (r : RT) (n : Nat) (kk5 : dL) (x0 x1 x5 x6 x7 : DV) (h0 : Hp) : aJ :=
 bnd (bA 1 16 x7 x5 h0) fun v1 h1 =>
 bnd (r 35 [x0, x1] h1) fun v2 h2 =>
  cV r n kk5 x0 v2 v1 x6 h2
noncomputable def aKe (r : RT) (n : Nat) (kk5 : dL) (kk12 : TT8) (x0 x1 x5 x6 x7 x8 x34 x35 : DV) (h0 : Hp) : aJ :=
 bnd (aD .lss x35 x34 h0) fun v1 h1 =>
 aR v1 (
 bnd (r 51 [x0, x8, x35] h1) fun v2 h2 =>
 bnd (r 33 [x0, v2] h2) fun v3 h3 =>
 bnd (aC 0 v3 h3) fun v4 h4 =>
 bnd (aC 1 v3 h4) fun v5 h5 =>
 bnd (aL [(.s [])] 1 [(0, 1, v4)] h5) fun v6 h6 =>
 bnd (bA 1 16 x7 v6 h6) fun v7 h7 =>
 bnd (aD .add x35 (aE 1) h7) fun v8 h8 =>
      kk12 x0 x1 x5 x6 v7 x8 x34 v8 h8) (
      eC r n kk5 x0 x1 x5 x6 x7 h1)
noncomputable def uR (r : RT) (n : Nat) (kk5 : dL) (m : Nat) : TT8 :=
 Nat.rec (motive := fun _ => TT8) (fun _ _ _ _ _ _ _ _ _ => none) (fun _ ih => aKe r n kk5 ih) m
noncomputable def bXa (r : RT) (n : Nat) (kk5 : dL) : TT8 := uR r n kk5 n
noncomputable def aOr (r : RT) (n : Nat) (kk5 : dL) (x0 x1 x5 x6 x7 x8 x34 x35 : DV) (h0 : Hp) : aJ :=
 bXa r n kk5 x0 x1 x5 x6 x7 x8 x34 x35 h0
noncomputable def bGk (r : RT) (n : Nat) (kk5 : dL) (x0 x1 x5 x6 x7 x8 : DV) (h0 : Hp) : aJ :=
 bnd (aN x0 h0) fun v1 h1 =>
 bnd (aB 0 v1 h1) fun v2 h2 =>
 bnd (aA v2 h2) fun v3 h3 =>
 bnd (eI [v3, x8] h3) fun v4 h4 =>
  aOr r n kk5 x0 x1 x5 x6 x7 x8 v4 (aE 0) h4
noncomputable def bWu (r : RT) (n : Nat) (kk5 : dL) (x0 x1 x5 x6 x7 : DV) (h0 : Hp) : aJ :=
 bnd (r 51 [x0, x1, (aE 3)] h0) fun v1 h1 =>
  bGk r n kk5 x0 x1 x5 x6 x7 v1 h1
noncomputable def bRr (r : RT) (n : Nat) (kk5 : dL) (x0 x1 x5 x6 : DV) (h0 : Hp) : aJ :=
 bWu r n kk5 x0 x1 x5 x6 .l0 h0
noncomputable def bKq (r : RT) (n : Nat) (kk5 : dL) (x0 x1 x5 x6 : DV) (h0 : Hp) : aJ :=
 bnd (aD .gtr x6 (aE 0) h0) fun v1 h1 =>
 bnd (gD v1 true (some (x0, h1)) h1) fun v2 h2 =>
 bnd (gD v1 true (some (x1, h2)) h2) fun v3 h3 =>
 bnd (gD v1 true (r 67 [v2, v3] h3) h3) fun v4 h4 =>
 bnd (aP v1 v4 (.b false) h4) fun v5 h5 =>
 aR v5 (
   bRr r n kk5 x0 x1 x5 x6 h5) (
   bY r n x5 h5)
noncomputable def aId (r : RT) (n : Nat) (m : Nat) : dL :=
 Nat.rec (motive := fun _ => dL) (fun _ _ _ _ _ => none) (fun _ ih => bKq r n ih) m
noncomputable def cQu (r : RT) (n : Nat) : dL := aId r n n
noncomputable def bZz (r : RT) (n : Nat) (x0 x1 x5 x6 : DV) (h0 : Hp) : aJ :=
 cQu r n x0 x1 x5 x6 h0
noncomputable def bOg (r : RT) (n : Nat) (x0 x1 x5 : DV) (h0 : Hp) : aJ :=
 bnd (aN x0 h0) fun v1 h1 =>
 bnd (aB 0 v1 h1) fun v2 h2 =>
 bnd (aA v2 h2) fun v3 h3 =>
 bnd (aAi [v3] h3) fun v4 h4 =>
  bZz r n x0 x1 x5 v4 h4
noncomputable def bXo (r : RT) (n : Nat) (x0 x1 : DV) (h0 : Hp) : aJ :=
 bOg r n x0 x1 .l0 h0
noncomputable def s77 (r : RT) (n : Nat) (x0 x1 : DV) (h0 : Hp) : aJ :=
 bXo r n x0 x1 h0
noncomputable abbrev c77 : Code := cf Tryz.f77
noncomputable abbrev bCe : Code := cR c77
noncomputable abbrev aZu : Code := cR bCe
noncomputable abbrev dIz : Code := cR aZu
noncomputable abbrev aMi : Code := cL aZu
noncomputable abbrev bTq : Code := cR aMi
noncomputable abbrev aXk : Code := cL bTq
noncomputable abbrev nK : Code := cL aXk
noncomputable abbrev aVb : Code := cR nK
noncomputable abbrev dHt : Code := cR aVb
noncomputable abbrev aJo : Code := cL aVb
noncomputable abbrev aHy : Code := cL aJo
noncomputable abbrev aBt : Code := cR aHy
noncomputable abbrev aEt : Code := cR aBt
noncomputable abbrev cRu : Code := cR aEt
noncomputable abbrev zO : Code := cL aEt
noncomputable abbrev aUe : Code := cR zO
noncomputable abbrev aGp : Code := cL aUe
noncomputable abbrev mK : Code := cL aGp
noncomputable abbrev bIc : Code := cL zO
noncomputable abbrev bId : Code := cL aBt
noncomputable abbrev bTd : Code := cL aHy
noncomputable abbrev bZh : Code := cL nK
noncomputable abbrev bGr : Code := cL aMi
noncomputable abbrev bIt : Code := cL bCe
noncomputable abbrev bLu : Code := cL c77
noncomputable abbrev r77 : K := aU CF Tryz.f77
noncomputable def D77 (r : RT) (n : Nat) (c : Code) (X : Nat → K) (k : K) : K := aM CF r 59 n c X r77 k
theorem cRo : D77 r n dIz x0 r77 = (K1 (bY r n) 5) :=
 (by kernel_rfl)
theorem cXj (kk5 : dL) : D77 r n dHt (xs x0 0 (K1 (bY r n) 5)) (K4 kk5 0 1 5 6) = (K4 (cV r n kk5) 0 1 5 6) :=
 (by kernel_rfl)
theorem cOm (kk5 : dL) : D77 r n cRu (xs (xs x0 0 (K1 (bY r n) 5)) 1 (K4 (cV r n kk5) 0 1 5 6)) (K4 (cV r n kk5) 0 1 5 6) = (K5 (eC r n kk5) 0 1 5 6 7) :=
 (by kernel_rfl)
theorem bYv (kk5 : dL) (kk12 : TT8) (q0 : TT1) (q1 : dL) (q2 : cF) : D77 r n mK (xs (xs (xs x0 0 (K1 q0 5)) 1 (K4 q1 0 1 5 6)) 2 (K5 q2 0 1 5 6 7)) (K8 kk12 0 1 5 6 7 8 34 35) = fun (env : aZ) (h : Hp) =>
 bnd (aD .lss (env 35) (env 34) h) fun v1 h1 =>
 aR v1 (
 bnd (r 51 [(env 0), (env 8), (env 35)] h1) fun v2 h2 =>
 bnd (r 33 [(env 0), v2] h2) fun v3 h3 =>
 bnd (aC 0 v3 h3) fun v4 h4 =>
 bnd (aC 1 v3 h4) fun v5 h5 =>
 bnd (aL [(.s [])] 1 [(0, 1, v4)] h5) fun v6 h6 =>
 bnd (bA 1 16 (env 7) v6 h6) fun v7 h7 =>
 bnd (aD .add (env 35) (aE 1) h7) fun v8 h8 =>
      kk12 (env 0) (env 1) (env 5) (env 6) v7 (env 8) (env 34) v8 h8) (
      q2 (env 0) (env 1) (env 5) (env 6) (env 7) h1) := by kernel_rfl
theorem bFg (kk5 : dL) (kk12 : TT8) : (fun (env : aZ) (h : Hp) =>
 bnd (aD .lss (env 35) (env 34) h) fun v1 h1 =>
 aR v1 (
 bnd (r 51 [(env 0), (env 8), (env 35)] h1) fun v2 h2 =>
 bnd (r 33 [(env 0), v2] h2) fun v3 h3 =>
 bnd (aC 0 v3 h3) fun v4 h4 =>
 bnd (aC 1 v3 h4) fun v5 h5 =>
 bnd (aL [(.s [])] 1 [(0, 1, v4)] h5) fun v6 h6 =>
 bnd (bA 1 16 (env 7) v6 h6) fun v7 h7 =>
 bnd (aD .add (env 35) (aE 1) h7) fun v8 h8 =>
      kk12 (env 0) (env 1) (env 5) (env 6) v7 (env 8) (env 34) v8 h8) (
      eC r n kk5 (env 0) (env 1) (env 5) (env 6) (env 7) h1)) = (K8 (aKe r n kk5 kk12) 0 1 5 6 7 8 34 35) := by kernel_rfl
theorem bJo (kk5 : dL) (kk12 : TT8) : D77 r n mK (xs (xs (xs x0 0 (K1 (bY r n) 5)) 1 (K4 (cV r n kk5) 0 1 5 6)) 2 (K5 (eC r n kk5) 0 1 5 6 7)) (K8 kk12 0 1 5 6 7 8 34 35) = (K8 (aKe r n kk5 kk12) 0 1 5 6 7 8 34 35) :=
 (bYv r n kk5 kk12 (bY r n) (cV r n kk5) (eC r n kk5)).trans (bFg r n kk5 kk12)
theorem bUl (kk5 : dL) (m : Nat) : aO (fun kk => D77 r n mK (xs (xs (xs x0 0 (K1 (bY r n) 5)) 1 (K4 (cV r n kk5) 0 1 5 6)) 2 (K5 (eC r n kk5) 0 1 5 6 7)) kk) m = (K8 (uR r n kk5 m) 0 1 5 6 7 8 34 35) := by
 induction m with
 | zero => exact (by kernel_rfl : aO (fun kk => D77 r n mK (xs (xs (xs x0 0 (K1 (bY r n) 5)) 1 (K4 (cV r n kk5) 0 1 5 6)) 2 (K5 (eC r n kk5) 0 1 5 6 7)) kk) 0 = (K8 (uR r n kk5 0) 0 1 5 6 7 8 34 35))
 | succ m ih =>
  refine (by kernel_rfl : aO (fun kk => D77 r n mK (xs (xs (xs x0 0 (K1 (bY r n) 5)) 1 (K4 (cV r n kk5) 0 1 5 6)) 2 (K5 (eC r n kk5) 0 1 5 6 7)) kk) (m + 1) = D77 r n mK (xs (xs (xs x0 0 (K1 (bY r n) 5)) 1 (K4 (cV r n kk5) 0 1 5 6)) 2 (K5 (eC r n kk5) 0 1 5 6 7)) (aO (fun kk => D77 r n mK (xs (xs (xs x0 0 (K1 (bY r n) 5)) 1 (K4 (cV r n kk5) 0 1 5 6)) 2 (K5 (eC r n kk5) 0 1 5 6 7)) kk) m)).trans ?_
  rw [ih]
  exact (bJo r n kk5 (uR r n kk5 m)).trans (by kernel_rfl)
theorem cKm (kk5 : dL) : D77 r n aGp (xs (xs (xs x0 0 (K1 (bY r n) 5)) 1 (K4 (cV r n kk5) 0 1 5 6)) 2 (K5 (eC r n kk5) 0 1 5 6 7)) (K5 (eC r n kk5) 0 1 5 6 7) = (K8 (bXa r n kk5) 0 1 5 6 7 8 34 35) :=
 (by kernel_rfl : D77 r n aGp (xs (xs (xs x0 0 (K1 (bY r n) 5)) 1 (K4 (cV r n kk5) 0 1 5 6)) 2 (K5 (eC r n kk5) 0 1 5 6 7)) (K5 (eC r n kk5) 0 1 5 6 7) = aO (fun kk => D77 r n mK (xs (xs (xs x0 0 (K1 (bY r n) 5)) 1 (K4 (cV r n kk5) 0 1 5 6)) 2 (K5 (eC r n kk5) 0 1 5 6 7)) kk) n).trans ((bUl r n kk5 n).trans (by kernel_rfl))
theorem cOr (kk5 : dL) : D77 r n aUe (xs (xs x0 0 (K1 (bY r n) 5)) 1 (K4 (cV r n kk5) 0 1 5 6)) (K5 (eC r n kk5) 0 1 5 6 7) = (K8 (aOr r n kk5) 0 1 5 6 7 8 34 35) :=
 (by kernel_rfl : D77 r n aUe (xs (xs x0 0 (K1 (bY r n) 5)) 1 (K4 (cV r n kk5) 0 1 5 6)) (K5 (eC r n kk5) 0 1 5 6 7) = D77 r n aGp (xs (xs (xs x0 0 (K1 (bY r n) 5)) 1 (K4 (cV r n kk5) 0 1 5 6)) 2 (K5 (eC r n kk5) 0 1 5 6 7)) (K5 (eC r n kk5) 0 1 5 6 7)).trans
 ((cKm r n kk5).trans (by kernel_rfl))
theorem cEa (kk5 : dL) : D77 r n aEt (xs (xs x0 0 (K1 (bY r n) 5)) 1 (K4 (cV r n kk5) 0 1 5 6)) (K4 (cV r n kk5) 0 1 5 6) = D77 r n zO (xs (xs x0 0 (K1 (bY r n) 5)) 1 (K4 (cV r n kk5) 0 1 5 6)) (K5 (eC r n kk5) 0 1 5 6 7) :=
 congrArg (fun k => D77 r n zO (xs (xs x0 0 (K1 (bY r n) 5)) 1 (K4 (cV r n kk5) 0 1 5 6)) k) (cOm r n kk5)
theorem cLr (kk5 : dL) : D77 r n zO (xs (xs x0 0 (K1 (bY r n) 5)) 1 (K4 (cV r n kk5) 0 1 5 6)) (K5 (eC r n kk5) 0 1 5 6 7) = D77 r n bIc (xs (xs x0 0 (K1 (bY r n) 5)) 1 (K4 (cV r n kk5) 0 1 5 6)) (K8 (aOr r n kk5) 0 1 5 6 7 8 34 35) :=
 congrArg (fun k => D77 r n bIc (xs (xs x0 0 (K1 (bY r n) 5)) 1 (K4 (cV r n kk5) 0 1 5 6)) k) (cOr r n kk5)
theorem cSo (kk5 : dL) : D77 r n aEt (xs (xs x0 0 (K1 (bY r n) 5)) 1 (K4 (cV r n kk5) 0 1 5 6)) (K4 (cV r n kk5) 0 1 5 6) = (K6 (bGk r n kk5) 0 1 5 6 7 8) :=
 (cEa r n kk5).trans
 ((cLr r n kk5).trans
 ((by kernel_rfl)))
theorem cJn (kk5 : dL) : D77 r n aBt (xs (xs x0 0 (K1 (bY r n) 5)) 1 (K4 (cV r n kk5) 0 1 5 6)) (K4 (cV r n kk5) 0 1 5 6) = D77 r n bId (xs (xs x0 0 (K1 (bY r n) 5)) 1 (K4 (cV r n kk5) 0 1 5 6)) (K6 (bGk r n kk5) 0 1 5 6 7 8) :=
 congrArg (fun k => D77 r n bId (xs (xs x0 0 (K1 (bY r n) 5)) 1 (K4 (cV r n kk5) 0 1 5 6)) k) (cSo r n kk5)
theorem dAe (kk5 : dL) : D77 r n aBt (xs (xs x0 0 (K1 (bY r n) 5)) 1 (K4 (cV r n kk5) 0 1 5 6)) (K4 (cV r n kk5) 0 1 5 6) = (K5 (bWu r n kk5) 0 1 5 6 7) :=
 (cJn r n kk5).trans
 ((by kernel_rfl))
theorem cEi (kk5 : dL) : D77 r n aVb (xs x0 0 (K1 (bY r n) 5)) (K4 kk5 0 1 5 6) = D77 r n aJo (xs x0 0 (K1 (bY r n) 5)) (K4 (cV r n kk5) 0 1 5 6) :=
 congrArg (fun k => D77 r n aJo (xs x0 0 (K1 (bY r n) 5)) k) (cXj r n kk5)
theorem cFw (kk5 : dL) : D77 r n aHy (xs (xs x0 0 (K1 (bY r n) 5)) 1 (K4 (cV r n kk5) 0 1 5 6)) (K4 (cV r n kk5) 0 1 5 6) = D77 r n bTd (xs (xs x0 0 (K1 (bY r n) 5)) 1 (K4 (cV r n kk5) 0 1 5 6)) (K5 (bWu r n kk5) 0 1 5 6 7) :=
 congrArg (fun k => D77 r n bTd (xs (xs x0 0 (K1 (bY r n) 5)) 1 (K4 (cV r n kk5) 0 1 5 6)) k) (dAe r n kk5)
theorem cTb (kk5 : dL) : D77 r n aVb (xs x0 0 (K1 (bY r n) 5)) (K4 kk5 0 1 5 6) = (K4 (bRr r n kk5) 0 1 5 6) :=
 (cEi r n kk5).trans
 ((by kernel_rfl : D77 r n aJo (xs x0 0 (K1 (bY r n) 5)) (K4 (cV r n kk5) 0 1 5 6) = D77 r n aHy (xs (xs x0 0 (K1 (bY r n) 5)) 1 (K4 (cV r n kk5) 0 1 5 6)) (K4 (cV r n kk5) 0 1 5 6)).trans
 ((cFw r n kk5).trans
 ((by kernel_rfl))))
theorem cKf (kk5 : dL) : D77 r n nK (xs x0 0 (K1 (bY r n) 5)) (K4 kk5 0 1 5 6) = D77 r n bZh (xs x0 0 (K1 (bY r n) 5)) (K4 (bRr r n kk5) 0 1 5 6) :=
 congrArg (fun k => D77 r n bZh (xs x0 0 (K1 (bY r n) 5)) k) (cTb r n kk5)
theorem cFg (kk5 : dL) : D77 r n nK (xs x0 0 (K1 (bY r n) 5)) (K4 kk5 0 1 5 6) = (K4 (bKq r n kk5) 0 1 5 6) :=
 (cKf r n kk5).trans
 ((by kernel_rfl))
theorem cGj (m : Nat) : aO (fun kk => D77 r n nK (xs x0 0 (K1 (bY r n) 5)) kk) m = (K4 (aId r n m) 0 1 5 6) := by
 induction m with
 | zero => exact (by kernel_rfl : aO (fun kk => D77 r n nK (xs x0 0 (K1 (bY r n) 5)) kk) 0 = (K4 (aId r n 0) 0 1 5 6))
 | succ m ih =>
  refine (by kernel_rfl : aO (fun kk => D77 r n nK (xs x0 0 (K1 (bY r n) 5)) kk) (m + 1) = D77 r n nK (xs x0 0 (K1 (bY r n) 5)) (aO (fun kk => D77 r n nK (xs x0 0 (K1 (bY r n) 5)) kk) m)).trans ?_
  rw [ih]
  exact (cFg r n (aId r n m)).trans (by kernel_rfl)
theorem dAw : D77 r n aXk (xs x0 0 (K1 (bY r n) 5)) (K1 (bY r n) 5) = (K4 (cQu r n) 0 1 5 6) :=
 (by kernel_rfl : D77 r n aXk (xs x0 0 (K1 (bY r n) 5)) (K1 (bY r n) 5) = aO (fun kk => D77 r n nK (xs x0 0 (K1 (bY r n) 5)) kk) n).trans ((cGj r n n).trans (by kernel_rfl))
theorem cTt : D77 r n bTq x0 (K1 (bY r n) 5) = (K4 (bZz r n) 0 1 5 6) :=
 (by kernel_rfl : D77 r n bTq x0 (K1 (bY r n) 5) = D77 r n aXk (xs x0 0 (K1 (bY r n) 5)) (K1 (bY r n) 5)).trans
 ((dAw r n).trans (by kernel_rfl))
theorem cCr : D77 r n aZu x0 r77 = D77 r n aMi x0 (K1 (bY r n) 5) :=
 congrArg (fun k => D77 r n aMi x0 k) (cRo r n)
theorem cFl : D77 r n aMi x0 (K1 (bY r n) 5) = D77 r n bGr x0 (K4 (bZz r n) 0 1 5 6) :=
 congrArg (fun k => D77 r n bGr x0 k) (cTt r n)
theorem dAn : D77 r n aZu x0 r77 = (K3 (bOg r n) 0 1 5) :=
 (cCr r n).trans
 ((cFl r n).trans
 ((by kernel_rfl)))
theorem bJl : D77 r n bCe x0 r77 = D77 r n bIt x0 (K3 (bOg r n) 0 1 5) :=
 congrArg (fun k => D77 r n bIt x0 k) (dAn r n)
theorem cVz : D77 r n bCe x0 r77 = (K2 (bXo r n) 0 1) :=
 (bJl r n).trans
 ((by kernel_rfl))
theorem cRv : D77 r n c77 x0 r77 = D77 r n bLu x0 (K2 (bXo r n) 0 1) :=
 congrArg (fun k => D77 r n bLu x0 k) (cVz r n)
theorem dLi : D77 r n c77 x0 r77 = (K2 (s77 r n) 0 1) :=
 (cRv r n).trans
 ((by kernel_rfl))
theorem dGm : aF CF r n 77 args h = s77 r n (aS args 0) (aS args 1) h :=
 (by kernel_rfl : aF CF r n 77 args h = D77 r n c77 x0 r77 (aH args) h).trans ((congrFun (congrFun (dLi r n) (aH args)) h).trans (by kernel_rfl))
noncomputable def gK (r : RT) (n : Nat) (x10 : DV) (h0 : Hp) : aJ :=
 some (.t [x10, (aE 0)], h0)
noncomputable def rJ (r : RT) (n : Nat) (kk6 : cF) (x0 x10 x29 x30 x31 : DV) (h0 : Hp) : aJ :=
 bnd (aD .lss x31 x30 h0) fun v1 h1 =>
 aR v1 (
 bnd (aI 1 x29 x31 h1) fun v2 h2 =>
 bnd (aA v2 h2) fun v3 h3 =>
 bnd (aN x0 h3) fun v4 h4 =>
 bnd (aB 0 v4 h4) fun v5 h5 =>
 bnd (aA v5 h5) fun v6 h6 =>
 bnd (qF [v6, x10, x31, v3] h6) fun v7 h7 =>
 bnd (aD .add x31 (aE 1) h7) fun v8 h8 =>
      kk6 x0 x10 x29 x30 v8 h8) (
      gK r n x10 h1)
noncomputable def nM (r : RT) (n : Nat) (m : Nat) : cF :=
 Nat.rec (motive := fun _ => cF) (fun _ _ _ _ _ _ => none) (fun _ ih => rJ r n ih) m
noncomputable def bLy (r : RT) (n : Nat) : cF := nM r n n
noncomputable def bAq (r : RT) (n : Nat) (x0 x10 x29 x30 x31 : DV) (h0 : Hp) : aJ :=
 bLy r n x0 x10 x29 x30 x31 h0
noncomputable def aXu (r : RT) (n : Nat) (x0 x3 x10 : DV) (h0 : Hp) : aJ :=
 bnd (bZ x3 h0) fun v1 h1 =>
  bAq r n x0 x10 x3 v1 (aE 0) h1
noncomputable def aYp (r : RT) (n : Nat) (x0 x3 x10 x11 : DV) (h0 : Hp) : aJ :=
 bnd (aD .neq x11 (aE 0) h0) fun v1 h1 =>
 aR v1 (
 some (.t [(aE 0), x11], h1)) (
  aXu r n x0 x3 x10 h1)
noncomputable def aXy (r : RT) (n : Nat) (x0 x1 x2 x3 : DV) (h0 : Hp) : aJ :=
 bnd (aN x0 h0) fun v1 h1 =>
 bnd (aB 0 v1 h1) fun v2 h2 =>
 bnd (aA v2 h2) fun v3 h3 =>
 bnd (bZ x3 h3) fun v4 h4 =>
 bnd (iS [v3, x1, x2, v4] h4) fun v5 h5 =>
 bnd (aC 0 v5 h5) fun v6 h6 =>
 bnd (aC 1 v5 h6) fun v7 h7 =>
  aYp r n x0 x3 v6 v7 h7
noncomputable def s82 (r : RT) (n : Nat) (x0 x1 x2 x3 : DV) (h0 : Hp) : aJ :=
 aXy r n x0 x1 x2 x3 h0
noncomputable abbrev c82 : Code := cf Tryz.f82
noncomputable abbrev aWf : Code := cR c82
noncomputable abbrev aXb : Code := cR aWf
noncomputable abbrev bBv : Code := cR aXb
noncomputable abbrev dFz : Code := cR bBv
noncomputable abbrev aNe : Code := cL bBv
noncomputable abbrev cAr : Code := cR aNe
noncomputable abbrev aZk : Code := cL cAr
noncomputable abbrev yD : Code := cL aZk
noncomputable abbrev cQv : Code := cL aNe
noncomputable abbrev bRb : Code := cL aXb
noncomputable abbrev bOv : Code := cL aWf
noncomputable abbrev bHe : Code := cL c82
noncomputable abbrev r82 : K := aU CF Tryz.f82
noncomputable def D82 (r : RT) (n : Nat) (c : Code) (X : Nat → K) (k : K) : K := aM CF r 46 n c X r82 k
theorem dBi : D82 r n dFz x0 r82 = (K1 (gK r n) 10) :=
 (by kernel_rfl)
theorem cHq (kk6 : cF) : D82 r n yD (xs x0 0 (K1 (gK r n) 10)) (K5 kk6 0 10 29 30 31) = (K5 (rJ r n kk6) 0 10 29 30 31) :=
 (by kernel_rfl)
theorem cDl (m : Nat) : aO (fun kk => D82 r n yD (xs x0 0 (K1 (gK r n) 10)) kk) m = (K5 (nM r n m) 0 10 29 30 31) := by
 induction m with
 | zero => exact (by kernel_rfl : aO (fun kk => D82 r n yD (xs x0 0 (K1 (gK r n) 10)) kk) 0 = (K5 (nM r n 0) 0 10 29 30 31))
 | succ m ih =>
  refine (by kernel_rfl : aO (fun kk => D82 r n yD (xs x0 0 (K1 (gK r n) 10)) kk) (m + 1) = D82 r n yD (xs x0 0 (K1 (gK r n) 10)) (aO (fun kk => D82 r n yD (xs x0 0 (K1 (gK r n) 10)) kk) m)).trans ?_
  rw [ih]
  exact (cHq r n (nM r n m)).trans (by kernel_rfl)
theorem cYd : D82 r n aZk (xs x0 0 (K1 (gK r n) 10)) (K1 (gK r n) 10) = (K5 (bLy r n) 0 10 29 30 31) :=
 (by kernel_rfl : D82 r n aZk (xs x0 0 (K1 (gK r n) 10)) (K1 (gK r n) 10) = aO (fun kk => D82 r n yD (xs x0 0 (K1 (gK r n) 10)) kk) n).trans ((cDl r n n).trans (by kernel_rfl))
theorem dAl : D82 r n cAr x0 (K1 (gK r n) 10) = (K5 (bAq r n) 0 10 29 30 31) :=
 (by kernel_rfl : D82 r n cAr x0 (K1 (gK r n) 10) = D82 r n aZk (xs x0 0 (K1 (gK r n) 10)) (K1 (gK r n) 10)).trans
 ((cYd r n).trans (by kernel_rfl))
theorem cGt : D82 r n bBv x0 r82 = D82 r n aNe x0 (K1 (gK r n) 10) :=
 congrArg (fun k => D82 r n aNe x0 k) (dBi r n)
theorem cHm : D82 r n aNe x0 (K1 (gK r n) 10) = D82 r n cQv x0 (K5 (bAq r n) 0 10 29 30 31) :=
 congrArg (fun k => D82 r n cQv x0 k) (dAl r n)
theorem dAd : D82 r n bBv x0 r82 = (K3 (aXu r n) 0 3 10) :=
 (cGt r n).trans
 ((cHm r n).trans
 ((by kernel_rfl)))
theorem cGz : D82 r n aXb x0 r82 = D82 r n bRb x0 (K3 (aXu r n) 0 3 10) :=
 congrArg (fun k => D82 r n bRb x0 k) (dAd r n)
theorem dBg : D82 r n aXb x0 r82 = (K4 (aYp r n) 0 3 10 11) :=
 (cGz r n).trans
 ((by kernel_rfl))
theorem cOt : D82 r n aWf x0 r82 = D82 r n bOv x0 (K4 (aYp r n) 0 3 10 11) :=
 congrArg (fun k => D82 r n bOv x0 k) (dBg r n)
theorem dAo : D82 r n aWf x0 r82 = (K4 (aXy r n) 0 1 2 3) :=
 (cOt r n).trans
 ((by kernel_rfl))
theorem dGg : D82 r n c82 x0 r82 = D82 r n bHe x0 (K4 (aXy r n) 0 1 2 3) :=
 congrArg (fun k => D82 r n bHe x0 k) (dAo r n)
theorem dNo : D82 r n c82 x0 r82 = (K4 (s82 r n) 0 1 2 3) :=
 (dGg r n).trans
 ((by kernel_rfl))
theorem cQh : aF CF r n 82 args h = s82 r n (aS args 0) (aS args 1) (aS args 2) (aS args 3) h :=
 (by kernel_rfl : aF CF r n 82 args h = D82 r n c82 x0 r82 (aH args) h).trans ((congrFun (congrFun (dNo r n) (aH args)) h).trans (by kernel_rfl))
noncomputable def fN (r : RT) (n : Nat) (x0 x1 x8 : DV) (h0 : Hp) : aJ :=
 bnd (r 82 [x0, x1, (aE 2), x8] h0) fun v1 h1 =>
 bnd (aC 0 v1 h1) fun v2 h2 =>
 bnd (aC 1 v1 h2) fun v3 h3 =>
 some (.t [v2, v3], h3)
noncomputable def nP (r : RT) (n : Nat) (kk5 : fG) (x0 x1 x2 x8 x11 x12 : DV) (h0 : Hp) : aJ :=
 bnd (aD .lss x12 x11 h0) fun v1 h1 =>
 aR v1 (
 bnd (fF x2 x12 h1) fun v2 h2 =>
 bnd (eA .i64 v2 h2) fun v3 h3 =>
 bnd (aL [(aE 0)] 1 [(0, 1, v3)] h3) fun v4 h4 =>
 bnd (bA 1 8 x8 v4 h4) fun v5 h5 =>
 bnd (aD .add x12 (aE 1) h5) fun v6 h6 =>
      kk5 x0 x1 x2 v5 x11 v6 h6) (
      fN r n x0 x1 x8 h1)
noncomputable def nL (r : RT) (n : Nat) (m : Nat) : fG :=
 Nat.rec (motive := fun _ => fG) (fun _ _ _ _ _ _ _ => none) (fun _ ih => nP r n ih) m
noncomputable def cAm (r : RT) (n : Nat) : fG := nL r n n
noncomputable def aXh (r : RT) (n : Nat) (x0 x1 x2 x8 x11 x12 : DV) (h0 : Hp) : aJ :=
 cAm r n x0 x1 x2 x8 x11 x12 h0
noncomputable def aYg (r : RT) (n : Nat) (x0 x1 x2 x8 : DV) (h0 : Hp) : aJ :=
 bnd (dU x2 h0) fun v1 h1 =>
  aXh r n x0 x1 x2 x8 v1 (aE 0) h1
noncomputable def aVc (r : RT) (n : Nat) (x0 x1 x2 : DV) (h0 : Hp) : aJ :=
 aYg r n x0 x1 x2 .l0 h0
noncomputable def s83 (r : RT) (n : Nat) (x0 x1 x2 : DV) (h0 : Hp) : aJ :=
 aVc r n x0 x1 x2 h0
noncomputable abbrev c83 : Code := cf Tryz.f83
noncomputable abbrev bAr : Code := cR c83
noncomputable abbrev aXl : Code := cR bAr
noncomputable abbrev dKh : Code := cR aXl
noncomputable abbrev aNm : Code := cL aXl
noncomputable abbrev bYs : Code := cR aNm
noncomputable abbrev aVu : Code := cL bYs
noncomputable abbrev sB : Code := cL aVu
noncomputable abbrev cQy : Code := cL aNm
noncomputable abbrev cQx : Code := cL bAr
noncomputable abbrev bZi : Code := cL c83
noncomputable abbrev r83 : K := aU CF Tryz.f83
noncomputable def D83 (r : RT) (n : Nat) (c : Code) (X : Nat → K) (k : K) : K := aM CF r 29 n c X r83 k
theorem cVe : D83 r n dKh x0 r83 = (K3 (fN r n) 0 1 8) :=
 (by kernel_rfl)
theorem cOh (kk5 : fG) (q0 : mW) : D83 r n sB (xs x0 0 (K3 q0 0 1 8)) (K6 kk5 0 1 2 8 11 12) = fun (env : aZ) (h : Hp) =>
 bnd (aD .lss (env 12) (env 11) h) fun v1 h1 =>
 aR v1 (
 bnd (fF (env 2) (env 12) h1) fun v2 h2 =>
 bnd (eA .i64 v2 h2) fun v3 h3 =>
 bnd (aL [(aE 0)] 1 [(0, 1, v3)] h3) fun v4 h4 =>
 bnd (bA 1 8 (env 8) v4 h4) fun v5 h5 =>
 bnd (aD .add (env 12) (aE 1) h5) fun v6 h6 =>
      kk5 (env 0) (env 1) (env 2) v5 (env 11) v6 h6) (
      q0 (env 0) (env 1) (env 8) h1) := by kernel_rfl
theorem bSf (kk5 : fG) : (fun (env : aZ) (h : Hp) =>
 bnd (aD .lss (env 12) (env 11) h) fun v1 h1 =>
 aR v1 (
 bnd (fF (env 2) (env 12) h1) fun v2 h2 =>
 bnd (eA .i64 v2 h2) fun v3 h3 =>
 bnd (aL [(aE 0)] 1 [(0, 1, v3)] h3) fun v4 h4 =>
 bnd (bA 1 8 (env 8) v4 h4) fun v5 h5 =>
 bnd (aD .add (env 12) (aE 1) h5) fun v6 h6 =>
      kk5 (env 0) (env 1) (env 2) v5 (env 11) v6 h6) (
      fN r n (env 0) (env 1) (env 8) h1)) = (K6 (nP r n kk5) 0 1 2 8 11 12) := by kernel_rfl
theorem cEp (kk5 : fG) : D83 r n sB (xs x0 0 (K3 (fN r n) 0 1 8)) (K6 kk5 0 1 2 8 11 12) = (K6 (nP r n kk5) 0 1 2 8 11 12) :=
 (cOh r n kk5 (fN r n)).trans (bSf r n kk5)
theorem cLd (m : Nat) : aO (fun kk => D83 r n sB (xs x0 0 (K3 (fN r n) 0 1 8)) kk) m = (K6 (nL r n m) 0 1 2 8 11 12) := by
 induction m with
 | zero => exact (by kernel_rfl : aO (fun kk => D83 r n sB (xs x0 0 (K3 (fN r n) 0 1 8)) kk) 0 = (K6 (nL r n 0) 0 1 2 8 11 12))
 | succ m ih =>
  refine (by kernel_rfl : aO (fun kk => D83 r n sB (xs x0 0 (K3 (fN r n) 0 1 8)) kk) (m + 1) = D83 r n sB (xs x0 0 (K3 (fN r n) 0 1 8)) (aO (fun kk => D83 r n sB (xs x0 0 (K3 (fN r n) 0 1 8)) kk) m)).trans ?_
  rw [ih]
  exact (cEp r n (nL r n m)).trans (by kernel_rfl)
theorem cZn : D83 r n aVu (xs x0 0 (K3 (fN r n) 0 1 8)) (K3 (fN r n) 0 1 8) = (K6 (cAm r n) 0 1 2 8 11 12) :=
 (by kernel_rfl : D83 r n aVu (xs x0 0 (K3 (fN r n) 0 1 8)) (K3 (fN r n) 0 1 8) = aO (fun kk => D83 r n sB (xs x0 0 (K3 (fN r n) 0 1 8)) kk) n).trans ((cLd r n n).trans (by kernel_rfl))
theorem cYf : D83 r n bYs x0 (K3 (fN r n) 0 1 8) = (K6 (aXh r n) 0 1 2 8 11 12) :=
 (by kernel_rfl : D83 r n bYs x0 (K3 (fN r n) 0 1 8) = D83 r n aVu (xs x0 0 (K3 (fN r n) 0 1 8)) (K3 (fN r n) 0 1 8)).trans
 ((cZn r n).trans (by kernel_rfl))
theorem cPr : D83 r n aXl x0 r83 = D83 r n aNm x0 (K3 (fN r n) 0 1 8) :=
 congrArg (fun k => D83 r n aNm x0 k) (cVe r n)
theorem cBh : D83 r n aNm x0 (K3 (fN r n) 0 1 8) = D83 r n cQy x0 (K6 (aXh r n) 0 1 2 8 11 12) :=
 congrArg (fun k => D83 r n cQy x0 k) (cYf r n)
theorem cUs : D83 r n aXl x0 r83 = (K4 (aYg r n) 0 1 2 8) :=
 (cPr r n).trans
 ((cBh r n).trans
 ((by kernel_rfl)))
theorem cOx : D83 r n bAr x0 r83 = D83 r n cQx x0 (K4 (aYg r n) 0 1 2 8) :=
 congrArg (fun k => D83 r n cQx x0 k) (cUs r n)
theorem dCn : D83 r n bAr x0 r83 = (K3 (aVc r n) 0 1 2) :=
 (cOx r n).trans
 ((by kernel_rfl))
theorem dGf : D83 r n c83 x0 r83 = D83 r n bZi x0 (K3 (aVc r n) 0 1 2) :=
 congrArg (fun k => D83 r n bZi x0 k) (dCn r n)
theorem dOo : D83 r n c83 x0 r83 = (K3 (s83 r n) 0 1 2) :=
 (dGf r n).trans
 ((by kernel_rfl))
theorem cPu : aF CF r n 83 args h = s83 r n (aS args 0) (aS args 1) (aS args 2) h :=
 (by kernel_rfl : aF CF r n 83 args h = D83 r n c83 x0 r83 (aH args) h).trans ((congrFun (congrFun (dOo r n) (aH args)) h).trans (by kernel_rfl))
noncomputable def s84 (r : RT) (n : Nat) (x0 x1 : DV) (h0 : Hp) : aJ :=
 bnd (aA x1 h0) fun v1 h1 =>
 bnd (aN v1 h1) fun v2 h2 =>
 bnd (aB 0 v2 h2) fun v3 h3 =>
 bnd (aA v3 h3) fun v4 h4 =>
 bnd (aAb [v4, x0] h4) fun v5 h5 =>
 bnd (gX .not v5 h5) fun v6 h6 =>
 some (v6, h6)
noncomputable abbrev c84 : Code := cf Tryz.f84
noncomputable abbrev r84 : K := aU CF Tryz.f84
noncomputable def D84 (r : RT) (n : Nat) (c : Code) (X : Nat → K) (k : K) : K := aM CF r 11 n c X r84 k
theorem dOz : D84 r n c84 x0 r84 = (K2 (s84 r n) 0 1) :=
 (by kernel_rfl)
theorem cQa : aF CF r n 84 args h = s84 r n (aS args 0) (aS args 1) h :=
 (by kernel_rfl : aF CF r n 84 args h = D84 r n c84 x0 r84 (aH args) h).trans ((congrFun (congrFun (dOz r n) (aH args)) h).trans (by kernel_rfl))
noncomputable def gV (r : RT) (n : Nat) (h0 : Hp) : aJ :=
 some ((.i .i64 (Int.negSucc 0)), h0)
noncomputable def gT (r : RT) (n : Nat) (kk4 : dL) (x0 x1 x7 x8 : DV) (h0 : Hp) : aJ :=
 bnd (aD .lss x8 x7 h0) fun v1 h1 =>
 aR v1 (
 bnd (aI 1 x0 x8 h1) fun v2 h2 =>
 bnd (aA v2 h2) fun v3 h3 =>
 bnd (cX CF r x1 [v3] h3) fun v4 h4 =>
 aR v4 (
 some (x8, h4)) (
 bnd (aD .add x8 (aE 1) h4) fun v5 h5 =>
    kk4 x0 x1 x7 v5 h5)) (
      gV r n h1)
noncomputable def iO (r : RT) (n : Nat) (m : Nat) : dL :=
 Nat.rec (motive := fun _ => dL) (fun _ _ _ _ _ => none) (fun _ ih => gT r n ih) m
noncomputable def bAd (r : RT) (n : Nat) : dL := iO r n n
noncomputable def aKt (r : RT) (n : Nat) (x0 x1 x7 x8 : DV) (h0 : Hp) : aJ :=
 bAd r n x0 x1 x7 x8 h0
noncomputable def aLq (r : RT) (n : Nat) (x0 x1 : DV) (h0 : Hp) : aJ :=
 bnd (bZ x0 h0) fun v1 h1 =>
  aKt r n x0 x1 v1 (aE 0) h1
noncomputable def s89 (r : RT) (n : Nat) (x0 x1 : DV) (h0 : Hp) : aJ :=
 aLq r n x0 x1 h0
noncomputable abbrev c89 : Code := cf Tryz.f89
noncomputable abbrev bAn : Code := cR c89
noncomputable abbrev dFx : Code := cR bAn
noncomputable abbrev aLf : Code := cL bAn
noncomputable abbrev bGz : Code := cR aLf
noncomputable abbrev aUr : Code := cL bGz
noncomputable abbrev yS : Code := cL aUr
noncomputable abbrev cQf : Code := cL aLf
noncomputable abbrev cPw : Code := cL c89
noncomputable abbrev r89 : K := aU CF Tryz.f89
noncomputable def D89 (r : RT) (n : Nat) (c : Code) (X : Nat → K) (k : K) : K := aM CF r 19 n c X r89 k
theorem cSm : D89 r n dFx x0 r89 = (K0 (gV r n)) :=
 (by kernel_rfl)
theorem cPs (kk4 : dL) : D89 r n yS (xs x0 0 (K0 (gV r n))) (K4 kk4 0 1 7 8) = (K4 (gT r n kk4) 0 1 7 8) :=
 (by kernel_rfl)
theorem cBt (m : Nat) : aO (fun kk => D89 r n yS (xs x0 0 (K0 (gV r n))) kk) m = (K4 (iO r n m) 0 1 7 8) := by
 induction m with
 | zero => exact (by kernel_rfl : aO (fun kk => D89 r n yS (xs x0 0 (K0 (gV r n))) kk) 0 = (K4 (iO r n 0) 0 1 7 8))
 | succ m ih =>
  refine (by kernel_rfl : aO (fun kk => D89 r n yS (xs x0 0 (K0 (gV r n))) kk) (m + 1) = D89 r n yS (xs x0 0 (K0 (gV r n))) (aO (fun kk => D89 r n yS (xs x0 0 (K0 (gV r n))) kk) m)).trans ?_
  rw [ih]
  exact (cPs r n (iO r n m)).trans (by kernel_rfl)
theorem cRz : D89 r n aUr (xs x0 0 (K0 (gV r n))) (K0 (gV r n)) = (K4 (bAd r n) 0 1 7 8) :=
 (by kernel_rfl : D89 r n aUr (xs x0 0 (K0 (gV r n))) (K0 (gV r n)) = aO (fun kk => D89 r n yS (xs x0 0 (K0 (gV r n))) kk) n).trans ((cBt r n n).trans (by kernel_rfl))
theorem cRs : D89 r n bGz x0 (K0 (gV r n)) = (K4 (aKt r n) 0 1 7 8) :=
 (by kernel_rfl : D89 r n bGz x0 (K0 (gV r n)) = D89 r n aUr (xs x0 0 (K0 (gV r n))) (K0 (gV r n))).trans
 ((cRz r n).trans (by kernel_rfl))
theorem cJl : D89 r n bAn x0 r89 = D89 r n aLf x0 (K0 (gV r n)) :=
 congrArg (fun k => D89 r n aLf x0 k) (cSm r n)
theorem cGd : D89 r n aLf x0 (K0 (gV r n)) = D89 r n cQf x0 (K4 (aKt r n) 0 1 7 8) :=
 congrArg (fun k => D89 r n cQf x0 k) (cRs r n)
theorem cTw : D89 r n bAn x0 r89 = (K2 (aLq r n) 0 1) :=
 (cJl r n).trans
 ((cGd r n).trans
 ((by kernel_rfl)))
theorem dGs : D89 r n c89 x0 r89 = D89 r n cPw x0 (K2 (aLq r n) 0 1) :=
 congrArg (fun k => D89 r n cPw x0 k) (cTw r n)
theorem dPe : D89 r n c89 x0 r89 = (K2 (s89 r n) 0 1) :=
 (dGs r n).trans
 ((by kernel_rfl))
theorem bWp : aF CF r n 89 args h = s89 r n (aS args 0) (aS args 1) h :=
 (by kernel_rfl : aF CF r n 89 args h = D89 r n c89 x0 r89 (aH args) h).trans ((congrFun (congrFun (dPe r n) (aH args)) h).trans (by kernel_rfl))
end Go.Dd

