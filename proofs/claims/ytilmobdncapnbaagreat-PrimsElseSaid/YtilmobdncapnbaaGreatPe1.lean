/- A part of the proof: N O CH RF1 RF2 RF3 RF4 RF5 RF6 RF7 SM SN RS RG MF Qh Q0 Q1 Q2: each text has a comment of its own. -/
import Derived.Test.YtilmobdncapnbaaGreatPe0
import Derived.LoopN
import Derived.Scope
import Derived.OrdersIn
import Derived.LoopNIn
import Derived.LoopIn
import Derived.RangeFuncIn
import Derived.RangeFuncCalls
import Derived.RangeFuncLeaves
import Derived.Test.YtilmobdncapnbaaGreatProg
import Derived.KernelRfl
set_option linter.unusedVariables false
set_option linter.unusedSimpArgs false
set_option linter.constructorNameAsVariable false
set_option maxRecDepth 100000
namespace Go.Dd
open Go.RowKit (Below)
section
variable {C : Cfg} {G : Gd} {rec : FuncId → List DV → Hp → aH} {ops : Array Oper} {nt : Nat} {p0 : Pos}
theorem qW {listed : Array Bool} {i : Nat} : i ∈ Region.ready .any ops listed ↔ i < ops.size ∧ listed.getD i true = false ∧ ∃ o, ops[i]? = some o ∧ ∀ e ∈ o.after, Region.binds .any e = true → listed.getD e.on false = true := by
 unfold Region.ready
 rw [List.mem_filter]
 simp only [List.mem_range, Bool.and_eq_true, Bool.not_eq_eq_eq_not, Bool.not_true]
 constructor
 ·rintro ⟨h1, h2, h3⟩
  refine ⟨h1, h2, ops[i], by simp [h1], fun e he hb => ?_⟩
  simp only [h1, getElem?_pos, Option.map_some, Option.getD_some] at h3
  have := (Array.all_eq_true_iff_forall_mem.1 h3) e he
  simpa [hb] using this
 ·rintro ⟨h1, h2, o, ho, h3⟩
  refine ⟨h1, h2, ?_⟩
  simp only [ho, Option.map_some, Option.getD_some]
  refine Array.all_eq_true_iff_forall_mem.2 fun e he => ?_
  cases hb : Region.binds .any e with
  | false => simp
  | true => simp [h3 e he hb]
noncomputable def idp (C : Cfg) (ops : Array Oper) (p0 : Pos) (p : Nat) : Pos := bW (cB C.P (ops.toList.take p)) p0
structure Tr1 (C : Cfg) (rec : FuncId → List DV → Hp → aH) (ops : Array Oper) (nt : Nat) (p0 : Pos) (E : Nat → aU) (Hh : Nat → Hp) (V : Nat → DV) : Prop where
 ok : eZ C.P ops = true
 st : ∀ p o, ops[p]? = some o → StepT C rec ops (Region.before ops) nt (idp C ops p0 p) E Hh V 0 [(none, Hh 0)] p o
theorem Tr1.same {E : Nat → aU} {Hh : Nat → Hp} {V : Nat → DV} (T : Tr1 C rec ops nt p0 E Hh V) {p : Nat} {o : Oper} (ho : ops[p]? = some o) (hc : bR C.P o.op ≠ .acts) (hm : bR C.P o.op ≠ .makes) : Hh (p + 1) = Hh p := by
 have hs := (T.st p o ho).step hm
 cases hcl : bR C.P o.op with
 | pure => exact (qN hcl _ _ _ hs).1
 | reads => exact nG hcl hs
 | makes => exact absurd hcl hm
 | acts => exact absurd hcl hc
def cSz (C : Cfg) (ops : Array Oper) (q : Nat) : Prop := q = 0 ∨ ∃ j oj, ops[j]? = some oj ∧ bR C.P oj.op = .acts ∧ q = j + 1
theorem nK {m : Array Nat} {i q : Nat} {Pv : Hp → Prop} {Hh : Nat → Hp} {tl : List (Option Nat × Hp)} : ∀ d, q ≤ d → pZ m i Pv (iB C ops Hh 0 d ++ tl) →
  (∀ j oj, ops[j]? = some oj → bR C.P oj.op = .acts → q ≤ j → j < d → ¬ gA m j i = true) → pZ m i Pv (iB C ops Hh 0 q ++ tl)
 | 0, hq, hc, _ => by have : q = 0 := by omega
                      subst this; exact hc
 | d + 1, hq, hc, hno => by
  by_cases e : q = d + 1
  ·subst e; exact hc
  ·have hq' : q ≤ d := by omega
   simp only [iB, Nat.zero_add] at hc
   cases ha : iX C ops d with
   | false =>
    rw [ha] at hc
    simp only [Bool.false_eq_true, if_false, List.nil_append] at hc
    exact nK d hq' hc fun j oj h1 h2 h3 h4 => hno j oj h1 h2 h3 (by omega)
   | true =>
    rw [ha] at hc
    simp only [if_true, List.cons_append, List.nil_append] at hc
    obtain ⟨_, h2⟩ := hc
    have ⟨oj, hoj, hcj⟩ : ∃ oj, ops[d]? = some oj ∧ bR C.P oj.op = .acts := by
     unfold iX at ha
     split at ha
     ·rename_i o ho; exact ⟨o, ho, by simpa using ha⟩
     ·cases ha
    rcases h2 with h2 | h2
    ·exact absurd h2 (hno d oj hoj hcj hq' (by omega))
    ·exact nK d hq' h2 fun j oj h1 h2 h3 h4 => hno j oj h1 h2 h3 (by omega)
theorem Tr1.value {E : Nat → aU} {Hh : Nat → Hp} {V : Nat → DV} (T : Tr1 C rec ops nt p0 E Hh V) {listed : Array Bool} {i q : Nat} {o : Oper} (ho : ops[i]? = some o) (hc : bR C.P o.op ≠ .acts) (hm : bR C.P o.op ≠ .makes)
  (hq : cSz C ops q) (hgap : ∀ j oj, ops[j]? = some oj → bR C.P oj.op = .acts → (j < q ↔ S listed j))
  (hni : ¬ S listed i) (hdown : ∀ j x, gA (Region.before ops) j x = true → S listed x → S listed j) (hpre : ∀ j, gA (Region.before ops) j i = true → S listed j) :
  bJ C rec ops o (E i) (Hh q) = some (V i, Hh q) := by
 have hst := T.st i o ho
 cases hcl : bR C.P o.op with
 | acts => exact absurd hcl hc
 | makes => exact absurd hcl hm
 | pure => exact (qN hcl _ _ _ (hst.step hm)).2 _
 | reads =>
  rcases Nat.lt_or_ge i q with h | h
  ·rcases hq with rfl | ⟨j, oj, hj, haj, rfl⟩
   ·omega
   ·have hSj : S listed j := (hgap j oj hj haj).1 (by omega)
    have hij : i ≠ j := fun e => by subst e; exact hni hSj
    rcases (T.st j oj hj).acts haj i o (Nat.zero_le _) (by omega) ho hcl with h3 | h3
    ·exact absurd (hdown i j h3 hSj) hni
    ·exact rK hcl h3
  ·have h1 := hst.reads hcl
   rw [Nat.sub_zero] at h1
   have h2 := nK (q := q) i h h1 fun j oj hj haj hqj hji hord => by
    have := (hgap j oj hj haj).2 (hpre j hord)
    omega
   rcases hq with rfl | ⟨j, oj, hj, haj, rfl⟩
   ·exact h2.1
   ·simp only [iB, Nat.zero_add, (bEl hj).2 haj, if_true, List.cons_append, List.nil_append] at h2
    exact h2.1
theorem cRl {listed : Array Bool} {i j : Nat} (hi : i < listed.size) : S (listed.setIfInBounds i true) j ↔ (j = i ∨ S listed j) := by
 unfold S
 by_cases e : j = i
 ·subst e; simp [hi]
 ·simp [Array.getElem?_setIfInBounds_ne (Ne.symm e), e]
theorem qK {listed : Array Bool} {i : Nat} (hi : i < listed.size) : listed.getD i true = listed.getD i false := by
 simp [hi]
theorem dDe {V : Nat → DV} {env : aU} {listed : Array Bool} {i : Nat} {o : Oper} (ho : ops[i]? = some o) (hi : i < listed.size) (hni : ¬ S listed i) (t : Nat)
  (hlast : ∀ j oj, i < j → ops[j]? = some oj → oj.dst = some t → o.dst = some t → ¬ S listed j) :
  ∀ p, i < p → TS ops V env (listed.setIfInBounds i true) p t = if o.dst = some t then V i else TS ops V env listed p t := by
 have hbefore : ∀ p, p ≤ i → TS ops V env (listed.setIfInBounds i true) p = TS ops V env listed p := by
  intro p
  induction p with
  | zero => intro _; rfl
  | succ p ih =>
   intro h
   have e : (listed.setIfInBounds i true).getD p false = listed.getD p false := by simp [Array.getElem?_setIfInBounds_ne (show i ≠ p by omega)]
   simp only [TS, ih (by omega), e]
 intro p
 induction p with
 | zero => intro h; omega
 | succ p ih =>
  intro h
  by_cases hpi : p = i
  ·subst hpi
   have e1 : (listed.setIfInBounds p true).getD p false = true := by simp [hi]
   have e2 : ¬ listed.getD p false = true := hni
   simp only [TS, ho, hbefore p (Nat.le_refl _), e1, if_true, kS]
   rw [if_neg e2]
  ·have ih' := ih (by omega)
   have e : (listed.setIfInBounds i true).getD p false = listed.getD p false := by simp [Array.getElem?_setIfInBounds_ne (Ne.symm hpi)]
   cases hop : ops[p]? with
   | none => simp only [TS, hop]; exact ih'
   | some op =>
    simp only [TS, hop, e]
    split
    ·rename_i hl
     rw [kS, kS, ih']
     by_cases hd : op.dst = some t
     ·rw [if_pos hd, if_pos hd]
      by_cases hod : o.dst = some t
      ·exact absurd hl (hlast p op (by omega) hop hd hod)
      ·rw [if_neg hod]
     ·rw [if_neg hd, if_neg hd]
    ·exact ih'
def iE (C : Cfg) (ops : Array Oper) (listed : Array Bool) (q i : Nat) : Prop := ∃ o, ops[i]? = some o ∧ bR C.P o.op = .makes ∧ S listed i ∧ q ≤ i
def GX (G : Gd) (N : Nat) (C : Cfg) (ops : Array Oper) (listed : Array Bool) (R : Nat → Nat) (q : Nat) : Gd := ⟨G.B, fun k => G.X k ∨ ∃ i, iE C ops listed q i ∧ R i = k, N, G.W, G.ok⟩
structure Made (G : Gd) (C : Cfg) (ops : Array Oper) (p0 : Pos) (Hh : Nat → Hp) (ρ : cZ) (w : World) (R : Nat → Nat) (i : Nat) : Prop where
 name : ρ (idp C ops p0 i) = some ⟨R i, 0, 0, none⟩
 low : G.B ≤ R i
 ex : ¬ G.X (R i)
 row : ∃ (arr : Array Value) (t : TypeId) (cs : List DV), w.heap[R i]? = some (.cells arr t (0, 0)) ∧ VRs ρ cs arr.toList ∧ Hh (i + 1) = ⟨(Hh i).next, Tr.set (.row .ex cs) (idp C ops p0 i) (Hh i).bl⟩
theorem aLo {E : Nat → aU} {Hh : Nat → Hp} {V : Nat → DV} (T : Tr1 C rec ops nt p0 E Hh V) {listed : Array Bool} {R : Nat → Nat} {N q : Nat} {ρ : cZ} {w : World}
  (hmade : ∀ i, iE C ops listed q i → Made G C ops p0 Hh ρ w R i) (hdist : ∀ i i', iE C ops listed q i → iE C ops listed q i' → R i = R i' → i = i') :
  ∀ p, q ≤ p → p ≤ ops.size → (∀ j oj, ops[j]? = some oj → q ≤ j → j < p → bR C.P oj.op ≠ .acts ∧ (bR C.P oj.op = .makes → S listed j)) →
  HR (GX G N C ops listed R q) ρ (Hh q) w → HR (GX G N C ops listed R p) ρ (Hh p) w := by
 intro p
 induction p with
 | zero => intro h1 _ _ H; have : q = 0 := by omega
           subst this; exact H
 | succ p ih =>
  intro h1 h2 hr H
  by_cases e : q = p + 1
  ·subst e; exact H
  ·have H' := ih (by omega) (by omega) (fun j oj hj hq hjp => hr j oj hj hq (by omega)) H
   obtain ⟨o, ho⟩ : ∃ o, ops[p]? = some o := ⟨ops[p], by simp [show p < ops.size by omega]⟩
   obtain ⟨ha, hm⟩ := hr p o ho (by omega) (by omega)
   have hsub : ∀ k, (GX G N C ops listed R (p + 1)).X k → (GX G N C ops listed R p).X k := by
    rintro k (hk | ⟨i, ⟨oi, h3, h4, h5, h6⟩, h7⟩)
    ·exact .inl hk
    ·exact .inr ⟨i, ⟨oi, h3, h4, h5, by omega⟩, h7⟩
   by_cases hmk : bR C.P o.op = .makes
   ·have hE : iE C ops listed q p := ⟨o, ho, hmk, hm hmk, by omega⟩
    have hM := hmade p hE
    obtain ⟨arr, t, cs, r1, r2, r3⟩ := hM.row
    rw [r3]
    refine dSh (G := GX G N C ops listed R (p + 1)) H' rfl hsub (Nat.le_refl _) rfl hM.name r1 r2 hM.low ?_ (.inr ⟨p, ⟨o, ho, hmk, hm hmk, Nat.le_refl _⟩, rfl⟩)
    rintro (hk | ⟨i, ⟨oi, h3, h4, h5, h6⟩, h7⟩)
    ·exact hM.ex hk
    ·have := hdist i p ⟨oi, h3, h4, h5, by omega⟩ hE h7
     omega
   ·rw [T.same ho ha hmk]
    exact H'.weak rfl hsub (Nat.le_refl _) rfl
def Inv (DD : List Deferred) (C : Cfg) (G : Gd) (ops : Array Oper) (nt : Nat) (p0 : Pos) (N : Nat) (E : Nat → aU) (Hh : Nat → Hp) (V : Nat → DV) (ρ : cZ) (w0 : World) (listed : Array Bool) (a : Act) (w : World) : Prop :=
 listed.size = ops.size ∧ (∀ j x, gA (Region.before ops) j x = true → S listed x → S listed j) ∧
 ∃ q, q ≤ ops.size ∧ cSz C ops q ∧ (∀ j oj, ops[j]? = some oj → bR C.P oj.op = .acts → (j < q ↔ S listed j)) ∧
 ∃ (ρ' : cZ) (R : Nat → Nat), Ex G ρ ρ' ∧ HR (GX G N C ops listed R q) ρ' (Hh q) w ∧ EnvR ρ' (TS ops V (E 0) listed ops.size) a ∧ Kp G w0 w ∧ nt ≤ a.tmps.size ∧ a.defers = DD ∧
  (∀ i o, ops[i]? = some o → bR C.P o.op = .makes → ¬ S listed i → ρ' (idp C ops p0 i) = none) ∧
  (∀ i, iE C ops listed q i → Made G C ops p0 Hh ρ' w R i) ∧ (∀ i i', iE C ops listed q i → iE C ops listed q i' → R i = R i' → i = i')
theorem bZi {i : Nat} {o : Oper} (ho : ops[i]? = some o) (hm : bR C.P o.op = .makes) : (idp C ops p0 i).toNat < p0.toNat + cB C.P ops.toList := by
 unfold idp
 rw [dS]
 have hlt : i < ops.toList.length := by
  rcases Nat.lt_or_ge i ops.toList.length with h | h
  ·exact h
  ·simp at h; simp [Array.getElem?_eq_none h] at ho
 have key : ∀ (l : List Oper) (i : Nat), l[i]? = some o → cB C.P (l.take i) < cB C.P l := by
  intro l
  induction l with
  | nil => intro i h; simp at h
  | cons x l ih =>
   intro i h
   cases i with
   | zero => simp at h; subst h; simp [cB, hm]; omega
   | succ i => simp at h; have := ih i h; simp only [List.take_succ_cons, cB]; omega
 have := key ops.toList i (by simpa using ho)
 omega
theorem dDl {i i' : Nat} {o o' : Oper} (ho : ops[i]? = some o) (hm : bR C.P o.op = .makes) (ho' : ops[i']? = some o') (hm' : bR C.P o'.op = .makes) (hne : i ≠ i') : idp C ops p0 i ≠ idp C ops p0 i' := by
 have key : ∀ (l : List Oper) (i j : Nat) (o : Oper), l[i]? = some o → bR C.P o.op = .makes → i < j → cB C.P (l.take i) < cB C.P (l.take j) := by
  intro l
  induction l with
  | nil => intro i j o h; simp at h
  | cons x l ih =>
   intro i j o h hm hij
   cases j with
   | zero => omega
   | succ j =>
    cases i with
    | zero => simp at h; subst h; simp only [List.take_succ_cons, cB, hm, List.take_zero]; omega
    | succ i => simp at h; have := ih i j o h hm (by omega); simp only [List.take_succ_cons, cB]; omega
 intro e
 have e' := congrArg Pos.toNat e
 unfold idp at e'
 rw [dS, dS] at e'
 rcases Nat.lt_or_ge i i' with h | h
 ·have := key ops.toList i i' o (by simpa using ho) hm h; omega
 ·have := key ops.toList i' i o' (by simpa using ho') hm' (by omega); omega
theorem bGw {DD : List Deferred} (K : OkC C rec) {N : Nat} {E : Nat → aU} {Hh : Nat → Hp} {V : Nat → DV} (T : Tr1 C rec ops nt p0 E Hh V) (hN : N = p0.toNat + cB C.P ops.toList) (hGN : G.N ≤ p0.toNat) {ρ : cZ} {w0 : World} {Q : Exit → Act → World → Prop}
  (hQ : ∀ ρ' a' w', Ex G ρ ρ' → HR G ρ' (Hh ops.size) w' → EnvR ρ' (E ops.size) a' → Kp G w0 w' → nt ≤ a'.tmps.size → a'.defers = DD → Q .normal a' w') :
  ∀ (fuel : Nat) (listed : Array Bool) (a : Act) (w : World), Inv DD C G ops nt p0 N E Hh V ρ w0 listed a w → ((List.range ops.size).filter fun i => !listed.getD i false).length ≤ fuel → wpAny C.P .any ops Q fuel listed a w := by
 have hlt : ∀ p, p < ops.size → ∃ o, ops[p]? = some o := fun p hp => ⟨ops[p], by simp [hp]⟩
 have hin : ∀ (j : Nat) oj, ops[j]? = some oj → j < ops.size := fun j oj hj => by
  rcases Nat.lt_or_ge j ops.size with h | h
  ·exact h
  ·simp [Array.getElem?_eq_none h] at hj
 have hend : ∀ listed a w, Inv DD C G ops nt p0 N E Hh V ρ w0 listed a w → (∀ i, i < ops.size → S listed i) → Q .normal a w := by
  rintro listed a w ⟨hsz, hdown, q, hq, hcand, hgap, ρ', R, h1, h2, h3, h4, h5, h6, h7, h8, h9⟩ hall
  have hH := aLo (G := G) T h8 h9 ops.size hq (Nat.le_refl _) (fun j oj hj hqj hjn => ⟨fun ha => by
   have := (hgap j oj hj ha).2 (hall j hjn)
   omega, fun _ => hall j hjn⟩) h2
  have hE : ∀ t, TS ops V (E 0) listed ops.size t = E ops.size t := fun t =>
   bHp (E := E) rfl (fun p o hp ho => (T.st p o ho).env) (fun p hp => hlt p hp) (fun j o hj _ _ => hall j hj) ops.size (Nat.le_refl _)
  refine hQ ρ' a w h1 (hH.weak rfl (fun k hk => .inl hk) (by show G.N ≤ N; omega) rfl) (fun t => ?_) h4 h5 h6
  rw [← hE t]
  exact h3 t
 have hready : ∀ listed, listed.size = ops.size → Region.ready .any ops listed = [] → ∀ i, i < ops.size → S listed i := by
  intro listed hsz hr i
  induction i using Nat.strongRecOn with
  | _ i ih =>
   intro hi
   obtain ⟨o, ho⟩ := hlt i hi
   by_cases hs : S listed i
   ·exact hs
   ·exfalso
    have hmem : i ∈ Region.ready .any ops listed := by
     rw [qW]
     refine ⟨hi, ?_, o, ho, fun e he hb => ?_⟩
     ·rw [qK (by omega)]
      unfold S at hs
      simpa using hs
     ·have := (dM T.ok ho).1 e he hb
      exact ih e.on this (by omega)
    rw [hr] at hmem
    cases hmem
 intro fuel
 induction fuel with
 | zero =>
  intro listed a w hI hfuel
  have hall : ∀ i, i < ops.size → S listed i := by
   intro i hi
   by_cases hs : S listed i
   ·exact hs
   ·exfalso
    have : i ∈ (List.range ops.size).filter fun i => !listed.getD i false := by
     rw [List.mem_filter]
     refine ⟨by simpa using hi, ?_⟩
     unfold S at hs
     simpa using hs
    have := List.length_pos_of_mem this
    omega
  refine ⟨?_, hend listed a w hI hall⟩
  cases hr : Region.ready .any ops listed with
  | nil => rfl
  | cons x xs =>
   have hx : x ∈ Region.ready .any ops listed := by rw [hr]; simp
   rw [qW] at hx
   have := hall x hx.1
   rw [qK (by rw [hI.1]; exact hx.1)] at hx
   unfold S at this
   rw [this] at hx
   cases hx.2.1
 | succ fuel ih =>
  intro listed a w hI hfuel
  refine ⟨fun hr => hend listed a w hI (hready listed hI.1 hr), fun i hi => ?_⟩
  obtain ⟨hsz, hdown, q, hq, hcand, hgap, ρ', R, h1, h2, h3, h4, h5, h6, h7, h8, h9⟩ := hI
  rw [qW] at hi
  obtain ⟨hisz, hni, o, ho, hpre0⟩ := hi
  rw [qK (by omega)] at hni
  have hnS : ¬ S listed i := by unfold S; rw [hni]; simp
  have hpre : ∀ j, gA (Region.before ops) j i = true → S listed j := by
   intro j hj
   obtain ⟨e, he, hb, h | h⟩ := aLf ho hj
   ·rw [← h]; exact hpre0 e he hb
   ·exact hdown j e.on h (hpre0 e he hb)
  have hst := T.st i o ho
  have hlook : ∀ t ∈ o.looksAt ops, TS ops V (E 0) listed ops.size t = E i t := by
   intro t ht
   rw [cLd (i := i) (fun j oj hij hj hd hS => ?_) ops.size (by omega)]
   ·exact bHp (E := E) rfl (fun p op hp hop => (T.st p op hop).env) (fun p hp => hlt p (by omega)) (fun j oj hj hoj hd => by
     rcases (dM T.ok ho).2.2 j oj hj hoj with h | ⟨h, _⟩
     ·exact hpre j h
     ·exact absurd ht ((Oper.apart_spec h).1 t hd)) i (Nat.le_refl _)
   ·rcases Nat.eq_or_lt_of_le hij with e | e
    ·subst e; exact hnS hS
    ·rcases (dM T.ok hj).2.2 i o e ho with h | ⟨h, _⟩
     ·exact hnS (hdown i j h hS)
     ·exact absurd ht ((Oper.apart_spec h).2.2 t hd)
  have hmkq : ∀ j oj, ops[j]? = some oj → bR C.P oj.op = .makes → j < q → S listed j := by
   intro j oj hj hmj hjq
   rcases hcand with rfl | ⟨l, ol, hl, hal, rfl⟩
   ·omega
   ·have hSl : S listed l := (hgap l ol hl hal).1 (by omega)
    have hjl : j ≠ l := fun e => by subst e; rw [hl] at hj; cases hj; rw [hal] at hmj; cases hmj
    rcases (dM T.ok hl).2.2 j oj (by omega) hj with h | ⟨_, h⟩
    ·exact hdown j l h hSl
    ·exact absurd ⟨.inr hmj, hal⟩ h
  have hdown' : ∀ j x, gA (Region.before ops) j x = true → S (listed.setIfInBounds i true) x → S (listed.setIfInBounds i true) j := by
   intro j x hjx hx
   rw [cRl (by omega)] at hx ⊢
   rcases hx with rfl | hx
   ·exact .inr (hpre j hjx)
   ·exact .inr (hdown j x hjx hx)
  have hTS : ∀ (ρ2 : cZ) (v2 : Value), Ext ρ' ρ2 → VR ρ2 (V i) v2 → EnvR ρ2 (TS ops V (E 0) (listed.setIfInBounds i true) ops.size) (a.put o.dst v2) := by
   intro ρ2 v2 e1 e2 t
   rw [dDe ho (by omega) hnS t (fun j oj hij hj hd hod hS => by
    rcases (dM T.ok hj).2.2 i o hij ho with h | ⟨h, _⟩
    ·exact hnS (hdown i j h hS)
    ·exact (Oper.apart_spec h).2.1 t hod hd) ops.size (by omega)]
   have := EnvR.put h3 e1 e2 hst.fits h5 t
   rwa [kS] at this
  have hcount : ((List.range ops.size).filter fun j => !(listed.setIfInBounds i true).getD j false).length ≤ fuel := by
   have hmem : i ∈ (List.range ops.size).filter fun i => !listed.getD i false := by
    rw [List.mem_filter]
    exact ⟨by simpa using hisz, by simp [hni]⟩
   have hle : ((List.range ops.size).filter fun j => !(listed.setIfInBounds i true).getD j false).length < ((List.range ops.size).filter fun j => !listed.getD j false).length := by
    have hsub : ((List.range ops.size).filter fun j => !(listed.setIfInBounds i true).getD j false) = ((List.range ops.size).filter fun j => !listed.getD j false).filter (fun j => j != i) := by
     rw [List.filter_filter]
     apply List.filter_congr
     intro j hj
     by_cases e : j = i
     ·subst e; simp [show j < listed.size by omega]
     ·simp [Array.getElem?_setIfInBounds_ne (Ne.symm e), e]
    rw [hsub]
    exact List.length_filter_lt_length_iff_exists.2 ⟨i, hmem, by simp⟩
   omega
  have hS' : ∀ j, S (listed.setIfInBounds i true) j ↔ (j = i ∨ S listed j) := fun j => cRl (by omega)
  by_cases hmk : bR C.P o.op = .makes
  ·
   have hqi : q ≤ i := by
    rcases Nat.lt_or_ge i q with h | h
    ·exact absurd (hmkq i o ho hmk h) hnS
    ·exact h
   have hg := (dM T.ok ho).2.1 hmk
   have hbn := h7 i o ho hmk hnS
   have hst1 := hst.made hmk
   have hext : Ext ρ' (lO ρ' (idp C ops p0 i) ⟨w.heap.size, 0, 0, none⟩) := by
    intro x L hx
    by_cases e : x = idp C ops p0 i
    ·subst e; rw [hbn] at hx; cases hx
    ·rw [aX _ _ e]; exact hx
   have hE0 : dQ C o (idp C ops p0 i) (TS ops V (E 0) listed ops.size) (Hh i) = some (V i, Hh (i + 1)) := by
    rw [← hst1]
    refine zE fun x hx => aAb fun t ht => hlook t ?_
    unfold Oper.looksAt
    refine List.mem_append_left _ (List.mem_filterMap.2 ⟨x, by simpa using hx, ?_⟩)
    rw [ht]
   obtain ⟨cs, arr, t, v', m1, m2, m3, m4⟩ := cTi (w := w) h3 hE0 hbn
   have hidlt := bZi (p0 := p0) ho hmk
   have H2 := h2.early hbn (by have := h2.nx; simp only [GX] at this; omega) arr t
   unfold wpOp
   simp only [ho]
   rw [if_pos (by simp [Region.wanted, hg])]
   refine .inl ?_
   unfold Oper.wp
   rw [m1]
   show wpAny C.P .any ops Q fuel (listed.setIfInBounds i true) (a.put o.dst v') (w.alloc (.cells arr t))
   have hEarly : ∀ j, iE C ops (listed.setIfInBounds i true) q j → j = i ∨ iE C ops listed q j := by
    rintro j ⟨oj, e1, e2, e3, e4⟩
    rcases (hS' j).1 e3 with e | e
    ·exact .inl e
    ·exact .inr ⟨oj, e1, e2, e, e4⟩
   have hRlt : ∀ j, iE C ops listed q j → R j < w.heap.size := fun j hj => h2.sz.2 _ (.inr ⟨j, hj, rfl⟩)
   have hjne : ∀ j, iE C ops listed q j → j ≠ i := by
    rintro j ⟨oj, e1, e2, e3, e4⟩ e
    subst e; exact hnS e3
   refine ih _ _ _ ⟨by simpa using hsz, hdown', q, hq, hcand, fun j oj hj haj => ?_, lO ρ' (idp C ops p0 i) ⟨w.heap.size, 0, 0, none⟩, fun j => if j = i then w.heap.size else R j, ?_, ?_, hTS _ _ hext m4, ?_, by rw [oK]; exact h5, by rw [kR]; exact h6, ?_, ?_, ?_⟩ hcount
   ·rw [hS' j, hgap j oj hj haj]
    constructor
    ·exact .inr
    ·rintro (h | h)
     ·subst h; rw [ho] at hj; cases hj; rw [hmk] at haj; cases haj
     ·exact h
   ·refine h1.trans ⟨hext, fun b L hb => ?_⟩
    by_cases e : b = idp C ops p0 i
    ·right
     rw [e]
     unfold idp
     rw [dS]
     omega
    ·rw [aX _ _ e] at hb; exact .inl hb
   ·refine H2.weak rfl ?_ (Nat.le_refl _) rfl
    rintro k (hk | ⟨j, hj, hjk⟩)
    ·exact .inl (.inl hk)
    ·rcases hEarly j hj with rfl | hj'
     ·right; simpa using hjk.symm
     ·left; right
      refine ⟨j, hj', ?_⟩
      simpa [hjne j hj'] using hjk
   ·exact h4.trans (fK (G := G) ⟨h2.sz.1, fun k hk => h2.sz.2 k (.inl hk)⟩ _)
   ·intro j oj hj hmj hSj
    have hji : j ≠ i := fun e => hSj ((hS' j).2 (.inl e))
    rw [aX _ _ (dDl hj hmj ho hmk hji)]
    exact h7 j oj hj hmj fun h => hSj ((hS' j).2 (.inr h))
   ·intro j hj
    rcases hEarly j hj with rfl | hj'
    ·refine ⟨by simp [bU], by simp; exact h2.sz.1, ?_, arr, t, cs, ?_, m2.mono hext, m3⟩
     ·simp only [if_true]
      intro hx
      have := h2.sz.2 _ (.inl hx)
      omega
     ·simp only [if_true]
      show (w.heap.push _)[w.heap.size]? = _
      simp
    ·have hM := h8 j hj'
     obtain ⟨arr', t', cs', r1, r2, r3⟩ := hM.row
     have hji := hjne j hj'
     refine ⟨?_, by simp [hji]; exact hM.low, by simp [hji]; exact hM.ex, arr', t', cs', ?_, r2.mono hext, r3⟩
     ·simp only [hji, if_false]; exact hext _ _ hM.name
     ·simp only [hji, if_false]
      rw [Below.heap_alloc _ _ _ (hRlt j hj')]
      exact r1
   ·intro j j' hj hj' he
    rcases hEarly j hj with rfl | hj1
    ·rcases hEarly j' hj' with rfl | hj1'
     ·rfl
     ·simp only [if_true, hjne j' hj1', if_false] at he
      have := hRlt j' hj1'
      omega
    ·rcases hEarly j' hj' with rfl | hj1'
     ·simp only [if_true, hjne j hj1, if_false] at he
      have := hRlt j hj1
      omega
     ·simp only [hjne j hj1, hjne j' hj1', if_false] at he
      exact h9 j j' hj1 hj1' he
  ·
   have hstep : ∃ q1 q2, q ≤ q1 ∧ q1 ≤ ops.size ∧ q2 ≤ ops.size ∧ q1 ≤ q2 ∧ cSz C ops q2 ∧ HR (GX G N C ops listed R q1) ρ' (Hh q1) w ∧
     bJ C rec ops o (TS ops V (E 0) listed ops.size) (Hh q1) = some (V i, Hh q2) ∧
     (∀ j oj, ops[j]? = some oj → bR C.P oj.op = .acts → (j < q2 ↔ S (listed.setIfInBounds i true) j)) ∧
     (∀ j, iE C ops (listed.setIfInBounds i true) q2 j → iE C ops listed q1 j) := by
    rw [show bJ C rec ops o (TS ops V (E 0) listed ops.size) = bJ C rec ops o (E i) from funext fun h => aMx hlook]
    by_cases ha : bR C.P o.op = .acts
    ·have hqi : q ≤ i := by
      rcases Nat.lt_or_ge i q with h | h
      ·exact absurd ((hgap i o ho ha).1 h) hnS
      ·exact h
     refine ⟨i, i + 1, hqi, by omega, by omega, by omega, .inr ⟨i, o, ho, ha, rfl⟩, ?_, hst.step hmk, fun j oj hj haj => ?_, ?_⟩
     ·refine aLo (G := G) T h8 h9 i hqi (by omega) (fun j oj hj hqj hji => ⟨fun haj => ?_, fun hmj => ?_⟩) h2
      ·rcases (dM T.ok ho).2.2 j oj hji hj with h | ⟨_, h⟩
       ·have := (hgap j oj hj haj).2 (hpre j h); omega
       ·exact absurd ⟨.inl haj, ha⟩ h
      ·rcases (dM T.ok ho).2.2 j oj hji hj with h | ⟨_, h⟩
       ·exact hpre j h
       ·exact absurd ⟨.inr hmj, ha⟩ h
     ·rw [hS' j]
      constructor
      ·intro hlt'
       by_cases e : j = i
       ·exact .inl e
       ·right
        rcases (dM T.ok ho).2.2 j oj (by omega) hj with h | ⟨_, h⟩
        ·exact hpre j h
        ·exact absurd ⟨.inl haj, ha⟩ h
      ·rintro (h | h)
       ·omega
       ·rcases Nat.lt_or_ge i j with hij | hij
        ·rcases (dM T.ok hj).2.2 i o hij ho with h' | ⟨_, h'⟩
         ·exact absurd (hdown i j h' h) hnS
         ·exact absurd ⟨.inl ha, haj⟩ h'
        ·omega
     ·rintro j ⟨oj, e1, e2, e3, e4⟩
      rcases (hS' j).1 e3 with e | e
      ·omega
      ·exact ⟨oj, e1, e2, e, by omega⟩
    ·refine ⟨q, q, Nat.le_refl _, hq, hq, Nat.le_refl _, hcand, h2, T.value ho ha hmk hcand hgap hnS hdown hpre, fun j oj hj haj => ?_, ?_⟩
     ·rw [hS' j, hgap j oj hj haj]
      constructor
      ·exact .inr
      ·rintro (h | h)
       ·subst h; rw [ho] at hj; cases hj; exact absurd haj ha
       ·exact h
     ·rintro j ⟨oj, e1, e2, e3, e4⟩
      rcases (hS' j).1 e3 with e | e
      ·subst e; rw [ho] at e1; cases e1; exact absurd e2 hmk
      ·exact ⟨oj, e1, e2, e, e4⟩
   obtain ⟨q1, q2, k1, k2, k2', k12, k3, k4, k5, k6, k7⟩ := hstep
   refine aJu (aGw K k4 h3 k5) rfl ho k4 fun ρ2 w2 v2 e1 e2 e3 e4 => ?_
   have hEq : ∀ j, iE C ops listed q1 j → iE C ops listed q j := by
    rintro j ⟨oj, f1, f2, f3, f4⟩
    exact ⟨oj, f1, f2, f3, by omega⟩
   refine ih _ _ _ ⟨by simpa using hsz, hdown', q2, k2', k3, k6, ρ2, R, ?_, ?_, hTS _ _ e1.ext e2, ?_, by rw [oK]; exact h5, by rw [kR]; exact h6, ?_, ?_, ?_⟩ hcount
   ·refine h1.trans ⟨e1.ext, fun b L hb => (e1.new b L hb).imp id fun h => ?_⟩
    simp only [GX] at h
    omega
   ·refine e3.weak rfl ?_ (Nat.le_refl _) rfl
    rintro k (hk | ⟨j, hj, hjk⟩)
    ·exact .inl hk
    ·exact .inr ⟨j, k7 j hj, hjk⟩
   ·exact h4.trans ⟨e4.low, fun k hk => e4.ex k (.inl hk)⟩
   ·intro j oj hj hmj hSj
    have hn := h7 j oj hj hmj fun h => hSj ((hS' j).2 (.inr h))
    cases hr : ρ2 (idp C ops p0 j) with
    | none => rfl
    | some L =>
     rcases e1.new _ _ hr with h | h
     ·rw [hn] at h; cases h
     ·have := bZi (p0 := p0) hj hmj
      simp only [GX] at h
      omega
   ·intro j hj
    have hj1 := k7 j hj
    have hM := h8 j (hEq j hj1)
    obtain ⟨arr', t', cs', r1, r2, r3⟩ := hM.row
    exact ⟨e1.ext _ _ hM.name, hM.low, hM.ex, arr', t', cs', by rw [e4.ex _ (.inr ⟨j, hj1, rfl⟩)]; exact r1, r2.mono e1.ext, r3⟩
   ·intro j j' hj hj' he
    exact h9 j j' (hEq j (k7 j hj)) (hEq j' (k7 j' hj')) he
theorem bLq {DD : List Deferred} (K : OkC C rec) {k : Dd.K} {r : DV × Hp} {env : aU} {h : Hp} {ρ : cZ} {a : Act} {w : World} {Q : Exit → Act → World → Prop}
  (hok : eZ C.P ops = true) (hp : hY C rec nt ops k env h = some r) (H : HR G ρ h w) (he : EnvR ρ env a) (hnt : nt ≤ a.tmps.size) (hd : a.defers = DD)
  (hQ : ∀ ρ' env' h' a' w', Ex G ρ ρ' → HR G ρ' h' w' → EnvR ρ' env' a' → Kp G w w' → nt ≤ a'.tmps.size → a'.defers = DD → k env' h' = some r → Q .normal a' w') :
  wpAny C.P .any ops Q ops.size (Array.replicate ops.size false) a { w with drawn := w.drawn + 1 } := by
 obtain ⟨E, Hh, V, e1, e2, e3, e4⟩ := rN (p0 := h.next) ops.toList 0 0 false [] _ env _ r hp (by simp) (fun _ => ⟨_, _, rfl⟩)
 simp only [Nat.zero_add, Array.length_toList, Nat.sub_zero] at e3 e4
 have T : Tr1 C rec ops nt h.next E Hh V := ⟨hok, fun p o ho => by
  have := (e4 p o (Nat.zero_le _) (by
   rcases Nat.lt_or_ge p ops.size with h | h
   ·exact h
   ·simp [Array.getElem?_eq_none h] at ho) ho).1
  rw [← e2] at this
  exact this⟩
 obtain ⟨n1, n2⟩ := zX (cB C.P ops.toList) h
 have hNN : (resv (cB C.P ops.toList) h).next.toNat = h.next.toNat + cB C.P ops.toList := by rw [n1, dS]
 refine (bGw (G := G) K T rfl H.nx (ρ := ρ) (w0 := w) (fun ρ' a' w' h1 h2 h3 h4 h5 h6 => hQ ρ' _ _ a' w' h1 h2 h3 h4 h5 h6 e3) ops.size _ a _ ?_ ?_)
 ·have hno : ∀ j, ¬ S (Array.replicate ops.size false) j := by
   intro j hj
   unfold S at hj
   simp [Array.getElem?_replicate] at hj
   split at hj <;> simp at hj
  have hnoE : ∀ j, ¬ iE C ops (Array.replicate ops.size false) 0 j := by
   rintro j ⟨oj, _, _, h3, _⟩
   exact hno j h3
  refine ⟨by simp, fun j x _ hx => absurd hx (hno x), 0, Nat.zero_le _, .inl rfl, fun j oj hj ha => ⟨fun h => by omega, fun h => absurd h (hno j)⟩, ρ, fun _ => 0, Ex.refl G ρ, ?_, ?_, ?_, hnt, hd, ?_, fun j hj => absurd hj (hnoE j), fun j j' hj => absurd hj (hnoE j)⟩
  ·rw [e2]
   have := (H.reserve (cB C.P ops.toList)).congr (w' := { w with drawn := w.drawn + 1 }) rfl
   rw [hNN] at this
   refine this.weak rfl ?_ (Nat.le_refl _) rfl
   rintro k (hk | ⟨j, hj, _⟩)
   ·exact hk
   ·exact absurd hj (hnoE j)
  ·have hT : ∀ p, TS ops V (E 0) (Array.replicate ops.size false) p = E 0 := by
    intro p
    induction p with
    | zero => rfl
    | succ p ih =>
     simp only [TS, ih]
     split
     ·rename_i o ho
      rw [if_neg (show ¬ (Array.replicate ops.size false).getD p false = true from hno p)]
     ·rfl
   intro t
   rw [hT, e1]
   exact he t
  ·exact (Kp.refl G w).drew
  ·intro j oj hj hmj _
   cases hr : ρ (idp C ops h.next j) with
   | none => rfl
   | some L =>
    have h1 := H.lt _ _ hr
    unfold idp at h1
    rw [dS] at h1
    omega
 ·have := List.length_filter_le (fun i => !(Array.replicate ops.size false).getD i false) (List.range ops.size)
  simpa using this
theorem aYo {DD : List Deferred} (K : OkC C rec) (hm : C.P.follows .mixedOrders = true) {id : Nat} {k : Dd.K} {r : DV × Hp} {env : aU} {h : Hp} {ρ : cZ} {a : Act} {w : World} {Q : Exit → Act → World → Prop}
  (hok : eZ C.P ops = true) (hp : hY C rec nt ops k env h = some r) (H : HR G ρ h w) (he : EnvR ρ env a) (hnt : nt ≤ a.tmps.size) (hd : a.defers = DD)
  (hQ : ∀ ρ' env' h' a' w', Ex G ρ ρ' → HR G ρ' h' w' → EnvR ρ' env' a' → Kp G w w' → nt ≤ a'.tmps.size → a'.defers = DD → k env' h' = some r → Q .normal a' w') :
  (Code.region id ops true).wp C.P Q a w :=
 wp_region_any hm (bLq K hok hp H he hnt hd hQ)
end
end Go.Dd

namespace Go.Dd
open Go.RowKit (Below)
section
variable {C : Cfg} {G : Gd} {rec : FuncId → List DV → Hp → aH} {nt n : Nat}
def St (DD : List Deferred) (G : Gd) (nt : Nat) (ρ : cZ) (w0 : World) (k : K) (r : DV × Hp) (a : Act) (w : World) : Prop :=
 ∃ ρ' env h, Ex G ρ ρ' ∧ HR G ρ' h w ∧ EnvR ρ' env a ∧ Kp G w0 w ∧ nt ≤ a.tmps.size ∧ a.defers = DD ∧ k env h = some r
def QQ (DD : List Deferred) (G : Gd) (nt : Nat) (ρ : cZ) (w0 : World) (X : Nat → K) (kr k : K) (r : DV × Hp) : Exit → Act → World → Prop
 | .normal, a, w => St DD G nt ρ w0 k r a w
 | .exit id, a, w => St DD G nt ρ w0 (X id) r a w
 | .ret, a, w => St DD G nt ρ w0 kr r a w
 | _, _, _ => False
theorem cFk {DD : List Deferred} (K : OkC C rec) (hm : C.P.follows .mixedOrders = true) {ρ : cZ} {w0 : World} {r : DV × Hp} : ∀ (c : Code) (X : Nat → Dd.K) (kr k : Dd.K) (a : Act) (w : World),
  St DD G nt ρ w0 (aM C rec nt n c X kr k) r a w → c.wp C.P (QQ DD G nt ρ w0 X kr k r) a w := by
 intro c
 induction c with
 | skip => intro X kr k a w h; exact wp_skip h
 | region id ops dr =>
  intro X kr k a w h
  obtain ⟨ρ', env, hp, h1, h2, h3, h4, h5, h6, h7⟩ := h
  change (Bool.rec (motive := fun _ => Dd.K) (iS C rec nt ops ops.toList k) (Bool.rec (motive := fun _ => Dd.K) dG (hY C rec nt ops k) (eZ C.P ops)) dr) env hp = some r at h7
  cases dr with
  | true =>
   dsimp only at h7
   cases hok : eZ C.P ops with
   | false => rw [hok] at h7; cases h7
   | true =>
    rw [hok] at h7
    exact aYo K hm hok h7 h2 h3 h5 h6 fun ρ2 env2 h2' a2 w2 e1 e2 e3 e4 e5 e6 e7 => ⟨ρ2, env2, h2', h1.trans e1, e2, e3, h4.trans e4, e5, e6, e7⟩
  | false =>
   simp only [cond_false] at h7
   obtain ⟨env', h', hr, hk⟩ := vX ops.toList k env hp r h7
   refine wp_region ?_
   have := aRs (Q := QQ DD G nt ρ w0 X kr k r) K ops.toList 0 ρ' env hp a w (by simp) hr h2 h3 h5 h6 fun ρ2 a2 w2 e1 e2 e3 e4 e5 e6 => ⟨ρ2, env', h', h1.trans e1, e2, e3, h4.trans e4, e5, e6, hk⟩
   rw [List.range_eq_range']
   simpa using this
 | seq x y ihx ihy =>
  intro X kr k a w h
  refine wp_seq (wp_mono (ihx X kr (aM C rec nt n y X kr k) a w h) fun e a' w' hq => ?_)
  cases e with
  | normal => exact ihy X kr k a' w' hq
  | exit id => exact hq
  | ret => exact hq
  | goto l => exact hq
  | panic ch => exact hq
  | outgrown => exact hq
 | cond c x y ihx ihy =>
  intro X kr k a w h
  obtain ⟨ρ', env, hp, h1, h2, h3, h4, h5, h6, h7⟩ := h
  change aP (opr env c) (aM C rec nt n x X kr k env hp) (aM C rec nt n y X kr k env hp) = some r at h7
  have hc := bG h3 c
  unfold aP at h7
  split at h7 <;> (try (cases h7; done))
  ·rename_i hcb
   rw [hcb] at hc
   generalize hcv : a.eval c = cv at hc
   cases hc
   exact wp_cond_true hcv (ihx X kr k a w ⟨ρ', env, hp, h1, h2, h3, h4, h5, h6, h7⟩)
  ·rename_i hcb
   rw [hcb] at hc
   generalize hcv : a.eval c = cv at hc
   cases hc
   exact wp_cond_false hcv (ihy X kr k a w ⟨ρ', env, hp, h1, h2, h3, h4, h5, h6, h7⟩)
 | block id x ih =>
  intro X kr k a w h
  refine wp_block (wp_mono (ih (fun j => bif Nat.beq j id then k else X j) kr k a w h) fun e a' w' hq => ?_)
  cases e with
  | normal => exact hq
  | exit id' =>
   simp only [QQ] at hq
   simp only [Exit.inBlock, QQ]
   split
   ·rename_i e
    subst e
    have hb : Nat.beq id' id' = true := Nat.beq_refl id'
    rw [hb] at hq
    exact hq
   ·rename_i e
    have : Nat.beq id' id = false := by
     cases hb : Nat.beq id' id with
     | false => rfl
     | true => exact absurd (Nat.eq_of_beq_eq_true hb) e
    rw [this] at hq
    exact hq
  | ret => exact hq
  | goto l => exact hq
  | panic ch => exact hq
  | outgrown => exact hq
 | loop x ih =>
  intro X kr k a w h
  have key : ∀ (m : Nat) (a : Act) (w : World), St DD G nt ρ w0 (aN (fun kk => aM C rec nt n x X kr kk) m) r a w → Code.rounds C.P x (QQ DD G nt ρ w0 X kr k r) m a w := by
   intro m
   induction m with
   | zero =>
    rintro a w ⟨ρ', env, hp, h1, h2, h3, h4, h5, h6, h7⟩
    cases h7
   | succ m ihm =>
    intro a w hs
    rw [rounds_succ]
    refine wp_mono (ih X kr (aN (fun kk => aM C rec nt n x X kr kk) m) a w hs) fun e a' w' hq => ?_
    cases e with
    | normal => exact ihm a' w' hq
    | exit id => exact hq
    | ret => exact hq
    | goto l => exact hq
    | panic ch => exact hq
    | outgrown => exact hq
  exact wp_loop_rounds n (key n a w h)
 | rangeFunc f ps x y ihx ihy =>
  rintro X kr k a w ⟨ρ', env, hp, h1, h2, h3, h4, h5, h6, h7⟩
  cases h7
 | exit id => intro X kr k a w h; exact wp_exit h
 | scope x ih =>
  intro X kr k a w h
  refine wp_scope_straight (wp_mono (ih X kr k a w h) fun e a' w' hq => ?_)
  cases e with
  | goto l => exact hq
  | normal => exact hq
  | exit id => exact hq
  | ret => exact hq
  | panic ch => exact hq
  | outgrown => exact hq
 | label l => intro X kr k a w h; exact wp_label h
 | goto l =>
  rintro X kr k a w ⟨ρ', env, hp, h1, h2, h3, h4, h5, h6, h7⟩
  cases h7
 | ret => intro X kr k a w h; exact wp_ret h
 | refuse why =>
  rintro X kr k a w ⟨ρ', env, hp, h1, h2, h3, h4, h5, h6, h7⟩
  cases h7
def aEh (tmps : Array Value) (rv : ResultVar) : Sem Value :=
 match rv with
 | .tmp t => pure (tmps.getD t undef)
 | .cell q t => do loadVar t (← asAddr (tmps.getD q undef))
theorem yT (fn : Func) (tmps : Array Value) : results fn tmps = (do
  let vs ← fn.results.mapM (aEh tmps)
  pure (if h : vs.size = 1 then vs[0] else .tuple vs)) := by
 unfold results
 congr 2
theorem bWk {ρ : cZ} {w : World} {h : Hp} {x : DV} {x' : Value} {t : TypeId} {k : DV → aH} {r : DV × Hp} (H : HR G ρ h w) (hx : VR ρ x x') (hr : zV C t x h k = some r) :
  ∃ v v', (do loadVar t (← asAddr x') : Sem Value).run C.P w = .ok v' w ∧ VR ρ v v' ∧ k v = some r := by
 unfold zV at hr
 split at hr <;> (try (cases hr; done))
 rename_i d i ht hi
 obtain ⟨v, h', hl, hk⟩ := dI hr
 have hconv : ∀ b o, x = .p b o → (Instr.loadAt t x') = (do loadVar t (← asAddr x')) := by
  rintro b o rfl
  cases hx
  simp [Instr.loadAt, Instr.sureAddr, asAddr]
 cases hd : iL d with
 | true =>
  rw [hd] at hl
  simp only [cond_true] at hl
  unfold aK at hl
  split at hl <;> (try (cases hl; done))
  rename_i b o
  split at hl <;> (try (cases hl; done))
  rename_i cs hc
  simp only [bE, bO] at hl
  obtain ⟨rfl, _⟩ := hl
  cases hx with
  | p _ _ L hL =>
   obtain ⟨c1, c2, _, vs, c4, c5, c6⟩ := eN H hc hL
   have hrun := dB (P := C.P) vs rfl c6
   rw [c5] at hrun
   refine ⟨_, .agg vs.toArray, ?_, .a cs vs.toArray (by simpa using c4), hk⟩
   simp only [asAddr, Sem.run_bind, Sem.run_pure, Result.andThen_ok, loadVar, rA ht, hd, if_true, rS hi, hrun]
 | false =>
  rw [hd] at hl
  simp only [cond_false] at hl
  unfold aA at hl
  split at hl <;> (try (cases hl; done))
  rename_i b o
  split at hl <;> (try (cases hl; done))
  rename_i u' hc
  simp only [bE, bO] at hl
  obtain ⟨rfl, _⟩ := hl
  cases hx with
  | p _ _ L hL =>
   unfold cellD rowOf at hc
   split at hc <;> (try (cases hc; done))
   rename_i l hl
   split at hl <;> (try (cases hl; done))
   rename_i kd l0 hb
   simp only [bE] at hl
   subst hl
   split at hc <;> (try (cases hc; done))
   rename_i u0 hu
   split at hc <;> (try (cases hc; done))
   rename_i ho
   simp only [bE] at hc
   subst hc
   obtain ⟨v', h5, h6⟩ := H.cell b kd l0 L o u0 hb hL hu ho
   refine ⟨_, v', ?_, h6, hk⟩
   simp only [asAddr, Sem.run_bind, Sem.run_pure, Result.andThen_ok, loadVar, rA ht, hd, Bool.false_eq_true, if_false, run_load, h5]
theorem vM {ρ : cZ} {w : World} {h : Hp} {env : aU} {a : Act} (H : HR G ρ h w) (he : EnvR ρ env a) {r : DV × Hp} : ∀ (l : List ResultVar) (k : List DV → aH), aVn C env h l k = some r →
  ∃ vs vs', (l.mapM (aEh a.tmps)).run C.P w = .ok vs' w ∧ VRs ρ vs vs' ∧ k vs = some r
 | [], k, hr => ⟨[], [], by simp, .nil, hr⟩
 | .tmp t :: l, k, hr => by
  obtain ⟨vs, vs', h1, h2, h3⟩ := vM H he l (fun vs => k (env t :: vs)) hr
  refine ⟨env t :: vs, a.tmps.getD t undef :: vs', ?_, .cons _ _ _ _ (he t) h2, h3⟩
  simp only [List.mapM_cons, Sem.run_bind, aEh, Result.andThen_ok, h1, Sem.run_pure]
 | .cell q t :: l, k, hr => by
  obtain ⟨v, v', h1, h2, h3⟩ := bWk (x' := a.tmps.getD q undef) H (he q) hr
  obtain ⟨vs, vs', h4, h5, h6⟩ := vM H he l (fun vs => k (v :: vs)) h3
  refine ⟨v :: vs, v' :: vs', ?_, .cons _ _ _ _ h2 h5, h6⟩
  simp only [List.mapM_cons, Sem.run_bind, aEh] at h1 ⊢
  simp only [h1, Result.andThen_ok, h4, Sem.run_pure]
theorem aXc {ρ : cZ} {w : World} {h h1 : Hp} {env : aU} {a : Act} (H : HR G ρ h w) (he : EnvR ρ env a) {fn : Func} {v : DV} (hr : aQ C fn env h = some (v, h1)) :
  h1 = h ∧ ∃ v', (results fn a.tmps).run C.P w = .ok v' w ∧ VR ρ v v' := by
 obtain ⟨us, vs', h2, h3, hk⟩ := vM H he _ _ hr
 unfold bJq at hk
 split at hk
 ·rename_i u
  simp only [bE, bO] at hk
  obtain ⟨rfl, rfl⟩ := hk
  cases h3 with
  | cons _ v' _ l' hv hn =>
   cases hn
   refine ⟨rfl, v', ?_, hv⟩
   rw [yT, Array.mapM_eq_mapM_toList]
   simp only [Sem.run_bind, Sem.run_map, h2, Result.andThen_ok, Sem.run_pure]
   simp
 ·rename_i hne
  simp only [bE, bO] at hk
  obtain ⟨rfl, rfl⟩ := hk
  have hl := h3.length
  have hne1 : vs'.length ≠ 1 := by
   intro e
   rw [e] at hl
   match us, hl with
   | [x], _ => exact hne x rfl
  refine ⟨rfl, .tuple vs'.toArray, ?_, .t _ _ (by simpa using h3)⟩
  rw [yT, Array.mapM_eq_mapM_toList]
  simp only [Sem.run_bind, Sem.run_map, h2, Result.andThen_ok, Sem.run_pure]
  rw [dif_neg (by simpa using hne1)]
structure POk (P : Program) : Prop where
 mixed : P.follows .mixedOrders = true
 names : ∀ (f : Nat) (fn : Func), P.funcs[f]? = some fn → (fn.name == "runtime.NumGoroutine") = false
theorem oL (K : OkC C rec) (hP : POk C.P) (n : Nat) (f : FuncId) : mF C.P G f (aF C rec n f) := by
 intro args h v h1 hr ρ w args' H hargs
 unfold aF at hr
 split at hr <;> (try (cases hr; done))
 rename_i fn hf
 split at hr <;> (try (cases hr; done))
 rename_i c hb
 refine .inl ⟨?_, ?_⟩
 ·unfold callFunc
  have hn : ¬ fn.name = "runtime.NumGoroutine" := by simpa using hP.names f fn hf
  simp [hf, hn, hb]
 ·refine calls_of_wp hf hb ?_
  have he : EnvR ρ (aI args) { tmps := args' ++ Array.replicate (fn.ntmps - args'.size) undef, defers := [] } := by
   intro t
   unfold aI
   have hlen := hargs.length
   simp only [Array.length_toList] at hlen
   by_cases ht : t < args.length
   ·have hg : args[t]? = some args[t] := by simp [ht]
    obtain ⟨v', h2, h3⟩ := hargs.get t _ hg
    simp only [Array.getElem?_toList] at h2
    rw [show args.getD t aW = args[t] by simp [List.getD, hg]]
    have : (args' ++ Array.replicate (fn.ntmps - args'.size) undef).getD t undef = v' := by
     simp [Array.getElem?_append_left (show t < args'.size by omega), h2]
    rw [this]
    exact h3
   ·have hg : args.getD t aW = aW := by simp [List.getD, List.getElem?_eq_none (Nat.le_of_not_lt ht)]
    rw [hg]
    have : (args' ++ Array.replicate (fn.ntmps - args'.size) undef).getD t undef = undef := by
     rw [Array.getD_eq_getD_getElem?, Array.getElem?_append_right (by omega)]
     simp only [Array.getElem?_replicate]
     split <;> rfl
    rw [this]
    exact .t [] #[] .nil
  have hst : St [] G fn.ntmps ρ w (aM C rec fn.ntmps n c (fun _ => dG) (aQ C fn) (aQ C fn)) (v, h1) { tmps := args' ++ Array.replicate (fn.ntmps - args'.size) undef, defers := [] } w :=
   ⟨ρ, aI args, h, Ex.refl G ρ, H, he, Kp.refl G w, by simp; omega, rfl, hr⟩
  refine wp_mono (cFk K hP.mixed c _ _ _ _ _ hst) fun e a' w' hq => ?_
  have hfin : St [] G fn.ntmps ρ w (aQ C fn) (v, h1) a' w' → a'.defers = [] ∧ ∃ v', (results fn a'.tmps).run C.P w' = .ok v' w' ∧ lM G ρ w v h1 (.returned v') w' := by
   rintro ⟨ρ', env, h', e1, e2, e3, e4, e5, e6, e7⟩
   obtain ⟨rfl, v', r1, r2⟩ := aXc e2 e3 e7
   exact ⟨e6, v', r1, ρ', v', rfl, e1, r2, e2, e4⟩
  cases e with
  | normal => exact hfin hq
  | ret => exact hfin hq
  | exit id =>
   obtain ⟨ρ', env, h', e1, e2, e3, e4, e5, e6, e7⟩ := hq
   cases e7
  | goto l => exact hq.elim
  | panic ch => exact hq.elim
  | outgrown => exact hq.elim
theorem bQz (hP : POk C.P) (hI : ∀ G g F, C.I g = some F → mF C.P G g F) : ∀ (n : Nat) (G : Gd) (f : FuncId), mF C.P G f (fnD C n f)
 | 0, G, f => fun args h v h1 hr => by cases hr
 | n + 1, G, f => oL (rec := fnD C n) ⟨hI, fun G g => bQz hP hI n G g⟩ hP n f
end
end Go.Dd

namespace Go.Dd
open Go.RowKit (Below)
section
variable {C : Cfg} {G : Gd} {rec : FuncId → List DV → Hp → aH} {nt : Nat}
def nB (h : Hp) : Prop := ∀ b o, h.bl.get b = some o → b.toNat < h.next.toNat
theorem HR.isFresh {ρ : cZ} {h : Hp} {w : World} (H : HR G ρ h w) : nB h := fun b o hb => by
 obtain ⟨L, hL⟩ := H.dom b o hb
 exact H.lt b L hL
def aKl (C : Cfg) (rec : FuncId → List DV → Hp → aH) (nt : Nat) (ops : Array Oper) (lM : aU → Hp → Prop) : Nat → Array Bool → aU → Hp → Prop
 | 0, listed, env, h => Region.ready .any ops listed = [] ∧ lM env h
 | f + 1, listed, env, h => (Region.ready .any ops listed = [] → lM env h) ∧
   ∀ i ∈ Region.ready .any ops listed, ∃ o v h', ops[i]? = some o ∧ cW nt o.dst = true ∧ bJ C rec ops o env h = some (v, h') ∧
    aKl C rec nt ops lM f (listed.setIfInBounds i true) (bM env o.dst v) h'
theorem bVa (K : OkC C rec) {ops : Array Oper} {lM : aU → Hp → Prop} {Q : Exit → Act → World → Prop} : ∀ (fuel : Nat) (listed : Array Bool) (ρ : cZ) (env : aU) (h : Hp) (a : Act) (w : World),
  aKl C rec nt ops lM fuel listed env h → HR G ρ h w → EnvR ρ env a → nt ≤ a.tmps.size → a.defers = [] →
  (∀ ρ' env' h' a' w', lM env' h' → Ex G ρ ρ' → HR G ρ' h' w' → EnvR ρ' env' a' → Kp G w w' → nt ≤ a'.tmps.size → a'.defers = [] → Q .normal a' w') →
  wpAny C.P .any ops Q fuel listed a w
 | 0, listed, ρ, env, h, a, w, hp, H, he, hnt, hd, hQ => ⟨hp.1, hQ ρ env h a w hp.2 (Ex.refl G ρ) H he (Kp.refl G w) hnt hd⟩
 | f + 1, listed, ρ, env, h, a, w, hp, H, he, hnt, hd, hQ => by
  refine ⟨fun hr => hQ ρ env h a w (hp.1 hr) (Ex.refl G ρ) H he (Kp.refl G w) hnt hd, fun i hi => ?_⟩
  obtain ⟨o, v, h', ho, hf, hs, hn⟩ := hp.2 i hi
  refine aJu (aGw K H he hs) rfl ho H fun ρ' w' v' h2 h3 h4 h5 => ?_
  exact bVa K f _ ρ' _ h' _ w' hn h4 (he.put h2.ext h3 hf hnt) (by rw [oK]; exact hnt) (by rw [kR]; exact hd)
   fun ρ2 env2 hh a2 w2 e0 e1 e2 e3 e4 e5 e6 => hQ ρ2 env2 hh a2 w2 e0 (h2.trans e1) e2 e3 (h5.trans e4) e5 e6
def qY (C : Cfg) (rec : FuncId → List DV → Hp → aH) (nt : Nat) : Code → (Nat → aU → Hp → Prop) → (aU → Hp → Prop) → (aU → Hp → Prop) → aU → Hp → Prop
 | .skip, _, _, N => N
 | .region _ ops dr, _, _, N => fun env h => if dr then (aKl C rec nt ops (fun e h => nB h → N e h) ops.size (Array.replicate ops.size false) env h ∨
    (eZ C.P ops = true ∧ ∃ k r, hY C rec nt ops k env h = some r ∧ ∀ env' h', k env' h' = some r → nB h' → N env' h'))
   else ∃ env' h', aDk C rec nt ops ops.toList env h env' h' ∧ (nB h' → N env' h')
 | .seq a b, X, R, N => qY C rec nt a X R (qY C rec nt b X R N)
 | .cond c a b, X, R, N => fun env h => (opr env c = .b true ∧ qY C rec nt a X R N env h) ∨ (opr env c = .b false ∧ qY C rec nt b X R N env h)
 | .block id a, X, R, N => qY C rec nt a (fun j => if j = id then N else X j) R N
 | .exit id, X, _, _ => X id
 | .scope a, X, R, N => qY C rec nt a X R N
 | .ret, _, R, _ => R
 | _, _, _, _ => fun _ _ => False
def StP (G : Gd) (nt : Nat) (ρ : cZ) (w0 : World) (N : aU → Hp → Prop) (a : Act) (w : World) : Prop :=
 ∃ ρ' env h, Ex G ρ ρ' ∧ HR G ρ' h w ∧ EnvR ρ' env a ∧ Kp G w0 w ∧ nt ≤ a.tmps.size ∧ a.defers = [] ∧ N env h
def QP (G : Gd) (nt : Nat) (ρ : cZ) (w0 : World) (X : Nat → aU → Hp → Prop) (R N : aU → Hp → Prop) : Exit → Act → World → Prop
 | .normal, a, w => StP G nt ρ w0 N a w
 | .exit id, a, w => StP G nt ρ w0 (X id) a w
 | .ret, a, w => StP G nt ρ w0 R a w
 | _, _, _ => False
theorem bTo (K : OkC C rec) (hm : C.P.follows .mixedOrders = true) {ρ : cZ} {w0 : World} : ∀ (c : Code) (X : Nat → aU → Hp → Prop) (R N : aU → Hp → Prop) (a : Act) (w : World),
  StP G nt ρ w0 (qY C rec nt c X R N) a w → c.wp C.P (QP G nt ρ w0 X R N) a w := by
 intro c
 induction c with
 | skip => intro X R N a w h; exact wp_skip h
 | region id ops dr =>
  intro X R N a w h
  obtain ⟨ρ', env, hp, h1, h2, h3, h4, h5, h6, h7⟩ := h
  cases dr with
  | true =>
   simp only [qY, if_true] at h7
   rcases h7 with h7 | ⟨hok, k, r, h7, h8⟩
   ·refine wp_region_any hm (bVa K ops.size _ ρ' env hp a _ h7 (h2.congr rfl) h3 h5 h6 fun ρ2 env2 h2' a2 w2 e0 e1 e2 e3 e4 e5 e6 => ?_)
    exact ⟨ρ2, env2, h2', h1.trans e1, e2, e3, (h4.trans ((Kp.refl G w).drew)).trans e4, e5, e6, e0 e2.isFresh⟩
   ·exact aYo K hm hok h7 h2 h3 h5 h6 fun ρ2 env2 h2' a2 w2 e1 e2 e3 e4 e5 e6 e7 => ⟨ρ2, env2, h2', h1.trans e1, e2, e3, h4.trans e4, e5, e6, h8 _ _ e7 e2.isFresh⟩
  | false =>
   simp only [qY, Bool.false_eq_true, if_false] at h7
   obtain ⟨env', h', hr, hk⟩ := h7
   refine wp_region ?_
   have := aRs (Q := QP G nt ρ w0 X R N) K ops.toList 0 ρ' env hp a w (by simp) hr h2 h3 h5 h6 fun ρ2 a2 w2 e1 e2 e3 e4 e5 e6 => ⟨ρ2, env', h', h1.trans e1, e2, e3, h4.trans e4, e5, e6, hk e2.isFresh⟩
   rw [List.range_eq_range']
   simpa using this
 | seq x y ihx ihy =>
  intro X R N a w h
  refine wp_seq (wp_mono (ihx X R (qY C rec nt y X R N) a w h) fun e a' w' hq => ?_)
  cases e with
  | normal => exact ihy X R N a' w' hq
  | exit id => exact hq
  | ret => exact hq
  | goto l => exact hq
  | panic ch => exact hq
  | outgrown => exact hq
 | cond c x y ihx ihy =>
  intro X R N a w h
  obtain ⟨ρ', env, hp, h1, h2, h3, h4, h5, h6, h7⟩ := h
  have hc := bG h3 c
  rcases h7 with ⟨hcb, h7⟩ | ⟨hcb, h7⟩
  ·rw [hcb] at hc
   generalize hcv : a.eval c = cv at hc
   cases hc
   exact wp_cond_true hcv (ihx X R N a w ⟨ρ', env, hp, h1, h2, h3, h4, h5, h6, h7⟩)
  ·rw [hcb] at hc
   generalize hcv : a.eval c = cv at hc
   cases hc
   exact wp_cond_false hcv (ihy X R N a w ⟨ρ', env, hp, h1, h2, h3, h4, h5, h6, h7⟩)
 | block id x ih =>
  intro X R N a w h
  refine wp_block (wp_mono (ih (fun j => if j = id then N else X j) R N a w h) fun e a' w' hq => ?_)
  cases e with
  | normal => exact hq
  | exit id' =>
   simp only [QP] at hq
   simp only [Exit.inBlock]
   split
   ·rename_i e
    rw [if_pos e] at hq
    exact hq
   ·rename_i e
    rw [if_neg e] at hq
    exact hq
  | ret => exact hq
  | goto l => exact hq
  | panic ch => exact hq
  | outgrown => exact hq
 | loop x ih => rintro X R N a w ⟨ρ', env, hp, h1, h2, h3, h4, h5, h6, h7⟩; exact h7.elim
 | rangeFunc f ps x y ihx ihy => rintro X R N a w ⟨ρ', env, hp, h1, h2, h3, h4, h5, h6, h7⟩; exact h7.elim
 | exit id => intro X R N a w h; exact wp_exit h
 | scope x ih =>
  intro X R N a w h
  refine wp_scope_straight (wp_mono (ih X R N a w h) fun e a' w' hq => ?_)
  cases e with
  | goto l => exact hq
  | normal => exact hq
  | exit id => exact hq
  | ret => exact hq
  | panic ch => exact hq
  | outgrown => exact hq
 | label l => rintro X R N a w ⟨ρ', env, hp, h1, h2, h3, h4, h5, h6, h7⟩; exact h7.elim
 | goto l => rintro X R N a w ⟨ρ', env, hp, h1, h2, h3, h4, h5, h6, h7⟩; exact h7.elim
 | ret => intro X R N a w h; exact wp_ret h
 | refuse why => rintro X R N a w ⟨ρ', env, hp, h1, h2, h3, h4, h5, h6, h7⟩; exact h7.elim
def Le (h2 h1 : Hp) : Prop := ∀ G ρ w, HR G ρ h2 w → HR G ρ h1 w
theorem dCs (K : OkC C rec) (hP : POk C.P) {f : FuncId} {fn : Func} {c : Code} (hf : C.P.funcs[f]? = some fn) (hb : fn.body = some c) {F : List DV → Hp → aH}
  (hF : ∀ args h v h1, F args h = some (v, h1) → nB h → qY C rec fn.ntmps c (fun _ _ _ => False) (fun env h' => ∃ h2, aQ C fn env h' = some (v, h2) ∧ Le h2 h1)
   (fun env h' => ∃ h2, aQ C fn env h' = some (v, h2) ∧ Le h2 h1) (aI args) h) : mF C.P G f F := by
 intro args h v h1 hr ρ w args' H hargs
 refine .inl ⟨?_, ?_⟩
 ·unfold callFunc
  have hn : ¬ fn.name = "runtime.NumGoroutine" := by simpa using hP.names f fn hf
  simp [hf, hn, hb]
 ·refine calls_of_wp hf hb ?_
  have he : EnvR ρ (aI args) { tmps := args' ++ Array.replicate (fn.ntmps - args'.size) undef, defers := [] } := by
   intro t
   unfold aI
   have hlen := hargs.length
   simp only [Array.length_toList] at hlen
   by_cases ht : t < args.length
   ·have hg : args[t]? = some args[t] := by simp [ht]
    obtain ⟨v', h2, h3⟩ := hargs.get t _ hg
    simp only [Array.getElem?_toList] at h2
    rw [show args.getD t aW = args[t] by simp [List.getD, hg]]
    have : (args' ++ Array.replicate (fn.ntmps - args'.size) undef).getD t undef = v' := by
     simp [Array.getElem?_append_left (show t < args'.size by omega), h2]
    rw [this]
    exact h3
   ·have hg : args.getD t aW = aW := by simp [List.getD, List.getElem?_eq_none (Nat.le_of_not_lt ht)]
    rw [hg]
    have : (args' ++ Array.replicate (fn.ntmps - args'.size) undef).getD t undef = undef := by
     rw [Array.getD_eq_getD_getElem?, Array.getElem?_append_right (by omega)]
     simp only [Array.getElem?_replicate]
     split <;> rfl
    rw [this]
    exact .t [] #[] .nil
  have hst : StP G fn.ntmps ρ w _ { tmps := args' ++ Array.replicate (fn.ntmps - args'.size) undef, defers := [] } w :=
   ⟨ρ, aI args, h, Ex.refl G ρ, H, he, Kp.refl G w, by simp; omega, rfl, hF args h v h1 hr H.isFresh⟩
  refine wp_mono (bTo K hP.mixed c _ _ _ _ _ hst) fun e a' w' hq => ?_
  have hfin : StP G fn.ntmps ρ w (fun env h' => ∃ h2, aQ C fn env h' = some (v, h2) ∧ Le h2 h1) a' w' → a'.defers = [] ∧ ∃ v', (results fn a'.tmps).run C.P w' = .ok v' w' ∧ lM G ρ w v h1 (.returned v') w' := by
   rintro ⟨ρ', env, h', e1, e2, e3, e4, e5, e6, h2, e7, e8⟩
   obtain ⟨rfl, v', r1, r2⟩ := aXc e2 e3 e7
   exact ⟨e6, v', r1, ρ', v', rfl, e1, r2, e8 _ _ _ e2, e4⟩
  cases e with
  | normal => exact hfin hq
  | ret => exact hfin hq
  | exit id => obtain ⟨ρ', env, h', e1, e2, e3, e4, e5, e6, e7⟩ := hq; exact e7.elim
  | goto l => exact hq.elim
  | panic ch => exact hq.elim
  | outgrown => exact hq.elim
end
end Go.Dd

namespace Go.Dd
open Go.RowKit (Below)
section
variable {ro : Option Nat} {n : Nat} {P : Program} {Q : Exit → Act → World → Prop}
end
section
variable {C : Cfg} {G : Gd} {rec : FuncId → List DV → Hp → aH} {nt n : Nat}
end
end Go.Dd

namespace Go.Dd
open Go.RowKit (Below)
section
variable {G G' : Gd} {ρ : cZ} {h : Hp} {w : World}
end
end Go.Dd

namespace Go.Dd
open Go.RowKit (Below)
structure ItC where
 gf : FuncId
 nt : Nat
 pre : Code
 b0 : Nat
 test : Code
 b1 : Nat
 rid : Nat
 front : List Oper
 y : Oper
 back : List Oper
 after : Code
 post : Code
 step : Code
 yd : Tmp
 yt : Tmp
 yx : Tmp
def ItC.ops (I : ItC) : Array Oper := (I.front ++ I.y :: I.back).toArray
def aMo : Nat → K := fun _ => dG
def ylB (v : DV) (b : Pos) : Bool := match v with
 | .yl b' => b' == b
 | _ => false
section
variable (C : Cfg) (rec : FuncId → List DV → Hp → aH) (n : Nat) (I : ItC)
noncomputable def aMw (b : Bool) (kr k : K) (e1 : aU) : Hp → aH := fun h =>
 cnd (cW I.nt (some I.yd)) (iS C rec I.nt I.ops I.back (aM C rec I.nt n I.after aMo kr k) (bM e1 (some I.yd) (.b b)) h)
noncomputable def aOy (nt : Nat) (p : Tmp) (x y : Code) (env : aU) (X : Nat → K) (kr kk : K) : K := fun e1 h1 =>
 cnd (cW nt (some p)) (aM C rec nt n x aMo dG (aM C rec nt n y
   (fun i _ h2 => aMw C rec n I false (fun _ h3 => X i env h3) dG e1 h2)
   (fun _ h2 => aMw C rec n I false (fun _ h3 => kr env h3) dG e1 h2)
   (fun _ h2 => aMw C rec n I true dG (aM C rec I.nt n I.post aMo dG (aM C rec I.nt n I.step aMo dG kk)) e1 h2))
  (bM env (some p) (e1 I.yx)) h1)
noncomputable def aCi (nt : Nat) (g : Operand) (p : Tmp) (x y : Code) (X : Nat → K) (kr k : K) : K := fun env h =>
 match opr env g with
 | .f gf [] cap => cnd (Nat.beq gf I.gf) (aM C rec I.nt n I.pre aMo dG
   (aN (fun kk => aM C rec I.nt n I.test (fun j => bif Nat.beq j I.b0 then (fun _ h => k env h) else dG) dG
    (iS C rec I.nt I.ops I.front (fun e1 h1 => cnd (ylB (e1 I.yt) h.next) (aOy C rec n I nt p x y env X kr kk e1 h1)))) n)
   (aI (.yl h.next :: cap)) (resv 2 h))
 | _ => none
end
section
variable {C : Cfg} {G : Gd} {rec : FuncId → List DV → Hp → aH} {n : Nat} {I : ItC} {N : Nat}
end
end Go.Dd

namespace Go.Dd
open Go.RowKit (Below)
section
variable {C : Cfg} {G : Gd} {rec : FuncId → List DV → Hp → aH} {n : Nat} {I : ItC} {N : Nat}
section
variable {ρ : cZ} {w0 : World} {D l : Nat} {nt : Nat} {p : Tmp} {x y : Code} {f0 : FuncId} {a0 : Act} {env : aU} {X : Nat → Dd.K} {kr k : Dd.K} {r : DV × Hp} {b : Pos}
end
end
end Go.Dd

namespace Go.Dd
open Go.RowKit (Below)
section
variable {C : Cfg} {G : Gd} {rec : FuncId → List DV → Hp → aH} {n : Nat} {I : ItC} {N : Nat}
variable {ρ : cZ} {w0 : World} {D l : Nat} {nt : Nat} {p : Tmp} {x y : Code} {f0 : FuncId} {a0 : Act} {env : aU} {X : Nat → Dd.K} {kr k : Dd.K} {r : DV × Hp} {b : Pos}
end
end Go.Dd

namespace Go.Dd
open Go.RowKit (Below)
section
variable {C : Cfg} {G : Gd} {rec : FuncId → List DV → Hp → aH} {n : Nat} {I : ItC} {N : Nat}
end
end Go.Dd

namespace Go.Dd
open Go.RowKit (Below)
noncomputable def dLt (ps : Array Tmp) (k : Tmp → K) : K := match ps.toList with
 | [p] => k p
 | _ => dG
section
variable (C : Cfg) (rec : FuncId → List DV → Hp → aH) (nt n : Nat) (I : ItC)
noncomputable def bQw (c : Code) : (Nat → K) → K → K → K :=
 Code.rec (motive := fun _ => (Nat → K) → K → K → K)
  (fun _ _ k => k)
  (fun _ ops dr _ _ k => Bool.rec (motive := fun _ => K) (iS C rec nt ops ops.toList k) (Bool.rec (motive := fun _ => K) dG (hY C rec nt ops k) (eZ C.P ops)) dr)
  (fun _ _ iha ihb X kr k => iha X kr (ihb X kr k))
  (fun c _ _ iha ihb X kr k => fun env h => aP (opr env c) (iha X kr k env h) (ihb X kr k env h))
  (fun id _ ih X kr k => ih (fun j => bif Nat.beq j id then k else X j) kr k)
  (fun _ ih X kr _ => aN (fun kk => ih X kr kk) n)
  (fun g ps x y _ _ X kr k => dLt ps fun p => aCi C rec n I nt g p x y X kr k)
  (fun id X _ _ => X id)
  (fun _ _ _ _ _ => dG)
  (fun _ _ _ _ => dG)
  (fun _ _ _ _ => dG)
  (fun _ kr _ => kr)
  (fun _ _ _ _ => dG) c
noncomputable def lX (f : FuncId) (args : List DV) (h : Hp) : aH :=
 match C.P.funcs[f]? with
 | some fn => match fn.body with
  | some c => bQw C rec fn.ntmps n I c (fun _ => dG) (aQ C fn) (aQ C fn) (aI args) h
  | none => none
 | none => none
end
section
variable {C : Cfg} {G : Gd} {rec : FuncId → List DV → Hp → aH} {nt n : Nat} {I : ItC}
end
end Go.Dd

namespace Go.Dd
noncomputable section
def WT.get (t : WT) : Nat → Int :=
 WT.rec (motive := fun _ => Nat → Int) (fun _ => .ofNat 0)
  (fun _ v _ ihl ihr k => bif Nat.beq k 0 then v else bif Nat.beq (Nat.mod k 2) 1 then ihl (Nat.div k 2) else ihr (Nat.div (Nat.sub k 1) 2)) t
def dRr (x : Int) (fuel : Nat) : Nat → WT → WT :=
 Nat.rec (motive := fun _ => Nat → WT → WT) (fun _ t => t)
  (fun _ ih k t => WT.rec (motive := fun _ => WT)
   (bif Nat.beq k 0 then .n .e x .e else bif Nat.beq (Nat.mod k 2) 1 then .n (ih (Nat.div k 2) .e) (.ofNat 0) .e else .n .e (.ofNat 0) (ih (Nat.div (Nat.sub k 1) 2) .e))
   (fun l v r _ _ => bif Nat.beq k 0 then .n l x r else bif Nat.beq (Nat.mod k 2) 1 then .n (ih (Nat.div k 2) l) v r else .n l v (ih (Nat.div (Nat.sub k 1) 2) r)) t) fuel
def WT.set (t : WT) (k : Nat) (x : Int) : WT := dRr x 24 k t
theorem WT.get_e (k : Nat) : WT.e.get k = 0 := rfl
theorem dRo (l : WT) (v : Int) (r : WT) (k : Nat) : (WT.n l v r).get k = if k = 0 then v else if k % 2 = 1 then l.get (k / 2) else r.get ((k - 1) / 2) := by
 show (bif Nat.beq k 0 then v else bif Nat.beq (Nat.mod k 2) 1 then l.get (Nat.div k 2) else r.get (Nat.div (Nat.sub k 1) 2)) = _
 cases h0 : Nat.beq k 0 with
 | true => have := Nat.eq_of_beq_eq_true h0; subst this; rfl
 | false =>
  have n0 : k ≠ 0 := by intro e; subst e; cases h0
  rw [if_neg n0]
  cases h1 : Nat.beq (Nat.mod k 2) 1 with
  | true => have : k % 2 = 1 := Nat.eq_of_beq_eq_true h1; rw [if_pos this]; rfl
  | false =>
   have n1 : k % 2 ≠ 1 := by intro e; have e' : Nat.mod k 2 = 1 := e; rw [e'] at h1; cases h1
   rw [if_neg n1]; rfl
theorem dSa (x : Int) (f k : Nat) (t : WT) : dRr x (f + 1) k t = match t with
  | .e => if k = 0 then .n .e x .e else if k % 2 = 1 then .n (dRr x f (k / 2) .e) 0 .e else .n .e 0 (dRr x f ((k - 1) / 2) .e)
  | .n l v r => if k = 0 then .n l x r else if k % 2 = 1 then .n (dRr x f (k / 2) l) v r else .n l v (dRr x f ((k - 1) / 2) r) := by
 have hb : ∀ {α : Type} (a b c : α), (bif Nat.beq k 0 then a else bif Nat.beq (Nat.mod k 2) 1 then b else c) = if k = 0 then a else if k % 2 = 1 then b else c := by
  intro α a b c
  cases h0 : Nat.beq k 0 with
  | true => have := Nat.eq_of_beq_eq_true h0; subst this; rfl
  | false =>
   have n0 : k ≠ 0 := by intro e; subst e; cases h0
   rw [if_neg n0]
   cases h1 : Nat.beq (Nat.mod k 2) 1 with
   | true => have : k % 2 = 1 := Nat.eq_of_beq_eq_true h1; rw [if_pos this]; rfl
   | false =>
    have n1 : k % 2 ≠ 1 := by intro e; have e' : Nat.mod k 2 = 1 := e; rw [e'] at h1; cases h1
    rw [if_neg n1]; rfl
 cases t with
 | e => exact hb _ _ _
 | n l v r => exact hb _ _ _
theorem dRu (x : Int) : ∀ (f k : Nat) (t : WT) (j : Nat), k + 1 < 2 ^ f → (dRr x f k t).get j = if j = k then x else t.get j
 | 0, k, t, j, h => by simp at h
 | f + 1, k, t, j, h => by
  have h2 : 2 ^ (f + 1) = 2 * 2 ^ f := by rw [Nat.pow_succ]; omega
  have ih := fun k t j (h : k + 1 < 2 ^ f) => dRu x f k t j h
  rw [dSa]
  cases t with
  | e =>
   simp only
   split
   ·subst_vars
    rw [dRo]
    split
    ·rfl
    ·simp [WT.get_e]
   ·split
    ·rw [dRo]
     split
     ·subst_vars; rw [if_neg (by omega)]; rfl
     ·split
      ·rw [ih _ _ _ (by omega), WT.get_e, WT.get_e]
       by_cases hj : j = k
       ·rw [if_pos hj, if_pos (by omega)]
       ·rw [if_neg hj, if_neg (by omega)]
      ·rw [WT.get_e, if_neg (by omega)]; rfl
    ·rw [dRo]
     split
     ·subst_vars; rw [if_neg (by omega)]; rfl
     ·split
      ·rw [WT.get_e, if_neg (by omega)]; rfl
      ·rw [ih _ _ _ (by omega), WT.get_e, WT.get_e]
       by_cases hj : j = k
       ·rw [if_pos hj, if_pos (by omega)]
       ·rw [if_neg hj, if_neg (by omega)]
  | n l v r =>
   simp only
   split
   ·subst_vars
    rw [dRo, dRo]
    split
    ·rfl
    ·rfl
   ·split
    ·rw [dRo, dRo]
     split
     ·subst_vars; rw [if_neg (by omega)]
     ·split
      ·rw [ih _ _ _ (by omega)]
       by_cases hj : j = k
       ·rw [if_pos hj, if_pos (by omega)]
       ·rw [if_neg hj, if_neg (by omega)]
      ·rw [if_neg (by omega)]
    ·rw [dRo, dRo]
     split
     ·subst_vars; rw [if_neg (by omega)]
     ·split
      ·rw [if_neg (by omega)]
      ·rw [ih _ _ _ (by omega)]
       by_cases hj : j = k
       ·rw [if_pos hj, if_pos (by omega)]
       ·rw [if_neg hj, if_neg (by omega)]
theorem WT.get_set (t : WT) (k : Nat) (x : Int) (j : Nat) (h : k < 16000000) : (t.set k x).get j = if j = k then x else t.get j :=
 dRu x 24 k t j (by omega)
def gU (n : Nat) (t : WT) : List DV := (List.range n).map fun i => .i .i64 (t.get i)
def uA (g : Bool) : Ob → Ob → Prop
 | .big n t, o => if g then o = .big n t else o = .row .ex (gU n t)
 | .mi t, o => if g then o = .mi t else ∃ es, o = .mp es ∧ ∀ a : Int, dF (.int .i64) (.i .i64 a) es = some (if 0 ≤ a ∧ t.get a.toNat ≠ 0 then some (.b true) else none)
 | o, o' => o' = o
structure Sim (g : Bool) (h h' : Hp) : Prop where
 next : h'.next = h.next
 get : ∀ b o, h.bl.get b = some o → ∃ o', h'.bl.get b = some o' ∧ uA g o o'
def SimR (g : Bool) (r r' : aH) : Prop := ∀ v h, r = some (v, h) → ∃ h', r' = some (v, h') ∧ Sim g h h'
def SimP (g : Bool) (p p' : Hp → aH) : Prop := ∀ h h', Sim g h h' → SimR g (p h) (p' h')
variable {h h' : Hp} {g : Bool}
theorem Sim.row (S : Sim g h h') {b : Pos} {k : Kind} {l : List DV} (hb : h.bl.get b = some (.row k l)) : h'.bl.get b = some (.row k l) := by
 obtain ⟨o', h1, h2⟩ := S.get b _ hb
 rw [h1, show o' = .row k l from h2]
theorem Sim.it (S : Sim g h h') {b : Pos} {s : List Nat} {p : Nat} (hb : h.bl.get b = some (.it s p)) : h'.bl.get b = some (.it s p) := by
 obtain ⟨o', h1, h2⟩ := S.get b _ hb
 rw [h1, show o' = .it s p from h2]
theorem Sim.mp (S : Sim g h h') {b : Pos} {es : List (DV × DV)} (hb : h.bl.get b = some (.mp es)) : h'.bl.get b = some (.mp es) := by
 obtain ⟨o', h1, h2⟩ := S.get b _ hb
 rw [h1, show o' = .mp es from h2]
theorem Sim.set (S : Sim g h h') {o o' : Ob} (hr : uA g o o') (b n : Pos) : Sim g ⟨n, Tr.set o b h.bl⟩ ⟨n, Tr.set o' b h'.bl⟩ := by
 refine ⟨rfl, fun x ob hx => ?_⟩
 by_cases e : x = b
 ·subst e
  simp only [dQw, bE] at hx ⊢
  subst hx
  exact ⟨o', rfl, hr⟩
 ·simp only [dQv _ _ _ _ e] at hx ⊢
  exact S.get x ob hx
theorem Sim.setR (S : Sim g h h') (k : Kind) (l : List DV) (b n : Pos) : Sim g ⟨n, Tr.set (.row k l) b h.bl⟩ ⟨n, Tr.set (.row k l) b h'.bl⟩ := S.set (show uA g (.row k l) (.row k l) from rfl) b n
theorem Sim.setM (S : Sim g h h') (es : List (DV × DV)) (b n : Pos) : Sim g ⟨n, Tr.set (.mp es) b h.bl⟩ ⟨n, Tr.set (.mp es) b h'.bl⟩ := S.set (show uA g (.mp es) (.mp es) from rfl) b n
theorem Sim.setI (S : Sim g h h') (s : List Nat) (p : Nat) (b n : Pos) : Sim g ⟨n, Tr.set (.it s p) b h.bl⟩ ⟨n, Tr.set (.it s p) b h'.bl⟩ := S.set (show uA g (.it s p) (.it s p) from rfl) b n
theorem Sim.new (S : Sim g h h') {o o' : Ob} (hr : uA g o o') : Sim g ⟨h.next.succ, Tr.set o h.next h.bl⟩ ⟨h'.next.succ, Tr.set o' h'.next h'.bl⟩ := by
 rw [S.next]; exact S.set hr _ _
theorem SimR.none (r : aH) : SimR g none r := fun v h e => by cases e
theorem SimR.some (S : Sim g h h') (v : DV) : SimR g (some (v, h)) (some (v, h')) := fun u k e => by
 simp only [bE, bO] at e
 obtain ⟨rfl, rfl⟩ := e
 exact ⟨h', rfl, S⟩
theorem dQz {F : Hp → aH} (hF : PureP F) : SimP g F F := fun h h' S v k e => by
 obtain ⟨rfl, h2⟩ := hF h v k e
 exact ⟨h', h2 h', S⟩
theorem Sim.rowOf (S : Sim g h h') {b : Pos} {l : List DV} (hb : rowOf b h = some l) : rowOf b h' = some l := by
 unfold Dd.rowOf at hb ⊢
 split at hb <;> (try (cases hb; done))
 rename_i k l0 h0
 rw [S.row h0]; exact hb
theorem Sim.cellsAt (S : Sim g h h') {b : Pos} {o n : Nat} {cs : List DV} (hb : cellsAt b o n h = some cs) : cellsAt b o n h' = some cs := by
 unfold Dd.cellsAt at hb ⊢
 split at hb <;> (try (cases hb; done))
 rename_i l h0
 rw [S.rowOf h0]; exact hb
theorem Sim.cellD (S : Sim g h h') {b : Pos} {o : Nat} {v : DV} (hb : cellD b o h = some v) : cellD b o h' = some v := by
 unfold Dd.cellD at hb ⊢
 split at hb <;> (try (cases hb; done))
 rename_i l h0
 rw [S.rowOf h0]; exact hb
theorem Sim.storeAt (S : Sim g h h') {b : Pos} {o : Nat} {vs : List DV} {k : Hp} (hb : dD b o vs h = some k) : ∃ k', dD b o vs h' = some k' ∧ Sim g k k' := by
 unfold dD at hb ⊢
 split at hb <;> (try (cases hb; done))
 rename_i kd l h0
 rw [S.row h0]
 dsimp only
 split at hb <;> (try (cases hb; done))
 rename_i hw
 rw [if_pos hw]
 split at hb <;> (try (cases hb; done))
 rename_i l' hp
 simp only [bE] at hb
 subst hb
 try simp only [hp]
 exact ⟨_, rfl, by rw [S.next]; exact S.set (show uA g (.row kd l') (.row kd l') from rfl) _ _⟩
theorem aIm (cs : List DV) : SimP g (bL cs) (bL cs) := fun h h' S v k e => by
 simp only [bL, bE, bO] at e ⊢
 obtain ⟨rfl, rfl⟩ := e
 exact ⟨_, ⟨by rw [S.next], rfl⟩, S.new rfl⟩
theorem aAa (b : Pos) (cs : List DV) : SimP g (jW b cs) (jW b cs) := fun h h' S v k e => by
 simp only [jW, bE, bO] at e ⊢
 obtain ⟨rfl, rfl⟩ := e
 exact ⟨_, ⟨rfl, rfl⟩, by rw [S.next]; first | exact S.setR _ _ _ _ | exact S.setM _ _ _ | exact S.setI _ _ _ _⟩
theorem cDm (x : DV) : SimP g (bQ x) (bQ x) := by
 unfold bQ
 cases dO x with
 | none => exact fun h h' S => SimR.none _
 | some cs => exact aIm cs
theorem bDp (b : Pos) (x : DV) : SimP g (vJ b x) (vJ b x) := by
 unfold vJ
 cases dO x with
 | none => exact fun h h' S => SimR.none _
 | some cs => exact aAa b cs
theorem jX (x : DV) : SimP g (aA x) (aA x) := fun h h' S v k e => by
 unfold aA at e ⊢
 split at e <;> (try (cases e; done))
 split at e <;> (try (cases e; done))
 rename_i hc
 simp only [bE, bO] at e
 obtain ⟨rfl, rfl⟩ := e
 simp only [S.cellD hc]
 exact ⟨_, rfl, S⟩
theorem kE (n : Nat) (x : DV) : SimP g (aK n x) (aK n x) := fun h h' S v k e => by
 unfold aK at e ⊢
 split at e <;> (try (cases e; done))
 split at e <;> (try (cases e; done))
 rename_i hc
 simp only [bE, bO] at e
 obtain ⟨rfl, rfl⟩ := e
 simp only [S.cellsAt hc]
 exact ⟨_, rfl, S⟩
theorem kK (n : Nat) (x y : DV) : SimP g (aG n x y) (aG n x y) := fun h h' S v k e => by
 unfold aG at e ⊢
 split at e <;> (try (cases e; done))
 rename_i b o cs hc
 try rw [hc]
 try dsimp only
 split at e <;> (try (cases e; done))
 rename_i hn
 rw [if_pos hn]
 split at e <;> (try (cases e; done))
 rename_i k0 hs
 simp only [bE, bO] at e
 obtain ⟨rfl, rfl⟩ := e
 obtain ⟨k', h1, h2⟩ := S.storeAt hs
 try simp only [h1]
 exact ⟨_, rfl, h2⟩
theorem bFf (size : Nat) (x : DV) (lo hi : Option DV) : SimP g (cQ size x lo hi) (cQ size x lo hi) := fun h h' S v k e => by
 unfold cQ at e ⊢
 split at e <;> (try (cases e; done))
 ·split at e <;> (try (cases e; done))
  rename_i en he
  try simp only [he]
  split at e <;> (try (cases e; done))
  rename_i s hs
  try simp only [hs]
  split at e <;> (try (cases e; done))
  ·rename_i l0 hb
   rw [S.row hb]
   simp only [bE, bO] at e
   obtain ⟨rfl, rfl⟩ := e
   exact ⟨_, rfl, S⟩
  ·rename_i l0 hb
   rw [S.row hb]
   simp only [bE, bO] at e
   obtain ⟨rfl, rfl⟩ := e
   exact ⟨_, rfl, S⟩
  ·rename_i k0 l0 n1 n2 hb
   rw [S.row hb]
   cases k0 with
   | ro => exact absurd rfl n1
   | ex => exact absurd rfl n2
   | gr es =>
    dsimp only
    split at e
    ·rename_i hcs
     simp only [bE, bO] at e
     obtain ⟨rfl, rfl⟩ := e
     rw [if_pos hcs]
     exact ⟨_, rfl, S⟩
    ·rename_i hcs
     simp only [bE, bO] at e
     obtain ⟨rfl, rfl⟩ := e
     rw [if_neg hcs]
     exact ⟨_, rfl, S⟩
   | sp =>
    dsimp only
    split at e
    ·rename_i hcs
     simp only [bE, bO] at e
     obtain ⟨rfl, rfl⟩ := e
     rw [if_pos hcs]
     exact ⟨_, rfl, S⟩
    ·rename_i hcs
     simp only [bE, bO] at e
     obtain ⟨rfl, rfl⟩ := e
     rw [if_neg hcs]
     exact ⟨_, rfl, S⟩
 all_goals
  split at e <;> (try (cases e; done))
  rename_i en he
  try simp only [he]
  split at e <;> (try (cases e; done))
  rename_i s hs
  try simp only [hs]
  simp only [bE, bO] at e
  obtain ⟨rfl, rfl⟩ := e
  exact ⟨_, rfl, S⟩
theorem aPh (x : DV) (lo : Option DV) (hi mx : DV) : SimP g (mR x lo hi mx) (mR x lo hi mx) := fun h h' S v k e => by
 unfold mR at e ⊢
 split at e <;> (try (cases e; done))
 all_goals
  split at e <;> (try (cases e; done))
 ·rename_i m e1
  try simp only [e1]
  split at e <;> (try (cases e; done))
  rename_i n e2
  try simp only [e2]
  simp only [bE, bO] at e
  obtain ⟨rfl, rfl⟩ := e
  exact ⟨_, rfl, S⟩
 ·rename_i m e1
  try simp only [e1]
  split at e <;> (try (cases e; done))
  rename_i n e2
  try simp only [e2]
  simp only [bE, bO] at e
  obtain ⟨rfl, rfl⟩ := e
  exact ⟨_, rfl, S⟩
 ·rename_i n1 n2 e1 e2
  try simp only [e1, e2]
  simp only [bE, bO] at e
  obtain ⟨rfl, rfl⟩ := e
  exact ⟨_, rfl, S⟩
 ·rename_i n1 n2 e1 e2
  try simp only [e1, e2]
  simp only [bE, bO] at e
  obtain ⟨rfl, rfl⟩ := e
  exact ⟨_, rfl, S⟩
theorem bFh (x : DV) : SimP g (gK x) (gK x) := fun h h' S v k e => by
 unfold gK at e ⊢
 split at e <;> (try (cases e; done))
 ·simp only [bE, bO] at e
  obtain ⟨rfl, rfl⟩ := e
  exact ⟨_, rfl, S⟩
 ·split at e <;> (try (cases e; done))
  rename_i cs hc
  simp only [S.cellsAt hc]
  split at e <;> (try (cases e; done))
  rename_i l hl
  try simp only [hl]
  simp only [bE, bO] at e
  obtain ⟨rfl, rfl⟩ := e
  exact ⟨_, rfl, S⟩
theorem yO (z : List DV) (n : Nat) (ps : List (Nat × Nat × DV)) : SimP g (aL z n ps) (aL z n ps) := fun h h' S v k e => by
 unfold aL at e ⊢
 split at e <;> (try (cases e; done))
 rename_i cs hf
 try simp only [hf]
 simp only [bE, bO] at e ⊢
 obtain ⟨rfl, rfl⟩ := e
 exact ⟨_, ⟨by rw [S.next], rfl⟩, S.new rfl⟩
theorem qT (b : Pos) (z : List DV) (n : Nat) (ps : List (Nat × Nat × DV)) : SimP g (bK b z n ps) (bK b z n ps) := fun h h' S v k e => by
 unfold bK at e ⊢
 split at e <;> (try (cases e; done))
 rename_i cs hf
 try simp only [hf]
 simp only [bE, bO] at e ⊢
 obtain ⟨rfl, rfl⟩ := e
 exact ⟨_, ⟨rfl, rfl⟩, by rw [S.next]; first | exact S.setR _ _ _ _ | exact S.setM _ _ _ | exact S.setI _ _ _ _⟩
theorem aLt : SimP g dU dU := fun h h' S v k e => by
 simp only [dU, bE, bO] at e ⊢
 obtain ⟨rfl, rfl⟩ := e
 exact ⟨_, ⟨by rw [S.next], rfl⟩, S.new rfl⟩
theorem Sim.entries (S : Sim g h h') {x : DV} {es : List (DV × DV)} (he : fG x h = some es) : fG x h' = some es := by
 unfold fG at he ⊢
 split at he <;> (try (cases he; done))
 ·exact he
 ·split at he <;> (try (cases he; done))
  rename_i hb
  rw [S.mp hb]; exact he
theorem aPc (d : TypeDesc) (z : DV) (ok : Bool) (x key : DV) : SimP g (dL d z ok x key) (dL d z ok x key) := fun h h' S v k e => by
 unfold dL at e ⊢
 split at e <;> (try (cases e; done))
 rename_i es he
 simp only [S.entries he]
 split at e <;> (try (cases e; done))
 all_goals
  rename_i hf
  try simp only [hf]
  simp only [bE, bO] at e
  obtain ⟨rfl, rfl⟩ := e
  exact ⟨_, rfl, S⟩
theorem aPo (d : TypeDesc) (x key y : DV) : SimP g (fY d x key y) (fY d x key y) := fun h h' S v k e => by
 unfold fY at e ⊢
 split at e <;> (try (cases e; done))
 split at e <;> (try (cases e; done))
 rename_i b _ es hb
 rw [S.mp hb]
 dsimp only
 split at e <;> (try (cases e; done))
 rename_i hf
 try simp only [hf]
 simp only [bE, bO] at e
 obtain ⟨rfl, rfl⟩ := e
 exact ⟨_, rfl, by rw [S.next]; first | exact S.setR _ _ _ _ | exact S.setM _ _ _ | exact S.setI _ _ _ _⟩
theorem aEn (d : TypeDesc) (z x key : DV) : SimP g (fP d z x key) (fP d z x key) := fun h h' S v k e => by
 unfold fP at e ⊢
 split at e <;> (try (cases e; done))
 split at e <;> (try (cases e; done))
 rename_i b _ es hb
 rw [S.mp hb]
 dsimp only
 split at e <;> (try (cases e; done))
 all_goals
  rename_i hf
  try simp only [hf]
  simp only [bE, bO] at e
  obtain ⟨rfl, rfl⟩ := e
  exact ⟨_, rfl, by rw [S.next]; first | exact S.setR _ _ _ _ | exact S.setM _ _ _ | exact S.setI _ _ _ _⟩
theorem yM (x s y : DV) : SimP g (dT x s y) (dT x s y) := fun h h' S v k e => by
 unfold dT at e ⊢
 split at e <;> (try (cases e; done))
 split at e <;> (try (cases e; done))
 rename_i es hb
 rw [S.mp hb]
 dsimp only
 split at e <;> (try (cases e; done))
 rename_i hf
 try simp only [hf]
 simp only [bE, bO] at e
 obtain ⟨rfl, rfl⟩ := e
 exact ⟨_, rfl, by rw [S.next]; first | exact S.setR _ _ _ _ | exact S.setM _ _ _ | exact S.setI _ _ _ _⟩
theorem zC (size bytes : Nat) (z : List DV) (n c : DV) : SimP g (cG size bytes z n c) (cG size bytes z n c) := fun h h' S v k e => by
 unfold cG at e ⊢
 split at e <;> (try (cases e; done))
 split at e <;> (try (cases e; done))
 rename_i hc
 rw [if_pos hc]
 simp only [bE, bO] at e ⊢
 obtain ⟨rfl, rfl⟩ := e
 exact ⟨_, ⟨by rw [S.next], rfl⟩, S.new rfl⟩
theorem bFj (z : List DV) (x : DV) : SimP g (jD z x) (jD z x) := fun h h' S v k e => by
 unfold jD at e ⊢
 split at e <;> (try (cases e; done))
 ·simp only [bE, bO] at e
  obtain ⟨rfl, rfl⟩ := e
  exact ⟨_, rfl, S⟩
 ·simp only [bE, bO] at e
  obtain ⟨rfl, rfl⟩ := e
  exact ⟨_, rfl, S⟩
 ·split at e
  ·rename_i hn
   simp only [bE, bO] at e
   obtain ⟨rfl, rfl⟩ := e
   simp only [hn, if_true]
   exact ⟨_, rfl, S⟩
  ·rename_i hn
   rw [if_neg hn]
   split at e <;> (try (cases e; done))
   rename_i k0 hs
   simp only [bE, bO] at e
   obtain ⟨rfl, rfl⟩ := e
   obtain ⟨k', h1, h2⟩ := S.storeAt hs
   try simp only [h1]
   exact ⟨_, rfl, h2⟩
theorem Sim.src (S : Sim g h h') {size : Nat} {x : DV} {r : Nat × List DV} (hs : rR size x h = some r) : rR size x h' = some r := by
 unfold rR at hs ⊢
 split at hs <;> (try (cases hs; done))
 ·exact hs
 ·exact hs
 ·split at hs <;> (try (cases hs; done))
  rename_i hc
  simp only [S.cellsAt hc]; exact hs
 ·split at hs <;> (try (cases hs; done))
  rename_i hc
  simp only [S.cellsAt hc]; exact hs
 ·exact hs
theorem aQx (size bytes : Nat) (s x : DV) : SimP g (aZ size bytes s x) (aZ size bytes s x) := fun h h' S v k e => by
 unfold aZ at e ⊢
 split at e <;> (try (cases e; done))
 rename_i n new hs
 simp only [S.src hs]
 split at e <;> (try (cases e; done))
 ·split at e
  ·rename_i hn
   rw [if_pos hn]
   simp only [bE, bO] at e
   obtain ⟨rfl, rfl⟩ := e
   exact ⟨_, rfl, S⟩
  ·rename_i hn
   rw [if_neg hn]
   split at e <;> (try (cases e; done))
   rename_i hr
   rw [if_pos hr]
   simp only [bE, bO] at e ⊢
   obtain ⟨rfl, rfl⟩ := e
   exact ⟨_, ⟨by rw [S.next], rfl⟩, S.new rfl⟩
 ·split at e <;> (try (cases e; done))
  rename_i hn
  rw [if_pos hn]
  simp only [bE, bO] at e
  obtain ⟨rfl, rfl⟩ := e
  exact ⟨_, rfl, S⟩
 ·rename_i b o len cap
  split at e
  ·rename_i hle
   rw [if_pos hle]
   split at e <;> (try (cases e; done))
   rename_i k0 hst
   simp only [bE, bO] at e
   obtain ⟨rfl, rfl⟩ := e
   obtain ⟨k', h1, h2⟩ := S.storeAt hst
   try simp only [h1]
   exact ⟨_, rfl, h2⟩
  ·rename_i hle
   rw [if_neg hle]
   split at e <;> (try (cases e; done))
   rename_i k0 l old hb hold
   rw [S.row hb, S.cellsAt hold]
   dsimp only
   split at e <;> (try (cases e; done))
   rename_i hroom
   rw [if_pos hroom]
   split at e <;> (try (cases e; done))
   ·simp only [bE, bO] at e ⊢
    obtain ⟨rfl, rfl⟩ := e
    exact ⟨_, ⟨by rw [S.next], rfl⟩, S.new rfl⟩
   ·simp only [bE, bO] at e ⊢
    obtain ⟨rfl, rfl⟩ := e
    exact ⟨_, ⟨by rw [S.next], rfl⟩, S.new rfl⟩
   ·split at e <;> (try (cases e; done))
    rename_i hes
    rw [if_pos hes]
    simp only [bE, bO] at e ⊢
    obtain ⟨rfl, rfl⟩ := e
    refine ⟨_, ⟨by rw [S.next], rfl⟩, ?_⟩
    have S1 : Sim g ⟨h.next, Tr.set (.row .sp (bP o l)) b h.bl⟩ ⟨h'.next, Tr.set (.row .sp (bP o l)) b h'.bl⟩ := by
     rw [S.next]; exact S.set (show uA g (.row .sp (bP o l)) (.row .sp (bP o l)) from rfl) _ _
    exact S1.new rfl
 ·rename_i b o len cap
  split at e
  ·rename_i hn
   rw [if_pos hn]
   split at e <;> (try (cases e; done))
   rename_i hc
   rw [if_pos hc]
   simp only [bE, bO] at e
   obtain ⟨rfl, rfl⟩ := e
   exact ⟨_, rfl, S⟩
  ·rename_i hn
   rw [if_neg hn]
   split at e <;> (try (cases e; done))
   rename_i hc
   rw [if_neg hc]
   split at e <;> (try (cases e; done))
   rename_i old hold
   simp only [S.cellsAt hold]
   split at e <;> (try (cases e; done))
   rename_i hr
   rw [if_pos hr]
   simp only [bE, bO] at e ⊢
   obtain ⟨rfl, rfl⟩ := e
   exact ⟨_, ⟨by rw [S.next], rfl⟩, S.new rfl⟩
theorem bFt (x : DV) : SimP g (nI x) (nI x) := fun h h' S v k e => by
 unfold nI at e ⊢
 split at e <;> (try (cases e; done))
 simp only [bE, bO] at e ⊢
 obtain ⟨rfl, rfl⟩ := e
 exact ⟨_, ⟨by rw [S.next], rfl⟩, S.new rfl⟩
theorem cAy (x : DV) : SimP g (xD x) (xD x) := fun h h' S v k e => by
 unfold xD at e ⊢
 split at e <;> (try (cases e; done))
 split at e <;> (try (cases e; done))
 rename_i b _ l pos hb
 rw [S.it hb]
 dsimp only
 split at e
 ·rename_i c hc
  try simp only [hc]
  split at e <;> (try (cases e; done))
  rename_i hlt
  rw [if_pos hlt]
  simp only [bE, bO] at e ⊢
  obtain ⟨rfl, rfl⟩ := e
  exact ⟨_, ⟨rfl, rfl⟩, by rw [S.next]; first | exact S.setR _ _ _ _ | exact S.setM _ _ _ | exact S.setI _ _ _ _⟩
 ·rename_i hc
  try simp only [hc]
  simp only [bE, bO] at e ⊢
  obtain ⟨rfl, rfl⟩ := e
  exact ⟨_, ⟨rfl, rfl⟩, S⟩
end
end Go.Dd

namespace Go.Dd
theorem SimP.none {gg : Bool} (p : Hp → aH) : SimP gg (fun _ => Option.none) p := fun h h' S => SimR.none _
theorem SimP.val {gg : Bool} (v : DV) : SimP gg (fun h => some (v, h)) (fun h => some (v, h)) := fun h h' S => SimR.some S v
section
variable {gg : Bool} {P : Program} {I2 I1 : FuncId → Option (List DV → Hp → aH)} {rec2 rec1 : FuncId → List DV → Hp → aH}
theorem aLw (b : Builtin) (ts : List TypeId) (args : List DV) : SimP gg (jH ⟨P, I2⟩ b ts args) (jH ⟨P, I1⟩ b ts args) := by
 unfold jH
 cases b <;> try exact SimP.none _
 case len =>
  match ts, args with
  | [t], [x] =>
   dsimp only
   cases P.underlying t with
   | none => exact SimP.none _
   | some d => cases d <;> first | exact SimP.none _ | exact dQz (zM x) | exact dQz (mD x)
  | [], _ => exact SimP.none _
  | [_], [] => exact SimP.none _
  | [_], _ :: _ :: _ => exact SimP.none _
  | _ :: _ :: _, _ => exact SimP.none _
 case min =>
  show SimP gg (pN args) (pN args)
  unfold pN
  match args with
  | [x, y] => exact dQz (aKk x y)
  | [] => exact SimP.none _
  | [_] => exact SimP.none _
  | _ :: _ :: _ :: _ => exact SimP.none _
 case max =>
  show SimP gg (pP args) (pP args)
  unfold pP
  match args with
  | [x, y] => exact dQz (aLu x y)
  | [] => exact SimP.none _
  | [_] => exact SimP.none _
  | _ :: _ :: _ :: _ => exact SimP.none _
 case clear =>
  match ts, args with
  | [t], [x] =>
   dsimp only
   cases P.underlying t with
   | none => exact SimP.none _
   | some d =>
    cases d <;> try exact SimP.none _
    rename_i e
    dsimp only
    cases P.info? e with
    | none => exact SimP.none _
    | some i =>
     dsimp only
     cases i.zero with
     | none => exact SimP.none _
     | some z =>
      dsimp only
      by_cases h0 : 0 < z.cells.size
      ·simp only [h0, if_true]; exact bFj _ _
      ·simp only [h0, if_false]; exact SimP.none _
  | [], _ => exact SimP.none _
  | [_], [] => exact SimP.none _
  | [_], _ :: _ :: _ => exact SimP.none _
  | _ :: _ :: _, _ => exact SimP.none _
 case append =>
  match ts, args with
  | [t, u], [s, x] =>
   dsimp only
   have hmain : ∀ e, SimP gg (fun h => match P.info? e with
     | some i => match i.zero with
      | some z => if 0 < i.size ∧ 0 < i.bytes ∧ z.cells.size = i.size then aZ i.size i.bytes s x h else none
      | none => none
     | none => none) (fun h => match P.info? e with
     | some i => match i.zero with
      | some z => if 0 < i.size ∧ 0 < i.bytes ∧ z.cells.size = i.size then aZ i.size i.bytes s x h else none
      | none => none
     | none => none) := by
    intro e
    cases P.info? e with
    | none => exact SimP.none _
    | some i =>
     dsimp only
     cases i.zero with
     | none => exact SimP.none _
     | some z =>
      dsimp only
      split
      ·exact aQx _ _ _ _
      ·exact SimP.none _
   cases P.underlying t with
   | none => exact SimP.none _
   | some d =>
    cases d <;> try exact SimP.none _
    rename_i e
    cases P.underlying u with
    | none => exact SimP.none _
    | some d2 => cases d2 <;> first | exact SimP.none _ | exact hmain e
  | [], _ => exact SimP.none _
  | [_], _ => exact SimP.none _
  | [_, _], [] => exact SimP.none _
  | [_, _], [_] => exact SimP.none _
  | [_, _], _ :: _ :: _ :: _ => exact SimP.none _
  | _ :: _ :: _ :: _, _ => exact SimP.none _
theorem aAg (HC : ∀ g args, SimP gg (bN ⟨P, I2⟩ rec2 g args) (bN ⟨P, I1⟩ rec1 g args)) (o : Oper) (env : aU) : SimP gg (iM ⟨P, I2⟩ rec2 o env) (iM ⟨P, I1⟩ rec1 o env) := by
 obtain ⟨dst, op, ty, pos, after, guard⟩ := o
 unfold iM
 cases op <;> (try dsimp only) <;> try exact SimP.none _
 case move x => exact SimP.val _
 case assign x => exact SimP.val _
 case pick c x y => exact dQz (zN _ _ _)
 case alloc t =>
  cases P.info? t with
  | none => exact SimP.none _
  | some i =>
   try dsimp only
   cases i.zero with
   | none => exact SimP.none _
   | some z => exact aIm _
 case box t x => exact cDm _
 case build t ps =>
  cases P.underlying t with
  | none => exact SimP.none _
  | some d =>
   cases d <;> (try dsimp only) <;> try exact SimP.none _
   rename_i fs
   cases P.info? t with
   | none => exact SimP.none _
   | some i =>
    try dsimp only
    cases i.zero with
    | none => exact SimP.none _
    | some z =>
     try dsimp only
     generalize fs.toList.mapM (fun f => (P.info? f.type).map fun fi => (f.offset, fi.size)) = pl
     cases pl with
     | none => exact SimP.none _
     | some pl =>
      try dsimp only
      generalize ps.toList.mapM (fun (q : Nat × Operand) => (pl[q.1]?).map fun s => (s.1, s.2, opr env q.2)) = l
      cases l with
      | none => exact SimP.none _
      | some l => exact dQz (uL _ _)
 case buildSlice t n ps =>
  cases P.underlying t with
  | none => exact SimP.none _
  | some d =>
   cases d <;> (try dsimp only) <;> try exact SimP.none _
   rename_i e
   cases P.info? e with
   | none => exact SimP.none _
   | some i =>
    try dsimp only
    cases i.zero with
    | none => exact SimP.none _
    | some z =>
     try dsimp only
     split
     ·exact yO _ _ _
     ·exact SimP.none _
 case load t x =>
  cases P.underlying t with
  | none => exact SimP.none _
  | some d =>
   cases P.info? t with
   | none => exact SimP.none _
   | some i =>
    try dsimp only
    cases iL d with
    | true => exact kE _ _
    | false => exact jX _
 case store t x y =>
  cases P.info? t with
  | none => exact SimP.none _
  | some i => exact kK _ _ _
 case nilCheck x => exact dQz (aKo _)
 case binOp op t x y yt =>
  cases P.underlying t with
  | none => exact SimP.none _
  | some d => exact dQz (aLb _ _ _ _)
 case unOp op t x => exact dQz (aYb _ _)
 case convert src dst x =>
  cases P.underlying src with
  | none => exact SimP.none _
  | some d =>
   cases P.underlying dst with
   | none => cases d <;> exact SimP.none _
   | some d2 =>
    cases d2 <;> cases d <;> (try dsimp only) <;> first | exact SimP.none _ | exact dQz (nT _ _) | exact dQz (nF _) | skip
    all_goals
     rename_i e
     cases P.underlying e with
     | none => exact SimP.none _
     | some d3 =>
      cases d3 <;> (try dsimp only) <;> try exact SimP.none _
      rename_i k
      cases k <;> first | exact SimP.none _ | exact bFh _
 case makeFunc fn first cap =>
  cases fn <;> first | exact SimP.none _ | exact SimP.val _
 case slice t x lo hi mx =>
  cases P.underlying t with
  | none => exact SimP.none _
  | some d =>
   cases mx with
   | none =>
    cases d <;> (try dsimp only) <;> first | exact SimP.none _ | exact dQz (lV _ _ _) | skip
    rename_i e
    cases P.info? e with
    | none => exact SimP.none _
    | some i => exact bFf _ _ _ _
   | some m =>
    cases d <;> (try dsimp only) <;> try exact SimP.none _
    rename_i e
    cases P.info? e with
    | none => exact SimP.none _
    | some i =>
     cases hi with
     | none => exact SimP.none _
     | some hv => exact aPh _ _ _ _
 case fieldAddr t x f =>
  cases P.underlying t with
  | none => exact SimP.none _
  | some d =>
   cases d <;> (try dsimp only) <;> try exact SimP.none _
   rename_i fs
   cases fs[f]? with
   | none => exact SimP.none _
   | some fl =>
    try dsimp only
    cases P.info? fl.type with
    | none => exact SimP.none _
    | some i =>
     try dsimp only
     split
     ·exact SimP.none _
     ·exact dQz (yQ _ _)
 case field t x f =>
  cases P.underlying t with
  | none => exact SimP.none _
  | some d =>
   cases d <;> (try dsimp only) <;> try exact SimP.none _
   rename_i fs
   cases fs[f]? with
   | none => exact SimP.none _
   | some fl =>
    try dsimp only
    cases P.underlying fl.type with
    | none => exact SimP.none _
    | some d2 =>
     cases P.info? fl.type with
     | none => exact SimP.none _
     | some i =>
      try dsimp only
      cases iL d2 with
      | true => exact dQz (xB _ _ _)
      | false => exact dQz (wJ _ _)
 case indexAddr t x ix =>
  cases P.underlying t with
  | none => exact SimP.none _
  | some d =>
   cases d <;> (try dsimp only) <;> try exact SimP.none _
   ·rename_i e
    cases P.info? e with
    | none => exact SimP.none _
    | some i => exact dQz (mL _ _ _)
   ·rename_i n e
    cases P.info? e with
    | none => exact SimP.none _
    | some i => exact dQz (nD _ _ _ _)
 case index t x ix =>
  cases P.underlying t with
  | none => exact SimP.none _
  | some d => cases d <;> first | exact SimP.none _ | exact dQz (rC _ _)
 case extract x i => exact dQz (oP _ _)
 case range t x =>
  cases P.underlying t with
  | none => exact SimP.none _
  | some d => cases d <;> first | exact SimP.none _ | exact bFt _
 case next x str =>
  cases str with
  | true => simp only [if_true]; exact cAy _
  | false => simp only [Bool.false_eq_true, if_false]; exact SimP.none _
 case makeMap t r => cases r <;> first | exact SimP.none _ | exact aLt
 case lookup t x k ok =>
  cases P.underlying t with
  | none => exact SimP.none _
  | some d =>
   cases d <;> (try dsimp only) <;> try exact SimP.none _
   rename_i kt et
   cases P.underlying kt with
   | none => exact SimP.none _
   | some d2 =>
    cases P.info? et with
    | none => exact SimP.none _
    | some i =>
     try dsimp only
     cases i.zero with
     | none => exact SimP.none _
     | some z =>
      try dsimp only
      cases iU d2 with
      | true => exact aPc _ _ _ _ _
      | false => exact SimP.none _
 case mapUpdate t m k x =>
  cases P.underlying t with
  | none => exact SimP.none _
  | some d =>
   cases d <;> (try dsimp only) <;> try exact SimP.none _
   rename_i kt et
   cases P.underlying kt with
   | none => exact SimP.none _
   | some d2 =>
    try dsimp only
    cases iU d2 with
    | true => exact aPo _ _ _ _
    | false => exact SimP.none _
 case mapEntry t m k =>
  cases P.underlying t with
  | none => exact SimP.none _
  | some d =>
   cases d <;> (try dsimp only) <;> try exact SimP.none _
   rename_i kt et
   cases P.underlying kt with
   | none => exact SimP.none _
   | some d2 =>
    cases P.info? et with
    | none => exact SimP.none _
    | some i =>
     try dsimp only
     cases i.zero with
     | none => exact SimP.none _
     | some z =>
      try dsimp only
      cases iU d2 with
      | true => exact aEn _ _ _ _
      | false => exact SimP.none _
 case entryStore t m s x => exact yM _ _ _
 case makeSlice t n c =>
  cases P.underlying t with
  | none => exact SimP.none _
  | some d =>
   cases d <;> (try dsimp only) <;> try exact SimP.none _
   rename_i e
   cases P.info? e with
   | none => exact SimP.none _
   | some i =>
    try dsimp only
    cases i.zero with
    | none => exact SimP.none _
    | some z =>
     try dsimp only
     split
     ·exact zC _ _ _ _ _
     ·exact SimP.none _
 case call c =>
  obtain ⟨callee, args, ats⟩ := c
  cases callee with
  | value f =>
   try dsimp only
   unfold cV
   cases opr env f <;> first | exact SimP.none _ | exact HC _ _
  | invoke r m => exact SimP.none _
  | builtin b => exact aLw _ _ _
theorem kM (HC : ∀ g args, SimP gg (bN ⟨P, I2⟩ rec2 g args) (bN ⟨P, I1⟩ rec1 g args)) (all : Array Oper) (o : Oper) (env : aU) :
  SimP gg (bJ ⟨P, I2⟩ rec2 all o env) (bJ ⟨P, I1⟩ rec1 all o env) := by
 unfold bJ
 cases o.guard with
 | none => exact aAg HC o env
 | some g =>
  obtain ⟨j, want⟩ := g
  dsimp only
  unfold gD
  cases aWh all j env <;> try exact SimP.none _
  ·rename_i x
   dsimp only
   split
   ·exact aAg HC o env
   ·exact SimP.val _
  ·rename_i vs
   cases vs with
   | nil => exact SimP.val _
   | cons a b => exact SimP.none _
def SimK (gg : Bool) (k k' : K) : Prop := ∀ env, SimP gg (k env) (k' env)
theorem dRd {r r' : aH} {k k' : DV → Hp → aH} (h : SimR gg r r') (hk : ∀ v, SimP gg (k v) (k' v)) : SimR gg (bnd r k) (bnd r' k') := by
 intro v h1 e
 obtain ⟨u, h0, e1, e2⟩ := dI e
 obtain ⟨h0', f1, S⟩ := h u h0 e1
 obtain ⟨h1', g1, S1⟩ := hk u h0 h0' S v h1 e2
 exact ⟨h1', by rw [f1]; exact g1, S1⟩
theorem dRs {b b' : Bool} {r r' : aH} (hb : b = true → b' = true) (h : SimR gg r r') : SimR gg (cnd b r) (cnd b' r') := by
 cases b with
 | false => exact fun v k e => by cases e
 | true => rw [hb rfl]; exact h
theorem oI (HC : ∀ g args, SimP gg (bN ⟨P, I2⟩ rec2 g args) (bN ⟨P, I1⟩ rec1 g args)) (nt : Nat) (all : Array Oper) {k k' : K} (hk : SimK gg k k') :
  ∀ l : List Oper, SimK gg (iS ⟨P, I2⟩ rec2 nt all l k) (iS ⟨P, I1⟩ rec1 nt all l k')
 | [] => hk
 | o :: l => fun env h h' S => by
  change SimR gg (cnd (cW nt o.dst) (bnd (bJ ⟨P, I2⟩ rec2 all o env h) fun v h1 => iS ⟨P, I2⟩ rec2 nt all l k (bM env o.dst v) h1))
   (cnd (cW nt o.dst) (bnd (bJ ⟨P, I1⟩ rec1 all o env h') fun v h1 => iS ⟨P, I1⟩ rec1 nt all l k' (bM env o.dst v) h1))
  exact dRs id (dRd (kM HC all o env h h' S) fun v => oI HC nt all hk l _)
theorem dCz (o : Oper) (b : Pos) (env : aU) : SimP gg (dQ ⟨P, I2⟩ o b env) (dQ ⟨P, I1⟩ o b env) := by
 obtain ⟨dst, op, ty, pos, after, guard⟩ := o
 unfold dQ
 cases op <;> (try dsimp only) <;> try exact SimP.none _
 case alloc t =>
  cases P.info? t with
  | none => exact SimP.none _
  | some i =>
   dsimp only
   cases i.zero with
   | none => exact SimP.none _
   | some z => exact aAa _ _
 case box t x => exact bDp _ _
 case buildSlice t n ps =>
  cases P.underlying t with
  | none => exact SimP.none _
  | some d =>
   cases d <;> (try dsimp only) <;> try exact SimP.none _
   rename_i e
   cases P.info? e with
   | none => exact SimP.none _
   | some i =>
    dsimp only
    cases i.zero with
    | none => exact SimP.none _
    | some z =>
     dsimp only
     split
     ·exact qT _ _ _ _
     ·exact SimP.none _
theorem SimR.same {r r' : aH} (h : SimR gg r r') {v : DV} (hs : bH r v = true) : bH r' v = true := by
 unfold bH at hs ⊢
 split at hs
 ·rename_i x k
  obtain ⟨k', e, _⟩ := h x k rfl
  rw [e]; exact hs
 ·cases hs
inductive SimHs (gg : Bool) : List (Option Nat × Hp) → List (Option Nat × Hp) → Prop
 | nil : SimHs gg [] []
 | cons {j : Option Nat} {h h' : Hp} {l l' : List (Option Nat × Hp)} (S : Sim gg h h') (T : SimHs gg l l') : SimHs gg ((j, h) :: l) ((j, h') :: l')
theorem qZ (m : Array Nat) (i : Nat) (v : DV) {look look' : Hp → aH} (hl : SimP gg look look') : ∀ (dirty : Bool) {hs hs' : List (Option Nat × Hp)}, SimHs gg hs hs' →
  eF m i v look dirty hs = true → eF m i v look' dirty hs' = true
 | dirty, _, _, .nil, h => h
 | dirty, _, _, .cons (j := j) S T, h => by
  unfold eF at h ⊢
  rw [Bool.and_eq_true] at h ⊢
  refine ⟨?_, ?_⟩
  ·have h1 := h.1
   cases dirty with
   | true => exact SimR.same (hl _ _ S) h1
   | false => exact h1
  ·have h2 := h.2
   cases j with
   | none => exact h2
   | some j =>
    dsimp only at h2 ⊢
    cases ho : gA m j i with
    | true => rfl
    | false =>
     rw [ho] at h2
     exact qZ m i v hl true T h2
inductive SimSeen (gg : Bool) : List Seen → List Seen → Prop
 | nil : SimSeen gg [] []
 | cons {i : Nat} {look look' : Hp → aH} {v : DV} {l l' : List Seen} (S : SimP gg look look') (T : SimSeen gg l l') : SimSeen gg (⟨i, look, v⟩ :: l) (⟨i, look', v⟩ :: l')
theorem SimSeen.all {m : Array Nat} {i : Nat} {h h' : Hp} (S : Sim gg h h') : ∀ {l l' : List Seen}, SimSeen gg l l' →
  l.all (fun q => gA m q.at_ i || bH (q.look h) q.v) = true → l'.all (fun q => gA m q.at_ i || bH (q.look h') q.v) = true
 | _, _, .nil, e => e
 | _, _, .cons (i := i0) (v := v) S1 T, e => by
  rw [List.all_cons, Bool.and_eq_true] at e ⊢
  refine ⟨?_, SimSeen.all S T e.2⟩
  have h1 := e.1
  rw [Bool.or_eq_true] at h1 ⊢
  exact h1.imp id fun hs => SimR.same (S1 _ _ S) hs
theorem mA (HC : ∀ g args, SimP gg (bN ⟨P, I2⟩ rec2 g args) (bN ⟨P, I1⟩ rec1 g args)) (nt : Nat) (all : Array Oper) (m : Array Nat) (p0 : Pos) {k k' : K} (hk : SimK gg k k') :
  ∀ (l : List Oper) (i c : Nat) (dirty : Bool) {rd rd' : List Seen} {hs hs' : List (Option Nat × Hp)}, SimSeen gg rd rd' → SimHs gg hs hs' →
   SimK gg (eD ⟨P, I2⟩ rec2 nt all m p0 l k i c dirty rd hs) (eD ⟨P, I1⟩ rec1 nt all m p0 l k' i c dirty rd' hs')
 | [], i, c, dirty, rd, rd', hs, hs', R, T => hk
 | o :: l, i, c, dirty, rd, rd', hs, hs', R, T => fun env h h' S => by
  change SimR gg (cnd (cW nt o.dst) (
   match bR P o.op with
   | .pure => bnd (bJ ⟨P, I2⟩ rec2 all o env h) fun v h' => eD ⟨P, I2⟩ rec2 nt all m p0 l k (i + 1) c dirty rd hs (bM env o.dst v) h'
   | .reads => bnd (bJ ⟨P, I2⟩ rec2 all o env h) fun v h' =>
     cnd (eF m i v (bJ ⟨P, I2⟩ rec2 all o env) dirty hs) (eD ⟨P, I2⟩ rec2 nt all m p0 l k (i + 1) c dirty (⟨i, bJ ⟨P, I2⟩ rec2 all o env, v⟩ :: rd) hs (bM env o.dst v) h')
   | .makes => bnd (dQ ⟨P, I2⟩ o (bW c p0) env h) fun v h' => eD ⟨P, I2⟩ rec2 nt all m p0 l k (i + 1) (c + 1) true rd hs (bM env o.dst v) h'
   | .acts => bnd (bJ ⟨P, I2⟩ rec2 all o env h) fun v h' =>
     cnd (rd.all (fun q => gA m q.at_ i || bH (q.look h') q.v)) (eD ⟨P, I2⟩ rec2 nt all m p0 l k (i + 1) c false rd ((some i, h') :: hs) (bM env o.dst v) h')))
   (cnd (cW nt o.dst) (
   match bR P o.op with
   | .pure => bnd (bJ ⟨P, I1⟩ rec1 all o env h') fun v h' => eD ⟨P, I1⟩ rec1 nt all m p0 l k' (i + 1) c dirty rd' hs' (bM env o.dst v) h'
   | .reads => bnd (bJ ⟨P, I1⟩ rec1 all o env h') fun v h' =>
     cnd (eF m i v (bJ ⟨P, I1⟩ rec1 all o env) dirty hs') (eD ⟨P, I1⟩ rec1 nt all m p0 l k' (i + 1) c dirty (⟨i, bJ ⟨P, I1⟩ rec1 all o env, v⟩ :: rd') hs' (bM env o.dst v) h')
   | .makes => bnd (dQ ⟨P, I1⟩ o (bW c p0) env h') fun v h' => eD ⟨P, I1⟩ rec1 nt all m p0 l k' (i + 1) (c + 1) true rd' hs' (bM env o.dst v) h'
   | .acts => bnd (bJ ⟨P, I1⟩ rec1 all o env h') fun v h' =>
     cnd (rd'.all (fun q => gA m q.at_ i || bH (q.look h') q.v)) (eD ⟨P, I1⟩ rec1 nt all m p0 l k' (i + 1) c false rd' ((some i, h') :: hs') (bM env o.dst v) h')))
  refine dRs id ?_
  cases bR P o.op with
  | pure => exact dRd (kM HC all o env h h' S) fun v => mA HC nt all m p0 hk l _ _ _ R T _
  | reads =>
   exact dRd (kM HC all o env h h' S) fun v h1 h1' S1 => dRs (qZ m i v (kM HC all o env) dirty T)
    (mA HC nt all m p0 hk l _ _ _ (.cons (kM HC all o env) R) T _ _ _ S1)
  | makes => exact dRd (dCz o _ env h h' S) fun v => mA HC nt all m p0 hk l _ _ _ R T _
  | acts =>
   exact dRd (kM HC all o env h h' S) fun v h1 h1' S1 => dRs (SimSeen.all S1 R)
    (mA HC nt all m p0 hk l _ _ _ R (.cons S1 T) _ _ _ S1)
theorem Sim.resv {gg : Bool} {h h' : Hp} (S : Sim gg h h') (k : Nat) : Sim gg (resv k h) (resv k h') := by
 cases k with
 | zero => exact S
 | succ k => exact ⟨by show bW (k + 1) h'.next = bW (k + 1) h.next; rw [S.next], S.get⟩
theorem bKy (HC : ∀ g args, SimP gg (bN ⟨P, I2⟩ rec2 g args) (bN ⟨P, I1⟩ rec1 g args)) (nt : Nat) (ops : Array Oper) {k k' : K} (hk : SimK gg k k') :
  SimK gg (hY ⟨P, I2⟩ rec2 nt ops k) (hY ⟨P, I1⟩ rec1 nt ops k') := fun env h h' S => by
 unfold hY
 rw [S.next]
 exact mA HC nt ops _ _ hk _ _ _ _ .nil (.cons (S.resv _) .nil) env _ _ (S.resv _)
theorem aHo {c : DV} {a b a' b' : aH} (ha : SimR gg a a') (hb : SimR gg b b') : SimR gg (aP c a b) (aP c a' b') := by
 unfold aP
 cases c <;> try exact SimR.none _
 rename_i x
 cases x
 ·exact hb
 ·exact ha
theorem oX {b b' : K → K} (hb : ∀ k k', SimK gg k k' → SimK gg (b k) (b' k')) : ∀ (n d : Nat), SimK gg (aN b n) (aN b' (n + d))
 | 0, d => fun env h h' S v k e => by cases e
 | n + 1, d => by
  rw [show n + 1 + d = (n + d) + 1 from by omega]
  exact hb _ _ (oX hb n d)
theorem fX (HC : ∀ g args, SimP gg (bN ⟨P, I2⟩ rec2 g args) (bN ⟨P, I1⟩ rec1 g args)) (nt n d : Nat) : ∀ (c : Code) (X X' : Nat → K) (kr kr' k k' : K), (∀ j, SimK gg (X j) (X' j)) → SimK gg kr kr' → SimK gg k k' →
  SimK gg (aM ⟨P, I2⟩ rec2 nt n c X kr k) (aM ⟨P, I1⟩ rec1 nt (n + d) c X' kr' k') := by
 intro c
 have hfail : ∀ k', SimK gg dG k' := fun k' env h h' S v k e => by cases e
 induction c with
 | skip => intro X X' kr kr' k k' hX hr hk; exact hk
 | region id ops dr =>
  intro X X' kr kr' k k' hX hr hk
  change SimK gg (Bool.rec (motive := fun _ => K) (iS ⟨P, I2⟩ rec2 nt ops ops.toList k) (Bool.rec (motive := fun _ => K) dG (hY ⟨P, I2⟩ rec2 nt ops k) (eZ P ops)) dr)
   (Bool.rec (motive := fun _ => K) (iS ⟨P, I1⟩ rec1 nt ops ops.toList k') (Bool.rec (motive := fun _ => K) dG (hY ⟨P, I1⟩ rec1 nt ops k') (eZ P ops)) dr)
  cases dr with
  | false => exact oI HC nt ops hk _
  | true =>
   cases eZ P ops with
   | false => exact hfail _
   | true => exact bKy HC nt ops hk
 | seq x y ihx ihy => intro X X' kr kr' k k' hX hr hk; exact ihx _ _ _ _ _ _ hX hr (ihy _ _ _ _ _ _ hX hr hk)
 | cond c x y ihx ihy =>
  intro X X' kr kr' k k' hX hr hk env h h' S
  exact aHo (ihx _ _ _ _ _ _ hX hr hk env h h' S) (ihy _ _ _ _ _ _ hX hr hk env h h' S)
 | block id x ih =>
  intro X X' kr kr' k k' hX hr hk
  refine ih _ _ _ _ _ _ (fun j => ?_) hr hk
  cases hj : Nat.beq j id with
  | true => exact hk
  | false => exact hX j
 | loop x ih =>
  intro X X' kr kr' k k' hX hr hk
  exact oX (fun k k' hk => ih _ _ _ _ _ _ hX hr hk) n d
 | rangeFunc f ps x y ihx ihy => intro X X' kr kr' k k' hX hr hk; exact hfail _
 | exit id => intro X X' kr kr' k k' hX hr hk; exact hX id
 | scope x ih => intro X X' kr kr' k k' hX hr hk; exact ih _ _ _ _ _ _ hX hr hk
 | label l => intro X X' kr kr' k k' hX hr hk; exact hk
 | goto l => intro X X' kr kr' k k' hX hr hk; exact hfail _
 | ret => intro X X' kr kr' k k' hX hr hk; exact hr
 | refuse why => intro X X' kr kr' k k' hX hr hk; exact hfail _
theorem bDy {h h' : Hp} (S : Sim gg h h') (t : TypeId) (x : DV) {k k' : DV → aH} (hk : ∀ v, SimR gg (k v) (k' v)) : SimR gg (zV ⟨P, I2⟩ t x h k) (zV ⟨P, I1⟩ t x h' k') := by
 unfold zV
 dsimp only
 cases P.underlying t with
 | none => exact SimR.none _
 | some d =>
  cases P.info? t with
  | none => exact SimR.none _
  | some i =>
   dsimp only
   refine dRd ?_ fun v _ _ _ => hk v
   cases iL d with
   | true => exact kE _ _ h h' S
   | false => exact jX _ h h' S
theorem qO {h h' : Hp} (S : Sim gg h h') (env : aU) : ∀ (l : List ResultVar) (k k' : List DV → aH), (∀ vs, SimR gg (k vs) (k' vs)) → SimR gg (aVn ⟨P, I2⟩ env h l k) (aVn ⟨P, I1⟩ env h' l k')
 | [], k, k', hk => hk []
 | .tmp t :: l, k, k', hk => qO S env l _ _ fun vs => hk _
 | .cell a t :: l, k, k', hk => bDy S t (env a) fun v => qO S env l _ _ fun vs => hk _
theorem pC (fn : Func) : SimK gg (aQ ⟨P, I2⟩ fn) (aQ ⟨P, I1⟩ fn) := fun env h h' S => by
 unfold aQ
 refine qO S env _ _ _ fun vs => ?_
 unfold bJq
 match vs with
 | [v] => exact SimR.some S _
 | [] => exact SimR.some S _
 | _ :: _ :: _ => exact SimR.some S _
theorem lW (HC : ∀ g args, SimP gg (bN ⟨P, I2⟩ rec2 g args) (bN ⟨P, I1⟩ rec1 g args)) (n d : Nat) (f : FuncId) (args : List DV) :
  SimP gg (aF ⟨P, I2⟩ rec2 n f args) (aF ⟨P, I1⟩ rec1 (n + d) f args) := by
 intro h h' S
 unfold aF
 dsimp only
 cases P.funcs[f]? with
 | none => exact SimR.none _
 | some fn =>
  dsimp only
  cases fn.body with
  | none => exact SimR.none _
  | some c => exact fX HC fn.ntmps n d c _ _ _ _ _ _ (fun _ _ _ _ _ _ _ e => by cases e) (pC fn) (pC fn) _ h h' S
end
theorem bVz {gg : Bool} {P : Program} {I2 I1 : FuncId → Option (List DV → Hp → aH)} (d : Nat) (h0 : ∀ g, I2 g = none → I1 g = none)
  (hI : ∀ g F, I2 g = some F → ∀ n args, SimP gg (F args) (bN ⟨P, I1⟩ (fnD ⟨P, I1⟩ (n + d)) g args)) : ∀ (n : Nat) (f : FuncId) (args : List DV), SimP gg (fnD ⟨P, I2⟩ n f args) (fnD ⟨P, I1⟩ (n + d) f args)
 | 0, f, args => fun h h' S v k e => by cases e
 | n + 1, f, args => by
  rw [show n + 1 + d = (n + d) + 1 from by omega]
  refine lW (fun g az => ?_) n d f args
  unfold bN
  dsimp only
  cases hg : I2 g with
  | none =>
   rw [h0 g hg]
   exact bVz d h0 hI n g az
  | some F =>
   have := hI g F hg n az
   unfold bN at this
   exact this
end Go.Dd

namespace Go.Dd
section
variable {gg : Bool} {P : Program} {I2 I1 : FuncId → Option (List DV → Hp → aH)} {rec2 rec1 : FuncId → List DV → Hp → aH}
theorem mS {c : Bool} {q q' : aH} (h : SimR gg q q') : SimR gg (cnd c q) (cnd c q') := by
 cases c with
 | false => exact SimR.none _
 | true => exact h
theorem dRb (k' : K) : SimK gg dG k' := fun env h h' S v k e => by cases e
theorem wI (HC : ∀ g args, SimP gg (bN ⟨P, I2⟩ rec2 g args) (bN ⟨P, I1⟩ rec1 g args)) (n d : Nat) (I : ItC) (b : Bool) {kr kr' k k' : K} (hr : SimK gg kr kr') (hk : SimK gg k k') (e1 : aU) :
  SimP gg (aMw ⟨P, I2⟩ rec2 n I b kr k e1) (aMw ⟨P, I1⟩ rec1 (n + d) I b kr' k' e1) := fun h h' S =>
 mS (oI HC I.nt I.ops (fX HC I.nt n d I.after _ _ _ _ _ _ (fun _ => dRb _) hr hk) _ _ h h' S)
theorem bEm (HC : ∀ g args, SimP gg (bN ⟨P, I2⟩ rec2 g args) (bN ⟨P, I1⟩ rec1 g args)) (n d : Nat) (I : ItC) (nt : Nat) (p : Tmp) (x y : Code) (env : aU) {X X' : Nat → K} {kr kr' kk kk' : K} (hX : ∀ j, SimK gg (X j) (X' j)) (hr : SimK gg kr kr') (hk : SimK gg kk kk') :
  SimK gg (aOy ⟨P, I2⟩ rec2 n I nt p x y env X kr kk) (aOy ⟨P, I1⟩ rec1 (n + d) I nt p x y env X' kr' kk') := fun e1 h h' S =>
 mS (fX HC nt n d x _ _ _ _ _ _ (fun _ => dRb _) (dRb _)
  (fX HC nt n d y _ _ _ _ _ _ (fun i _ => wI HC n d I false (fun _ => hX i env) (dRb _) e1) (fun _ => wI HC n d I false (fun _ => hr env) (dRb _) e1)
   (fun _ => wI HC n d I true (dRb _) (fX HC I.nt n d I.post _ _ _ _ _ _ (fun _ => dRb _) (dRb _) (fX HC I.nt n d I.step _ _ _ _ _ _ (fun _ => dRb _) (dRb _) hk)) e1)) _ h h' S)
theorem aPm (HC : ∀ g args, SimP gg (bN ⟨P, I2⟩ rec2 g args) (bN ⟨P, I1⟩ rec1 g args)) (n d : Nat) (I : ItC) (nt : Nat) (g : Operand) (p : Tmp) (x y : Code) {X X' : Nat → K} {kr kr' k k' : K} (hX : ∀ j, SimK gg (X j) (X' j)) (hr : SimK gg kr kr') (hk : SimK gg k k') :
  SimK gg (aCi ⟨P, I2⟩ rec2 n I nt g p x y X kr k) (aCi ⟨P, I1⟩ rec1 (n + d) I nt g p x y X' kr' k') := by
 intro env h h' S
 unfold aCi
 cases opr env g with
 | f gf first cap =>
  cases first with
  | cons _ _ => exact SimR.none _
  | nil =>
   refine mS ?_
   rw [S.next]
   refine fX HC I.nt n d I.pre _ _ _ _ _ _ (fun _ => dRb _) (dRb _) (oX (fun kk kk' hkk => ?_) n d) _ _ _ (S.resv 2)
   refine fX HC I.nt n d I.test _ _ _ _ _ _ (fun j => ?_) (dRb _) (oI HC I.nt I.ops ?_ I.front)
   ·cases Nat.beq j I.b0 with
    | true => exact fun _ => hk env
    | false => exact dRb _
   ·intro e1 h1 h1' S1
    exact mS (c := ylB (e1 I.yt) h.next) (bEm HC n d I nt p x y env hX hr hkk e1 h1 h1' S1)
 | _ => exact SimR.none _
theorem bCk (HC : ∀ g args, SimP gg (bN ⟨P, I2⟩ rec2 g args) (bN ⟨P, I1⟩ rec1 g args)) (nt n d : Nat) (I : ItC) : ∀ (c : Code) (X X' : Nat → K) (kr kr' k k' : K), (∀ j, SimK gg (X j) (X' j)) → SimK gg kr kr' → SimK gg k k' →
  SimK gg (bQw ⟨P, I2⟩ rec2 nt n I c X kr k) (bQw ⟨P, I1⟩ rec1 nt (n + d) I c X' kr' k') := by
 intro c
 induction c with
 | skip => intro X X' kr kr' k k' hX hr hk; exact hk
 | region id ops dr => intro X X' kr kr' k k' hX hr hk; exact fX HC nt n d (.region id ops dr) _ _ _ _ _ _ hX hr hk
 | seq x y ihx ihy => intro X X' kr kr' k k' hX hr hk; exact ihx _ _ _ _ _ _ hX hr (ihy _ _ _ _ _ _ hX hr hk)
 | cond c x y ihx ihy =>
  intro X X' kr kr' k k' hX hr hk env h h' S
  exact aHo (ihx _ _ _ _ _ _ hX hr hk env h h' S) (ihy _ _ _ _ _ _ hX hr hk env h h' S)
 | block id x ih =>
  intro X X' kr kr' k k' hX hr hk
  refine ih _ _ _ _ _ _ (fun j => ?_) hr hk
  cases hj : Nat.beq j id with
  | true => exact hk
  | false => exact hX j
 | loop x ih =>
  intro X X' kr kr' k k' hX hr hk
  exact oX (fun k k' hk => ih _ _ _ _ _ _ hX hr hk) n d
 | rangeFunc g ps x y ihx ihy =>
  intro X X' kr kr' k k' hX hr hk
  obtain ⟨l⟩ := ps
  match l with
  | [p] => exact aPm HC n d I nt g p x y hX hr hk
  | [] => exact dRb _
  | _ :: _ :: _ => exact dRb _
 | exit id => intro X X' kr kr' k k' hX hr hk; exact hX id
 | ret => intro X X' kr kr' k k' hX hr hk; exact hr
 | _ => intros; exact dRb _
theorem bEt (HC : ∀ g args, SimP gg (bN ⟨P, I2⟩ rec2 g args) (bN ⟨P, I1⟩ rec1 g args)) (n d : Nat) (I : ItC) (f : FuncId) (args : List DV) :
  SimP gg (lX ⟨P, I2⟩ rec2 n I f args) (lX ⟨P, I1⟩ rec1 (n + d) I f args) := by
 intro h h' S
 unfold lX
 dsimp only
 cases P.funcs[f]? with
 | none => exact SimR.none _
 | some fn =>
  dsimp only
  cases fn.body with
  | none => exact SimR.none _
  | some c => exact bCk HC fn.ntmps n d I c _ _ _ _ _ _ (fun _ => dRb _) (pC fn) (pC fn) _ h h' S
end
end Go.Dd

namespace Go.Dd
noncomputable def fnR (C : Cfg) (I : ItC) (q : FuncId → Bool) (n : Nat) : FuncId → List DV → Hp → aH :=
 Nat.rec (motive := fun _ => FuncId → List DV → Hp → aH) (fun _ _ _ => none) (fun m ih f => bif q f then lX C ih m I f else aF C ih m f) n
theorem aAy {gg : Bool} {P : Program} {I2 I1 : FuncId → Option (List DV → Hp → aH)} {I : ItC} {q : FuncId → Bool} (d : Nat) (h0 : ∀ g, I2 g = none → I1 g = none)
  (hI : ∀ g F, I2 g = some F → ∀ n args, SimP gg (F args) (bN ⟨P, I1⟩ (fnR ⟨P, I1⟩ I q (n + d)) g args)) : ∀ (n : Nat) (f : FuncId) (args : List DV), SimP gg (fnR ⟨P, I2⟩ I q n f args) (fnR ⟨P, I1⟩ I q (n + d) f args)
 | 0, f, args => fun h h' S v k e => by cases e
 | n + 1, f, args => by
  rw [show n + 1 + d = (n + d) + 1 from by omega]
  have HC : ∀ g az, SimP gg (bN ⟨P, I2⟩ (fnR ⟨P, I2⟩ I q n) g az) (bN ⟨P, I1⟩ (fnR ⟨P, I1⟩ I q (n + d)) g az) := fun g az => by
   unfold bN
   dsimp only
   cases hg : I2 g with
   | none =>
    rw [h0 g hg]
    exact aAy d h0 hI n g az
   | some F =>
    have := hI g F hg n az
    unfold bN at this
    exact this
  show SimP gg ((bif q f then lX ⟨P, I2⟩ (fnR ⟨P, I2⟩ I q n) n I f else aF ⟨P, I2⟩ (fnR ⟨P, I2⟩ I q n) n f) args) ((bif q f then lX ⟨P, I1⟩ (fnR ⟨P, I1⟩ I q (n + d)) (n + d) I f else aF ⟨P, I1⟩ (fnR ⟨P, I1⟩ I q (n + d)) (n + d) f) args)
  cases q f with
  | true => exact bEt HC n d I f args
  | false => exact lW HC n d f args
end Go.Dd

namespace Go.Dd
noncomputable section
def iA (w : Int) : Nat :=
 match w with
 | .ofNat w => bif Nat.beq (Nat.mod w 2) 0 && (Nat.ble 6 w && Nat.ble w 262144) then Nat.div w 2 else 0
 | .negSucc _ => 0
def eP (w : Int) : Bool :=
 match w with
 | .ofNat w => Nat.beq (Nat.mod w 2) 1 && Nat.blt w 2147483648
 | .negSucc w => Nat.beq (Nat.mod w 2) 0 && Nat.blt w 2147483648
def zP (w : Int) : Int :=
 match w with
 | .ofNat w => .ofNat (Nat.div w 2)
 | .negSucc w => .negSucc (Nat.div w 2)
structure MemV where
 wb : Pos
 n : Nat
 fin : Nat
 made : Nat
 pb : Pos
 t : WT
 pl : WT
def kP (m : Pos) (h : Hp) : Option MemV :=
 match h.bl.get m with
 | some (.row .ex [.l wb 0 n c, .i .i64 (.ofNat fin), .i .i64 (.ofNat made), .m pb]) =>
  match h.bl.get wb, h.bl.get pb with
  | some (.big n' t), some (.mi pl) => bif Nat.beq n n' && Nat.beq n c then (bif Nat.blt n 1000000 && (Nat.ble fin n && Nat.blt made 1000000) then some ⟨wb, n, fin, made, pb, t, pl⟩ else none) else none
  | _, _ => none
 | _ => none
def cO (o : Int) (pl : WT) : Nat :=
 bif Nat.beq (iA o) 0 then 0 else match pl.get (iA o) with
  | .ofNat 0 => 0
  | _ => iA o
def eI (w : Int) (pl : WT) : Bool :=
 match w with
 | .ofNat 0 => true
 | .ofNat 2 => true
 | .ofNat 4 => true
 | w => eP w || !(Nat.beq (cO w pl) 0)
def pV (w : Int) (pl : WT) : Bool :=
 match w with
 | .ofNat 0 => true
 | w => !(Nat.beq (cO w pl) 0)
def mZ (args : List DV) (h : Hp) (k : MemV → List DV → aH) : aH :=
 match args with
 | .p m 0 :: rest => match kP m h with
  | some M => k M rest
  | none => none
 | _ => none
def err (e : Nat) (h : Hp) : aH := some (.t [.i .i64 (.ofNat 0), .i .i64 (.ofNat e)], h)
def isF (args : List DV) (h : Hp) : aH := mZ args h fun M r => match r with
 | [.i .i64 w] => some (.b (!(Nat.beq (cO w M.pl) 0)), h)
 | _ => none
def aEp (args : List DV) (h : Hp) : aH := mZ args h fun M r => match r with
 | [.i .i64 w] => some (.b (eI w M.pl), h)
 | _ => none
def zR (args : List DV) (h : Hp) : aH := mZ args h fun M r => match r with
 | [] => some (.i .i64 (.ofNat M.n), h)
 | _ => none
def bAp (args : List DV) (h : Hp) : aH := mZ args h fun M r => match r with
 | [] => some (.i .i64 (.ofNat (Nat.sub M.n M.fin)), h)
 | _ => none
def kA (M : MemV) (o : Int) (k : Nat → aH) : aH :=
 bif Nat.blt (Nat.add (cO o M.pl) 1) M.n then (match M.t.get (cO o M.pl) with
  | .ofNat hd => bif Nat.blt hd 1000000000000 then k hd else none
  | .negSucc _ => none) else none
def lT (args : List DV) (h : Hp) : aH := mZ args h fun M r => match r with
 | [.i .i64 o] => kA M o fun _ => some (.i .i64 (M.t.get (Nat.add (cO o M.pl) 1)), h)
 | _ => none
def mW (args : List DV) (h : Hp) : aH := mZ args h fun M r => match r with
 | [.i .i64 o] => kA M o fun hd => some (.i .i64 (.ofNat (Nat.mod hd 4)), h)
 | _ => none
def fZ (args : List DV) (h : Hp) : aH := mZ args h fun M r => match r with
 | [.i .i64 o] => kA M o fun hd => some (.i .i64 (.ofNat (Nat.div hd 4)), h)
 | _ => none
def iV (M : MemV) (o i : Int) (bad : Nat → aH) (k : Nat → Nat → aH) : aH :=
 bif Nat.beq (cO o M.pl) 0 then bad 1 else match i with
  | .negSucc _ => bad 5
  | .ofNat i => kA M o fun hd => bif Nat.ble (Nat.div hd 4) i then bad 5 else
    (bif Nat.blt (Nat.add (Nat.add (cO o M.pl) 3) i) M.n then k hd (Nat.add (Nat.add (cO o M.pl) 3) i) else none)
def zB (args : List DV) (h : Hp) : aH := mZ args h fun M r => match r with
 | [.i .i64 o, .i .i64 i] => iV M o i (fun e => err e h) fun _ a => some (.t [.i .i64 (M.t.get a), .i .i64 (.ofNat 0)], h)
 | _ => none
def mJ (M : MemV) (a : Nat) (w : Int) (h : Hp) : aH := some (.i .i64 (.ofNat 0), ⟨h.next, Tr.set (.big M.n (M.t.set a w)) M.wb h.bl⟩)
def uT (args : List DV) (h : Hp) : aH := mZ args h fun M r => match r with
 | [.i .i64 o, .i .i64 i, .i .i64 w] => iV M o i (fun e => some (.i .i64 (.ofNat e), h)) fun hd a =>
   match Nat.mod hd 4 with
   | 0 => bif eI w M.pl then mJ M a w h else some (.i .i64 (.ofNat 6), h)
   | 2 => (match w with
    | .ofNat c => bif Nat.ble c 255 then mJ M a w h else some (.i .i64 (.ofNat 6), h)
    | .negSucc _ => some (.i .i64 (.ofNat 6), h))
   | _ => mJ M a w h
 | _ => none
def kC (args : List DV) (h : Hp) : aH := mZ args h fun M r => match r with
 | [.i .i64 o, .i .i64 c] => bif Nat.beq (cO o M.pl) 0 || !(pV c M.pl) then some (.i .i64 (.ofNat 1), h) else
   (bif Nat.blt (Nat.add (cO o M.pl) 1) M.n then mJ M (Nat.add (cO o M.pl) 1) c h else none)
 | _ => none
def kH (t : WT) (c : Nat) : Nat → WT :=
 Nat.rec (motive := fun _ => Nat → WT) (fun _ => t) (fun _ ih a => (ih (Nat.add a 1)).set a (.ofNat 0)) c
def iO (args : List DV) (h : Hp) : aH :=
 match args with
 | [.p m 0, .i .i64 cls, .i .i64 fmt, .i .i64 cnt] => match kP m h with
  | none => none
  | some M => bif !(pV cls M.pl) then err 1 h else match fmt, cnt with
   | .ofNat f, .ofNat c => bif Nat.ble f 2 && Nat.ble c 256 then
     (bif Nat.blt (Nat.sub M.n M.fin) (Nat.add c 3) then err 4 h else
      (bif Nat.ble 3 M.fin && Nat.ble M.fin 131072 then
       some (.t [.i .i64 (.ofNat (Nat.mul M.fin 2)), .i .i64 (.ofNat 0)],
        ⟨h.next, Tr.set (.row .ex [.l M.wb 0 M.n M.n, .i .i64 (.ofNat (Nat.add M.fin (Nat.add c 3))), .i .i64 (.ofNat (Nat.succ M.made)), .m M.pb]) m
         (Tr.set (.mi (M.pl.set M.fin (.ofNat 1))) M.pb
          (Tr.set (.big M.n (kH (((M.t.set M.fin (.ofNat (Nat.add (Nat.mul c 4) f))).set (Nat.add M.fin 1) cls).set (Nat.add M.fin 2) (.ofNat (Nat.succ M.made))) c (Nat.add M.fin 3))) M.wb h.bl))⟩)
       else none))
     else err 1 h
   | _, _ => err 1 h
 | _ => none
def aTo (args : List DV) (h : Hp) : aH :=
 match args with
 | [.i .i64 (.ofNat n)] => bif Nat.blt n 16 || Nat.blt 131072 n then some (.p0, h) else
   some (.p (bW 2 h.next) 0, ⟨bW 3 h.next, Tr.set (.row .ex [.l h.next 0 n n, .i .i64 (.ofNat 3), .i .i64 (.ofNat 0), .m (bW 1 h.next)]) (bW 2 h.next)
    (Tr.set (.mi .e) (bW 1 h.next) (Tr.set (.big n .e) h.next h.bl))⟩)
 | [.i .i64 (.negSucc _)] => some (.p0, h)
 | _ => none
def iC (args : List DV) (h : Hp) : aH :=
 match args with
 | [.i .i64 w] => some (.b (eP w), h)
 | _ => none
def kT (args : List DV) (h : Hp) : aH :=
 match args with
 | [.i .i64 w] => bif eP w then some (.i .i64 (zP w), h) else some (.i .i64 (.ofNat 0), h)
 | _ => none
def gN (args : List DV) (h : Hp) : aH :=
 match args with
 | [.i .i64 (.ofNat n)] => bif Nat.blt n 1073741824 then some (.t [.i .i64 (.ofNat (Nat.succ (Nat.mul n 2))), .b true], h) else some (.t [.i .i64 (.ofNat 0), .b false], h)
 | [.i .i64 (.negSucc n)] => bif Nat.blt n 1073741824 then some (.t [.i .i64 (.negSucc (Nat.mul n 2)), .b true], h) else some (.t [.i .i64 (.ofNat 0), .b false], h)
 | _ => none
def zF (g : Nat) : Option (List DV → Hp → aH) :=
 bif Nat.beq g 24 then some aEp else bif Nat.beq g 31 then some isF else bif Nat.beq g 102 then some zR else bif Nat.beq g 86 then some bAp else
 bif Nat.beq g 47 then some iO else bif Nat.beq g 68 then some aTo else bif Nat.beq g 70 then some kC else bif Nat.beq g 72 then some uT else
 bif Nat.beq g 50 then some lT else bif Nat.beq g 38 then some mW else bif Nat.beq g 27 then some fZ else bif Nat.beq g 48 then some iC else
 bif Nat.beq g 81 then some gN else bif Nat.beq g 49 then some kT else bif Nat.beq g 28 then some zB else none
end
end Go.Dd

namespace Go.Dd
open Go.Proofs
def cf (f : Func) : Code := match f.body with
 | some c => c
 | none => .skip
def cL : Code → Code
 | .seq a _ => a
 | .cond _ a _ => a
 | .block _ a => a
 | .loop a => a
 | .scope a => a
 | c => c
def cR : Code → Code
 | .seq _ b => b
 | .cond _ _ b => b
 | c => c
def cC : Code → Operand
 | .cond c _ _ => c
 | _ => .const .nilFunc
def x0 : Nat → K := fun _ => dG
def xs (X : Nat → K) (i : Nat) (k : K) : Nat → K := fun j => bif Nat.beq j i then k else X j
def aKc (c : Nat) : List Nat → Nat → Int
 | [], _ => .negSucc 0
 | x :: l, i => bif Nat.beq x c then .ofNat i else aKc c l (i + 1)
def lN (args : List DV) (h : Hp) : aH :=
 match args with
 | [.s l, .i .u8 (.ofNat c)] => bif Nat.blt c 256 then some (.i .i64 (aKc c l 0), h) else none
 | _ => none
noncomputable def CF0 : Cfg := ⟨Tryz.prog, fun _ => none⟩
noncomputable def kY (p : Pos) : Pos → Bool := Pos.rec (motive := fun _ => Pos → Bool) (fun q => Pos.rec (motive := fun _ => Bool) true (fun _ _ => false) (fun _ _ => false) q)
 (fun _ ih q => Pos.rec (motive := fun _ => Bool) false (fun q _ => ih q) (fun _ _ => false) q) (fun _ ih q => Pos.rec (motive := fun _ => Bool) false (fun _ _ => false) (fun q _ => ih q) q) p
noncomputable def iW (q : Pos) (l1 : DV) (cs : List DV) (h : Hp) : aH :=
 match l1 with
 | .l0 => some (.l h.next 0 1 1, ⟨h.next.succ, Tr.set (.row (.gr 4) cs) h.next h.bl⟩)
 | .l b o len cap => cnd (Nat.ble cap len && !(kY b q)) (match h.bl.get b, cellsAt b o (len * 4) h with
  | some (.row (.gr es) l), some old => if es = 4 ∧ o + cap * 4 = l.length ∧ (len + 1) * 56 ≤ lL then
    some (.l h.next 0 (len + 1) (len + 1), ⟨h.next.succ, Tr.set (.row (.gr 4) (old ++ cs)) h.next (Tr.set (.row .sp (bP o l)) b h.bl)⟩) else none
  | _, _ => none)
 | _ => none
noncomputable def qP (c q : Pos) (h : Hp) : aH :=
 bnd (aA (.p c 4) h) fun l1 _ =>
 bnd (bV l1 h) fun n _ =>
 bnd (aK 4 (.p q 0) h) fun x _ =>
 match x with
 | .a cs => cnd (!(kY c q)) (
  bnd (iW q l1 cs ⟨h.next.succ.succ, h.bl⟩) fun l2 h3 =>
  bnd (aG 1 (.p c 4) l2 h3) fun _ h4 => some (n, h4))
 | _ => none
noncomputable def lD (args : List DV) (h : Hp) : aH :=
 match args with
 | [.p c 0, .a lit] =>
  bnd (bL lit h) fun _ h1 =>
  bnd (aA (.p c 4) h1) fun ls h2 =>
  bnd (fnD CF0 60 187 [ls, .f 188 [] [.p h.next 0]] h2) fun i h3 =>
  bnd (aD .lss i (.i .i64 (Int.ofNat 0)) h3) fun t h4 =>
  aP t (qP c h.next h4) (some (i, h4))
 | _ => none
noncomputable def CF1 : Cfg := ⟨Tryz.prog, fun g => bif Nat.beq g 176 then some lN else bif Nat.beq g 159 then some lD else none⟩
noncomputable def CF : Cfg := ⟨Tryz.prog, fun g => bif Nat.beq g 176 then some lN else bif Nat.beq g 159 then some lD else zF g⟩
def fR : Code → Array Oper
 | .region _ ops _ => ops
 | _ => #[]
def itm : ItC := { gf := 0, nt := 0, pre := .skip, b0 := 0, test := .skip, b1 := 1, rid := 0, front := [], y := ⟨none, .move (.const .nilFunc), 0, "", #[], none⟩, back := [], after := .skip, post := .skip, step := .skip, yd := 0, yt := 0, yx := 0 }
def rgB (g : FuncId) : Bool := false
noncomputable abbrev fO (C : Cfg) (n : Nat) : FuncId → List DV → Hp → aH := fnR C itm rgB n
theorem cA (f : FuncId) (hf : rgB f = false) (C : Cfg) (n : Nat) (args : List DV) (h : Hp) : fO C (n + 1) f args h = aF C (fO C n) n f args h := by
 show (bif rgB f then lX C (fO C n) n itm f else aF C (fO C n) n f) args h = _
 rw [hf]
 rfl
abbrev RT := FuncId → List DV → Hp → aH
abbrev TT0 := Hp → aH
abbrev TT1 := DV → Hp → aH
abbrev oF := DV → DV → Hp → aH
abbrev mV := DV → DV → DV → Hp → aH
abbrev dH := DV → DV → DV → DV → Hp → aH
abbrev cD := DV → DV → DV → DV → DV → Hp → aH
abbrev fC := DV → DV → DV → DV → DV → DV → Hp → aH
abbrev TT7 := DV → DV → DV → DV → DV → DV → DV → Hp → aH
abbrev TT8 := DV → DV → DV → DV → DV → DV → DV → DV → Hp → aH
abbrev TT9 := DV → DV → DV → DV → DV → DV → DV → DV → DV → Hp → aH
abbrev aPr := DV → DV → DV → DV → DV → DV → DV → DV → DV → DV → Hp → aH
abbrev dLg := DV → DV → DV → DV → DV → DV → DV → DV → DV → DV → DV → Hp → aH
abbrev dQd := DV → DV → DV → DV → DV → DV → DV → DV → DV → DV → DV → DV → Hp → aH
abbrev dOg := DV → DV → DV → DV → DV → DV → DV → DV → DV → DV → DV → DV → DV → Hp → aH
abbrev dLx := DV → DV → DV → DV → DV → DV → DV → DV → DV → DV → DV → DV → DV → DV → Hp → aH
abbrev dOt := DV → DV → DV → DV → DV → DV → DV → DV → DV → DV → DV → DV → DV → DV → DV → Hp → aH
abbrev dMo := DV → DV → DV → DV → DV → DV → DV → DV → DV → DV → DV → DV → DV → DV → DV → DV → Hp → aH
abbrev dMh := DV → DV → DV → DV → DV → DV → DV → DV → DV → DV → DV → DV → DV → DV → DV → DV → DV → Hp → aH
abbrev dOz := DV → DV → DV → DV → DV → DV → DV → DV → DV → DV → DV → DV → DV → DV → DV → DV → DV → DV → Hp → aH
abbrev dLu := DV → DV → DV → DV → DV → DV → DV → DV → DV → DV → DV → DV → DV → DV → DV → DV → DV → DV → DV → Hp → aH
abbrev dQm := DV → DV → DV → DV → DV → DV → DV → DV → DV → DV → DV → DV → DV → DV → DV → DV → DV → DV → DV → DV → Hp → aH
abbrev K0 (f : TT0) : K := fun env h => f h
abbrev K1 (f : TT1) (a0 : Nat) : K := fun env h => f (env a0) h
abbrev K2 (f : oF) (a0 a1 : Nat) : K := fun env h => f (env a0) (env a1) h
abbrev K3 (f : mV) (a0 a1 a2 : Nat) : K := fun env h => f (env a0) (env a1) (env a2) h
abbrev K4 (f : dH) (a0 a1 a2 a3 : Nat) : K := fun env h => f (env a0) (env a1) (env a2) (env a3) h
abbrev K5 (f : cD) (a0 a1 a2 a3 a4 : Nat) : K := fun env h => f (env a0) (env a1) (env a2) (env a3) (env a4) h
abbrev K6 (f : fC) (a0 a1 a2 a3 a4 a5 : Nat) : K := fun env h => f (env a0) (env a1) (env a2) (env a3) (env a4) (env a5) h
abbrev K7 (f : TT7) (a0 a1 a2 a3 a4 a5 a6 : Nat) : K := fun env h => f (env a0) (env a1) (env a2) (env a3) (env a4) (env a5) (env a6) h
abbrev K8 (f : TT8) (a0 a1 a2 a3 a4 a5 a6 a7 : Nat) : K := fun env h => f (env a0) (env a1) (env a2) (env a3) (env a4) (env a5) (env a6) (env a7) h
abbrev K9 (f : TT9) (a0 a1 a2 a3 a4 a5 a6 a7 a8 : Nat) : K := fun env h => f (env a0) (env a1) (env a2) (env a3) (env a4) (env a5) (env a6) (env a7) (env a8) h
abbrev K10 (f : aPr) (a0 a1 a2 a3 a4 a5 a6 a7 a8 a9 : Nat) : K := fun env h => f (env a0) (env a1) (env a2) (env a3) (env a4) (env a5) (env a6) (env a7) (env a8) (env a9) h
abbrev K11 (f : dLg) (a0 a1 a2 a3 a4 a5 a6 a7 a8 a9 a10 : Nat) : K := fun env h => f (env a0) (env a1) (env a2) (env a3) (env a4) (env a5) (env a6) (env a7) (env a8) (env a9) (env a10) h
abbrev K12 (f : dQd) (a0 a1 a2 a3 a4 a5 a6 a7 a8 a9 a10 a11 : Nat) : K := fun env h => f (env a0) (env a1) (env a2) (env a3) (env a4) (env a5) (env a6) (env a7) (env a8) (env a9) (env a10) (env a11) h
abbrev K13 (f : dOg) (a0 a1 a2 a3 a4 a5 a6 a7 a8 a9 a10 a11 a12 : Nat) : K := fun env h => f (env a0) (env a1) (env a2) (env a3) (env a4) (env a5) (env a6) (env a7) (env a8) (env a9) (env a10) (env a11) (env a12) h
abbrev K14 (f : dLx) (a0 a1 a2 a3 a4 a5 a6 a7 a8 a9 a10 a11 a12 a13 : Nat) : K := fun env h => f (env a0) (env a1) (env a2) (env a3) (env a4) (env a5) (env a6) (env a7) (env a8) (env a9) (env a10) (env a11) (env a12) (env a13) h
abbrev K15 (f : dOt) (a0 a1 a2 a3 a4 a5 a6 a7 a8 a9 a10 a11 a12 a13 a14 : Nat) : K := fun env h => f (env a0) (env a1) (env a2) (env a3) (env a4) (env a5) (env a6) (env a7) (env a8) (env a9) (env a10) (env a11) (env a12) (env a13) (env a14) h
abbrev K16 (f : dMo) (a0 a1 a2 a3 a4 a5 a6 a7 a8 a9 a10 a11 a12 a13 a14 a15 : Nat) : K := fun env h => f (env a0) (env a1) (env a2) (env a3) (env a4) (env a5) (env a6) (env a7) (env a8) (env a9) (env a10) (env a11) (env a12) (env a13) (env a14) (env a15) h
abbrev K17 (f : dMh) (a0 a1 a2 a3 a4 a5 a6 a7 a8 a9 a10 a11 a12 a13 a14 a15 a16 : Nat) : K := fun env h => f (env a0) (env a1) (env a2) (env a3) (env a4) (env a5) (env a6) (env a7) (env a8) (env a9) (env a10) (env a11) (env a12) (env a13) (env a14) (env a15) (env a16) h
abbrev K18 (f : dOz) (a0 a1 a2 a3 a4 a5 a6 a7 a8 a9 a10 a11 a12 a13 a14 a15 a16 a17 : Nat) : K := fun env h => f (env a0) (env a1) (env a2) (env a3) (env a4) (env a5) (env a6) (env a7) (env a8) (env a9) (env a10) (env a11) (env a12) (env a13) (env a14) (env a15) (env a16) (env a17) h
abbrev K19 (f : dLu) (a0 a1 a2 a3 a4 a5 a6 a7 a8 a9 a10 a11 a12 a13 a14 a15 a16 a17 a18 : Nat) : K := fun env h => f (env a0) (env a1) (env a2) (env a3) (env a4) (env a5) (env a6) (env a7) (env a8) (env a9) (env a10) (env a11) (env a12) (env a13) (env a14) (env a15) (env a16) (env a17) (env a18) h
abbrev K20 (f : dQm) (a0 a1 a2 a3 a4 a5 a6 a7 a8 a9 a10 a11 a12 a13 a14 a15 a16 a17 a18 a19 : Nat) : K := fun env h => f (env a0) (env a1) (env a2) (env a3) (env a4) (env a5) (env a6) (env a7) (env a8) (env a9) (env a10) (env a11) (env a12) (env a13) (env a14) (env a15) (env a16) (env a17) (env a18) (env a19) h
theorem okG {d s : K} (m : d = s) (args : List DV) (h : Hp) {a b : aH} (e1 : a = d (aI args) h) (e2 : s (aI args) h = b) : a = b :=
 e1.trans ((congrFun (congrFun m (aI args)) h).trans e2)
abbrev aE (n : Nat) : DV := .i .i64 (Int.ofNat n)
abbrev jQ : List DV := [(.i .i64 (Int.ofNat 0)), (.s []), (.i .i64 (Int.ofNat 0)), .l0, .l0, .l0]
abbrev aS (args : List DV) (i : Nat) : DV := args.getD i aW
end Go.Dd

namespace Go.Dd
open Go.Proofs
variable (r : RT) (n : Nat) (args : List DV) (h : Hp)
noncomputable def s12 (r : RT) (n : Nat) (h0 : Hp) : aH :=
 bnd (r 40 [(aE 30000)] h0) fun v1 h1 =>
 bnd (aC 0 v1 h1) fun v2 h2 =>
 bnd (aC 1 v1 h2) fun v3 h3 =>
 bnd (pEq (.pointer 64) true v2 .p0 h3) fun v4 h4 =>
 bnd (gD v4 false (some (v3, h4)) h4) fun v5 h5 =>
 bnd (gD v4 false (aD .neq v5 (aE 0) h5) h5) fun v6 h6 =>
 bnd (aR v4 (.b true) v6 h6) fun v7 h7 =>
 aP v7 (
 some (.p0, h7)) (
 bnd (aL [(.s []), (.s [])] 2 [(0, 1, (.s [120])), (1, 1, (.s [121]))] h7) fun v8 h8 =>
 bnd (r 41 [v2, (.s [80, 111, 105, 110, 116]), (.s [79, 98, 106, 101, 99, 116]), v8] h8) fun v9 h9 =>
 bnd (aC 0 v9 h9) fun v10 h10 =>
 bnd (aC 1 v9 h10) fun v11 h11 =>
 bnd (aD .neq v11 (aE 0) h11) fun v12 h12 =>
 aP v12 (
 some (.p0, h12)) (
 some (v2, h12)))
noncomputable abbrev c12 : Code := cf Tryz.f12
noncomputable abbrev r12 : K := aQ CF Tryz.f12
noncomputable def D12 (r : RT) (n : Nat) (c : Code) (X : Nat → K) (k : K) : K := aM CF r 24 n c X r12 k
theorem dNe : D12 r n c12 x0 r12 = (K0 (s12 r n)) :=
 (by kernel_rfl)
theorem cRf : aF CF r n 12 args h = s12 r n h :=
 (by kernel_rfl : aF CF r n 12 args h = D12 r n c12 x0 r12 (aI args) h).trans ((congrFun (congrFun (dNe r n) (aI args)) h).trans (by kernel_rfl))
noncomputable def s13 (r : RT) (n : Nat) (h0 : Hp) : aH :=
 bnd (r 12 [] h0) fun v1 h1 =>
 bnd (pEq (.pointer 64) true v1 .p0 h1) fun v2 h2 =>
 aP v2 (
 some ((.b false), h2)) (
 bnd (r 42 [v1, (aE 1073741823)] h2) fun v3 h3 =>
 bnd (aC 0 v3 h3) fun v4 h4 =>
 bnd (aC 1 v3 h4) fun v5 h5 =>
 bnd (aL [(aE 0)] 1 [(0, 1, (aE 3))] h5) fun v6 h6 =>
 bnd (r 16 [v1, (aE 1), v4, v6] h6) fun v7 h7 =>
 bnd (aC 0 v7 h7) fun v8 h8 =>
 bnd (aC 1 v7 h8) fun v9 h9 =>
 bnd (r 15 [v1, v8] h9) fun v10 h10 =>
 bnd (aC 0 v10 h10) fun v11 h11 =>
 bnd (aC 1 v10 h11) fun v12 h12 =>
 bnd (aL [(aE 0)] 1 [(0, 1, (aE 1))] h12) fun v13 h13 =>
 bnd (r 16 [v1, (aE 4), (aE 15), v13] h13) fun v14 h14 =>
 bnd (aC 0 v14 h14) fun v15 h15 =>
 bnd (aC 1 v14 h15) fun v16 h16 =>
 bnd (r 43 [v1, (.s [97, 98])] h16) fun v17 h17 =>
 bnd (aC 0 v17 h17) fun v18 h18 =>
 bnd (aC 1 v17 h18) fun v19 h19 =>
 bnd (aL [(aE 0)] 1 [(0, 1, (aE 5))] h19) fun v20 h20 =>
 bnd (r 16 [v1, (aE 20), v18, v20] h20) fun v21 h21 =>
 bnd (aC 0 v21 h21) fun v22 h22 =>
 bnd (aC 1 v21 h22) fun v23 h23 =>
 bnd (r 44 [v1, (.s [97, 98])] h23) fun v24 h24 =>
 bnd (aC 0 v24 h24) fun v25 h25 =>
 bnd (aC 1 v24 h25) fun v26 h26 =>
 bnd (aL [(aE 0), (aE 0)] 2 [(0, 1, (aE 3)), (1, 1, (aE 199))] h26) fun v27 h27 =>
 bnd (r 16 [v1, (aE 21), v25, v27] h27) fun v28 h28 =>
 bnd (aC 0 v28 h28) fun v29 h29 =>
 bnd (aC 1 v28 h29) fun v30 h30 =>
 bnd (aD .eql v9 (aE 0) h30) fun v31 h31 =>
 bnd (gD v31 true (some (v12, h31)) h31) fun v32 h32 =>
 bnd (aR v31 v32 (.b false) h32) fun v33 h33 =>
 bnd (gD v33 true (some (v11, h33)) h33) fun v34 h34 =>
 bnd (gD v33 true (aD .eql v34 (aE 1073741824) h34) h34) fun v35 h35 =>
 bnd (aR v33 v35 (.b false) h35) fun v36 h36 =>
 bnd (gD v36 true (some (v1, h36)) h36) fun v37 h37 =>
 bnd (gD v36 true (some (v8, h37)) h37) fun v38 h38 =>
 bnd (gD v36 true (r 25 [v37, v38] h38) h38) fun v39 h39 =>
 bnd (gD v36 true (some (v1, h39)) h39) fun v40 h40 =>
 bnd (gD v36 true (r 45 [v40, (.s [76, 97, 114, 103, 101, 73, 110, 116, 101, 103, 101, 114])] h40) h40) fun v41 h41 =>
 bnd (gD v36 true (aD .eql v39 v41 h41) h41) fun v42 h42 =>
 bnd (aR v36 v42 (.b false) h42) fun v43 h43 =>
 bnd (gD v43 true (some (v16, h43)) h43) fun v44 h44 =>
 bnd (gD v43 true (aD .eql v44 (aE 20) h44) h44) fun v45 h45 =>
 bnd (aR v43 v45 (.b false) h45) fun v46 h46 =>
 bnd (gD v46 true (some (v22, h46)) h46) fun v47 h47 =>
 bnd (gD v46 true (aD .eql v47 (aE 197) h47) h47) fun v48 h48 =>
 bnd (aR v46 v48 (.b false) h48) fun v49 h49 =>
 bnd (gD v49 true (some (v23, h49)) h49) fun v50 h50 =>
 bnd (gD v49 true (aD .eql v50 (aE 0) h50) h50) fun v51 h51 =>
 bnd (aR v49 v51 (.b false) h51) fun v52 h52 =>
 bnd (gD v52 true (some (v30, h52)) h52) fun v53 h53 =>
 bnd (gD v52 true (aD .eql v53 (aE 20) h53) h53) fun v54 h54 =>
 bnd (aR v52 v54 (.b false) h54) fun v55 h55 =>
 bnd (gD v55 true (r 39 [(aE 21)] h55) h55) fun v56 h56 =>
 bnd (gD v55 true (aD .eql v56 (aE 2) h56) h56) fun v57 h57 =>
 bnd (aR v55 v57 (.b false) h57) fun v58 h58 =>
 some (v58, h58))
noncomputable abbrev c13 : Code := cf Tryz.f13
noncomputable abbrev r13 : K := aQ CF Tryz.f13
noncomputable def D13 (r : RT) (n : Nat) (c : Code) (X : Nat → K) (k : K) : K := aM CF r 106 n c X r13 k
theorem dOq : D13 r n c13 x0 r13 = (K0 (s13 r n)) :=
 (by kernel_rfl)
theorem cQv : aF CF r n 13 args h = s13 r n h :=
 (by kernel_rfl : aF CF r n 13 args h = D13 r n c13 x0 r13 (aI args) h).trans ((congrFun (congrFun (dOq r n) (aI args)) h).trans (by kernel_rfl))
noncomputable def aY (r : RT) (n : Nat) (x3 : DV) (h0 : Hp) : aH :=
 bnd (aB 1 x3 h0) fun v1 h1 =>
 bnd (aA v1 h1) fun v2 h2 =>
 some (v2, h2)
noncomputable def qD (r : RT) (n : Nat) (x0 x5 : DV) (h0 : Hp) : aH :=
 bnd (dR x5 h0) fun v1 h1 =>
 bnd (aD .quo v1 (aE 2) h1) fun v2 h2 =>
 bnd (fB x5 none (some v2) h2) fun v3 h3 =>
 bnd (fH .add (.s [115]) v3 h3) fun v4 h4 =>
 bnd (r 44 [x0, v4] h4) fun v5 h5 =>
 bnd (aC 0 v5 h5) fun v6 h6 =>
 bnd (aC 1 v5 h6) fun v7 h7 =>
 some (v6, h7)
noncomputable def aFb (r : RT) (n : Nat) (x0 x5 : DV) (h0 : Hp) : aH :=
 bnd (dR x5 h0) fun v1 h1 =>
 bnd (aD .gtr v1 (aE 60) h1) fun v2 h2 =>
 aP v2 (
 bnd (fB x5 none (some (aE 60)) h2) fun v3 h3 =>
  qD r n x0 v3 h3) (
  qD r n x0 x5 h2)
noncomputable def dN (r : RT) (n : Nat) (x0 x13 : DV) (h0 : Hp) : aH :=
 bnd (r 46 [x0, x13] h0) fun v1 h1 =>
 bnd (aC 0 v1 h1) fun v2 h2 =>
 bnd (aC 1 v1 h2) fun v3 h3 =>
 some (v2, h3)
noncomputable def lG (r : RT) (n : Nat) (kk21 : dH) (x0 x12 x13 x14 : DV) (h0 : Hp) : aH :=
 bnd (aD .rem x12 (aE 10) h0) fun v1 h1 =>
 bnd (aD .lss x14 v1 h1) fun v2 h2 =>
 aP v2 (
 bnd (aD .mul (aE 2) x14 h2) fun v3 h3 =>
 bnd (aD .add v3 (aE 1) h3) fun v4 h4 =>
 bnd (aL [(aE 0)] 1 [(0, 1, v4)] h4) fun v5 h5 =>
 bnd (aZ 1 8 x13 v5 h5) fun v6 h6 =>
 bnd (aD .add x14 (aE 1) h6) fun v7 h7 =>
      kk21 x0 x12 v6 v7 h7) (
      dN r n x0 x13 h2)
noncomputable def kQ (r : RT) (n : Nat) (m : Nat) : dH :=
 Nat.rec (motive := fun _ => dH) (fun _ _ _ _ _ => none) (fun _ ih => lG r n ih) m
noncomputable def aRw (r : RT) (n : Nat) : dH := kQ r n n
noncomputable def aEd (r : RT) (n : Nat) (x0 x12 x13 x14 : DV) (h0 : Hp) : aH :=
 aRw r n x0 x12 x13 x14 h0
noncomputable def aBq (r : RT) (n : Nat) (x0 x12 x13 : DV) (h0 : Hp) : aH :=
 aEd r n x0 x12 x13 (aE 0) h0
noncomputable def qX (r : RT) (n : Nat) (x0 x12 : DV) (h0 : Hp) : aH :=
 aBq r n x0 x12 .l0 h0
noncomputable def aFr (r : RT) (n : Nat) (x0 x12 : DV) (h0 : Hp) : aH :=
 bnd (aD .lss x12 (aE 0) h0) fun v1 h1 =>
 aP v1 (
 bnd (aD .add x12 (aE 1) h1) fun v2 h2 =>
 bnd (gS .neg v2 h2) fun v3 h3 =>
  qX r n x0 v3 h3) (
  qX r n x0 x12 h1)
noncomputable def aEy (r : RT) (n : Nat) (x0 x3 : DV) (h0 : Hp) : aH :=
 bnd (aB 1 x3 h0) fun v1 h1 =>
 bnd (aA v1 h1) fun v2 h2 =>
  aFr r n x0 v2 h2
noncomputable def wB (r : RT) (n : Nat) (x0 x3 x27 x66 : DV) (h0 : Hp) : aH :=
 aP x66 (
  aEy r n x0 x3 h0) (
 bnd (aD .eql x27 (aE 4) h0) fun v1 h1 =>
 aP v1 (
 bnd (r 23 [x0] h1) fun v2 h2 =>
 bnd (r 45 [x0, (.s [80, 111, 105, 110, 116])] h2) fun v3 h3 =>
 bnd (iO [v2, v3, (aE 0), (aE 2)] h3) fun v4 h4 =>
 bnd (aC 0 v4 h4) fun v5 h5 =>
 bnd (aC 1 v4 h5) fun v6 h6 =>
 some (v5, h6)) (
 bnd (aD .eql x27 (aE 5) h1) fun v7 h7 =>
 aP v7 (
 bnd (aB 1 x3 h7) fun v8 h8 =>
 bnd (aA v8 h8) fun v9 h9 =>
 bnd (aD .eql v9 (aE 16) h9) fun v10 h10 =>
 aP v10 (
 bnd (r 45 [x0, (.s [80, 111, 105, 110, 116])] h10) fun v11 h11 =>
 some (v11, h11)) (
 bnd (aB 1 x3 h10) fun v12 h12 =>
 bnd (aA v12 h12) fun v13 h13 =>
 bnd (r 30 [x0, v13] h13) fun v14 h14 =>
 some (v14, h14))) (
 bnd (aD .eql x27 (aE 6) h7) fun v15 h15 =>
 aP v15 (
 some ((aE 0), h15)) (
 bnd (aD .eql x27 (aE 7) h15) fun v16 h16 =>
 aP v16 (
 some ((aE 2), h16)) (
 bnd (aD .eql x27 (aE 8) h16) fun v17 h17 =>
 aP v17 (
 some ((aE 4), h17)) (
       aY r n x3 h17))))))
noncomputable def aTv (r : RT) (n : Nat) (x0 x3 x27 : DV) (h0 : Hp) : aH :=
 bnd (aD .eql x27 (aE 3) h0) fun v1 h1 =>
  wB r n x0 x3 x27 v1 h1
noncomputable def uW (r : RT) (n : Nat) (x0 x3 x5 x27 x47 : DV) (h0 : Hp) : aH :=
 aP x47 (
  aFb r n x0 x5 h0) (
  aTv r n x0 x3 x27 h0)
noncomputable def bIa (r : RT) (n : Nat) (x0 x3 x5 x27 : DV) (h0 : Hp) : aH :=
 bnd (aD .eql x27 (aE 2) h0) fun v1 h1 =>
  uW r n x0 x3 x5 x27 v1 h1
noncomputable def aKs (r : RT) (n : Nat) (x0 x3 x5 x27 x38 : DV) (h0 : Hp) : aH :=
 aP x38 (
 bnd (r 43 [x0, x5] h0) fun v1 h1 =>
 bnd (aC 0 v1 h1) fun v2 h2 =>
 bnd (aC 1 v1 h2) fun v3 h3 =>
 some (v2, h3)) (
  bIa r n x0 x3 x5 x27 h0)
noncomputable def bVk (r : RT) (n : Nat) (x0 x3 x5 x27 : DV) (h0 : Hp) : aH :=
 bnd (aD .eql x27 (aE 1) h0) fun v1 h1 =>
  aKs r n x0 x3 x5 x27 v1 h1
noncomputable def aLg (r : RT) (n : Nat) (x0 x3 x5 x27 x28 : DV) (h0 : Hp) : aH :=
 aP x28 (
 bnd (aB 1 x3 h0) fun v1 h1 =>
 bnd (aA v1 h1) fun v2 h2 =>
 bnd (r 42 [x0, v2] h2) fun v3 h3 =>
 bnd (aC 0 v3 h3) fun v4 h4 =>
 bnd (aC 1 v3 h4) fun v5 h5 =>
 some (v4, h5)) (
  bVk r n x0 x3 x5 x27 h0)
noncomputable def aVq (r : RT) (n : Nat) (x0 x3 x5 x27 : DV) (h0 : Hp) : aH :=
 bnd (aD .eql x27 (aE 0) h0) fun v1 h1 =>
  aLg r n x0 x3 x5 x27 v1 h1
noncomputable def zQ (r : RT) (n : Nat) (x0 x3 x5 : DV) (h0 : Hp) : aH :=
 bnd (aB 0 x3 h0) fun v1 h1 =>
 bnd (aA v1 h1) fun v2 h2 =>
  aVq r n x0 x3 x5 v2 h2
noncomputable def aYm (r : RT) (n : Nat) (x0 x3 x5 : DV) (h0 : Hp) : aH :=
 bnd (dR x5 h0) fun v1 h1 =>
 bnd (aD .gtr v1 (aE 250) h1) fun v2 h2 =>
 aP v2 (
 bnd (fB x5 none (some (aE 250)) h2) fun v3 h3 =>
  zQ r n x0 x3 v3 h3) (
  zQ r n x0 x3 x5 h2)
noncomputable def zS (r : RT) (n : Nat) (x0 x3 : DV) (h0 : Hp) : aH :=
 bnd (aB 2 x3 h0) fun v1 h1 =>
 bnd (aA v1 h1) fun v2 h2 =>
  aYm r n x0 x3 v2 h2
noncomputable def s14 (r : RT) (n : Nat) (x0 x1 : DV) (h0 : Hp) : aH :=
 bnd (bQ x1 h0) fun v1 h1 =>
  zS r n x0 v1 h1
noncomputable abbrev c14 : Code := cf Tryz.f14
noncomputable abbrev aVy : Code := cR c14
noncomputable abbrev aVw : Code := cR aVy
noncomputable abbrev aYp : Code := cR aVw
noncomputable abbrev dHr : Code := cR aYp
noncomputable abbrev aMi : Code := cL aYp
noncomputable abbrev bGo : Code := cR aMi
noncomputable abbrev bBi : Code := cL bGo
noncomputable abbrev aKm : Code := cR bBi
noncomputable abbrev aKw : Code := cR aKm
noncomputable abbrev vL : Code := cR aKw
noncomputable abbrev vY : Code := cR vL
noncomputable abbrev yV : Code := cR vY
noncomputable abbrev wX : Code := cL yV
noncomputable abbrev cTs : Code := cR wX
noncomputable abbrev bMx : Code := cL wX
noncomputable abbrev vE : Code := cR yV
noncomputable abbrev xF : Code := cR vE
noncomputable abbrev wK : Code := cL xF
noncomputable abbrev aIy : Code := cR wK
noncomputable abbrev aEz : Code := cR aIy
noncomputable abbrev aAw : Code := cR aEz
noncomputable abbrev cYk : Code := cR aAw
noncomputable abbrev wM : Code := cL aAw
noncomputable abbrev aSm : Code := cR wM
noncomputable abbrev aDc : Code := cL aSm
noncomputable abbrev mE : Code := cL aDc
noncomputable abbrev bZd : Code := cL wM
noncomputable abbrev bGp : Code := cL aEz
noncomputable abbrev bZq : Code := cL aIy
noncomputable abbrev bLz : Code := cL wK
noncomputable abbrev cXr : Code := cR xF
noncomputable abbrev bHi : Code := cL vE
noncomputable abbrev bGq : Code := cL vY
noncomputable abbrev dAa : Code := cL vL
noncomputable abbrev bXo : Code := cL aKw
noncomputable abbrev dAq : Code := cL aKm
noncomputable abbrev bXw : Code := cL bBi
noncomputable abbrev bNv : Code := cL aMi
noncomputable abbrev bUg : Code := cL aVw
noncomputable abbrev bLj : Code := cL aVy
noncomputable abbrev aOa : Code := cL c14
noncomputable abbrev r14 : K := aQ CF Tryz.f14
noncomputable def D14 (r : RT) (n : Nat) (c : Code) (X : Nat → K) (k : K) : K := aM CF r 124 n c X r14 k
theorem cYa : D14 r n dHr x0 r14 = (K1 (aY r n) 3) :=
 (by kernel_rfl)
theorem cIh : D14 r n cTs (xs x0 0 (K1 (aY r n) 3)) (K1 (aY r n) 3) = (K2 (qD r n) 0 5) :=
 (by kernel_rfl)
theorem bKs : D14 r n wX (xs x0 0 (K1 (aY r n) 3)) (K1 (aY r n) 3) = D14 r n bMx (xs x0 0 (K1 (aY r n) 3)) (K2 (qD r n) 0 5) :=
 congrArg (fun k => D14 r n bMx (xs x0 0 (K1 (aY r n) 3)) k) (cIh r n)
theorem cLg : D14 r n wX (xs x0 0 (K1 (aY r n) 3)) (K1 (aY r n) 3) = (K2 (aFb r n) 0 5) :=
 (bKs r n).trans
 ((by kernel_rfl))
theorem cCw : D14 r n cYk (xs x0 0 (K1 (aY r n) 3)) (K1 (aY r n) 3) = (K2 (dN r n) 0 13) :=
 (by kernel_rfl)
theorem bYa (kk21 : dH) (q0 : TT1) (q1 : oF) : D14 r n mE (xs (xs x0 0 (K1 q0 3)) 1 (K2 q1 0 13)) (K4 kk21 0 12 13 14) = fun (env : aU) (h : Hp) =>
 bnd (aD .rem (env 12) (aE 10) h) fun v1 h1 =>
 bnd (aD .lss (env 14) v1 h1) fun v2 h2 =>
 aP v2 (
 bnd (aD .mul (aE 2) (env 14) h2) fun v3 h3 =>
 bnd (aD .add v3 (aE 1) h3) fun v4 h4 =>
 bnd (aL [(aE 0)] 1 [(0, 1, v4)] h4) fun v5 h5 =>
 bnd (aZ 1 8 (env 13) v5 h5) fun v6 h6 =>
 bnd (aD .add (env 14) (aE 1) h6) fun v7 h7 =>
      kk21 (env 0) (env 12) v6 v7 h7) (
      q1 (env 0) (env 13) h2) := by kernel_rfl
theorem bFb (kk21 : dH) : (fun (env : aU) (h : Hp) =>
 bnd (aD .rem (env 12) (aE 10) h) fun v1 h1 =>
 bnd (aD .lss (env 14) v1 h1) fun v2 h2 =>
 aP v2 (
 bnd (aD .mul (aE 2) (env 14) h2) fun v3 h3 =>
 bnd (aD .add v3 (aE 1) h3) fun v4 h4 =>
 bnd (aL [(aE 0)] 1 [(0, 1, v4)] h4) fun v5 h5 =>
 bnd (aZ 1 8 (env 13) v5 h5) fun v6 h6 =>
 bnd (aD .add (env 14) (aE 1) h6) fun v7 h7 =>
      kk21 (env 0) (env 12) v6 v7 h7) (
      dN r n (env 0) (env 13) h2)) = (K4 (lG r n kk21) 0 12 13 14) := by kernel_rfl
theorem bHc (kk21 : dH) : D14 r n mE (xs (xs x0 0 (K1 (aY r n) 3)) 1 (K2 (dN r n) 0 13)) (K4 kk21 0 12 13 14) = (K4 (lG r n kk21) 0 12 13 14) :=
 (bYa r n kk21 (aY r n) (dN r n)).trans (bFb r n kk21)
theorem bMv (m : Nat) : aN (fun kk => D14 r n mE (xs (xs x0 0 (K1 (aY r n) 3)) 1 (K2 (dN r n) 0 13)) kk) m = (K4 (kQ r n m) 0 12 13 14) := by
 induction m with
 | zero => exact (by kernel_rfl : aN (fun kk => D14 r n mE (xs (xs x0 0 (K1 (aY r n) 3)) 1 (K2 (dN r n) 0 13)) kk) 0 = (K4 (kQ r n 0) 0 12 13 14))
 | succ m ih =>
  refine (by kernel_rfl : aN (fun kk => D14 r n mE (xs (xs x0 0 (K1 (aY r n) 3)) 1 (K2 (dN r n) 0 13)) kk) (m + 1) = D14 r n mE (xs (xs x0 0 (K1 (aY r n) 3)) 1 (K2 (dN r n) 0 13)) (aN (fun kk => D14 r n mE (xs (xs x0 0 (K1 (aY r n) 3)) 1 (K2 (dN r n) 0 13)) kk) m)).trans ?_
  rw [ih]
  exact (bHc r n (kQ r n m)).trans (by kernel_rfl)
theorem cBf : D14 r n aDc (xs (xs x0 0 (K1 (aY r n) 3)) 1 (K2 (dN r n) 0 13)) (K2 (dN r n) 0 13) = (K4 (aRw r n) 0 12 13 14) :=
 (by kernel_rfl : D14 r n aDc (xs (xs x0 0 (K1 (aY r n) 3)) 1 (K2 (dN r n) 0 13)) (K2 (dN r n) 0 13) = aN (fun kk => D14 r n mE (xs (xs x0 0 (K1 (aY r n) 3)) 1 (K2 (dN r n) 0 13)) kk) n).trans ((bMv r n n).trans (by kernel_rfl))
theorem cDe : D14 r n aSm (xs x0 0 (K1 (aY r n) 3)) (K2 (dN r n) 0 13) = (K4 (aEd r n) 0 12 13 14) :=
 (by kernel_rfl : D14 r n aSm (xs x0 0 (K1 (aY r n) 3)) (K2 (dN r n) 0 13) = D14 r n aDc (xs (xs x0 0 (K1 (aY r n) 3)) 1 (K2 (dN r n) 0 13)) (K2 (dN r n) 0 13)).trans
 ((cBf r n).trans (by kernel_rfl))
theorem bUx : D14 r n aAw (xs x0 0 (K1 (aY r n) 3)) (K1 (aY r n) 3) = D14 r n wM (xs x0 0 (K1 (aY r n) 3)) (K2 (dN r n) 0 13) :=
 congrArg (fun k => D14 r n wM (xs x0 0 (K1 (aY r n) 3)) k) (cCw r n)
theorem bMu : D14 r n wM (xs x0 0 (K1 (aY r n) 3)) (K2 (dN r n) 0 13) = D14 r n bZd (xs x0 0 (K1 (aY r n) 3)) (K4 (aEd r n) 0 12 13 14) :=
 congrArg (fun k => D14 r n bZd (xs x0 0 (K1 (aY r n) 3)) k) (cDe r n)
theorem cKi : D14 r n aAw (xs x0 0 (K1 (aY r n) 3)) (K1 (aY r n) 3) = (K3 (aBq r n) 0 12 13) :=
 (bUx r n).trans
 ((bMu r n).trans
 ((by kernel_rfl)))
theorem bOw : D14 r n aEz (xs x0 0 (K1 (aY r n) 3)) (K1 (aY r n) 3) = D14 r n bGp (xs x0 0 (K1 (aY r n) 3)) (K3 (aBq r n) 0 12 13) :=
 congrArg (fun k => D14 r n bGp (xs x0 0 (K1 (aY r n) 3)) k) (cKi r n)
theorem cMv : D14 r n aEz (xs x0 0 (K1 (aY r n) 3)) (K1 (aY r n) 3) = (K2 (qX r n) 0 12) :=
 (bOw r n).trans
 ((by kernel_rfl))
theorem bLl : D14 r n aIy (xs x0 0 (K1 (aY r n) 3)) (K1 (aY r n) 3) = D14 r n bZq (xs x0 0 (K1 (aY r n) 3)) (K2 (qX r n) 0 12) :=
 congrArg (fun k => D14 r n bZq (xs x0 0 (K1 (aY r n) 3)) k) (cMv r n)
theorem cPx : D14 r n aIy (xs x0 0 (K1 (aY r n) 3)) (K1 (aY r n) 3) = (K2 (aFr r n) 0 12) :=
 (bLl r n).trans
 ((by kernel_rfl))
theorem bXf : D14 r n wK (xs x0 0 (K1 (aY r n) 3)) (K1 (aY r n) 3) = D14 r n bLz (xs x0 0 (K1 (aY r n) 3)) (K2 (aFr r n) 0 12) :=
 congrArg (fun k => D14 r n bLz (xs x0 0 (K1 (aY r n) 3)) k) (cPx r n)
theorem cLy : D14 r n wK (xs x0 0 (K1 (aY r n) 3)) (K1 (aY r n) 3) = (K2 (aEy r n) 0 3) :=
 (bXf r n).trans
 ((by kernel_rfl))
theorem cMc : D14 r n xF (xs x0 0 (K1 (aY r n) 3)) (K1 (aY r n) 3) = (K4 (wB r n) 0 3 27 66) :=
 (by kernel_rfl : D14 r n xF (xs x0 0 (K1 (aY r n) 3)) (K1 (aY r n) 3) = (fun (env : aU) (h : Hp) => aP (opr env (cC xF)) (D14 r n wK (xs x0 0 (K1 (aY r n) 3)) (K1 (aY r n) 3) env h) (D14 r n cXr (xs x0 0 (K1 (aY r n) 3)) (K1 (aY r n) 3) env h))).trans (by rw [cLy r n]; kernel_rfl)
theorem bXz : D14 r n vE (xs x0 0 (K1 (aY r n) 3)) (K1 (aY r n) 3) = D14 r n bHi (xs x0 0 (K1 (aY r n) 3)) (K4 (wB r n) 0 3 27 66) :=
 congrArg (fun k => D14 r n bHi (xs x0 0 (K1 (aY r n) 3)) k) (cMc r n)
theorem cEa : D14 r n vE (xs x0 0 (K1 (aY r n) 3)) (K1 (aY r n) 3) = (K3 (aTv r n) 0 3 27) :=
 (bXz r n).trans
 ((by kernel_rfl))
theorem cJw : D14 r n yV (xs x0 0 (K1 (aY r n) 3)) (K1 (aY r n) 3) = (K5 (uW r n) 0 3 5 27 47) :=
 (by kernel_rfl : D14 r n yV (xs x0 0 (K1 (aY r n) 3)) (K1 (aY r n) 3) = (fun (env : aU) (h : Hp) => aP (opr env (cC yV)) (D14 r n wX (xs x0 0 (K1 (aY r n) 3)) (K1 (aY r n) 3) env h) (D14 r n vE (xs x0 0 (K1 (aY r n) 3)) (K1 (aY r n) 3) env h))).trans (by rw [cLg r n, cEa r n]; kernel_rfl)
theorem cIc : D14 r n vY (xs x0 0 (K1 (aY r n) 3)) (K1 (aY r n) 3) = D14 r n bGq (xs x0 0 (K1 (aY r n) 3)) (K5 (uW r n) 0 3 5 27 47) :=
 congrArg (fun k => D14 r n bGq (xs x0 0 (K1 (aY r n) 3)) k) (cJw r n)
theorem cTe : D14 r n vY (xs x0 0 (K1 (aY r n) 3)) (K1 (aY r n) 3) = (K4 (bIa r n) 0 3 5 27) :=
 (cIc r n).trans
 ((by kernel_rfl))
theorem cTn : D14 r n vL (xs x0 0 (K1 (aY r n) 3)) (K1 (aY r n) 3) = (K5 (aKs r n) 0 3 5 27 38) :=
 (by kernel_rfl : D14 r n vL (xs x0 0 (K1 (aY r n) 3)) (K1 (aY r n) 3) = (fun (env : aU) (h : Hp) => aP (opr env (cC vL)) (D14 r n dAa (xs x0 0 (K1 (aY r n) 3)) (K1 (aY r n) 3) env h) (D14 r n vY (xs x0 0 (K1 (aY r n) 3)) (K1 (aY r n) 3) env h))).trans (by rw [cTe r n]; kernel_rfl)
theorem bOb : D14 r n aKw (xs x0 0 (K1 (aY r n) 3)) (K1 (aY r n) 3) = D14 r n bXo (xs x0 0 (K1 (aY r n) 3)) (K5 (aKs r n) 0 3 5 27 38) :=
 congrArg (fun k => D14 r n bXo (xs x0 0 (K1 (aY r n) 3)) k) (cTn r n)
theorem cYx : D14 r n aKw (xs x0 0 (K1 (aY r n) 3)) (K1 (aY r n) 3) = (K4 (bVk r n) 0 3 5 27) :=
 (bOb r n).trans
 ((by kernel_rfl))
theorem cWl : D14 r n aKm (xs x0 0 (K1 (aY r n) 3)) (K1 (aY r n) 3) = (K5 (aLg r n) 0 3 5 27 28) :=
 (by kernel_rfl : D14 r n aKm (xs x0 0 (K1 (aY r n) 3)) (K1 (aY r n) 3) = (fun (env : aU) (h : Hp) => aP (opr env (cC aKm)) (D14 r n dAq (xs x0 0 (K1 (aY r n) 3)) (K1 (aY r n) 3) env h) (D14 r n aKw (xs x0 0 (K1 (aY r n) 3)) (K1 (aY r n) 3) env h))).trans (by rw [cYx r n]; kernel_rfl)
theorem bNf : D14 r n bBi (xs x0 0 (K1 (aY r n) 3)) (K1 (aY r n) 3) = D14 r n bXw (xs x0 0 (K1 (aY r n) 3)) (K5 (aLg r n) 0 3 5 27 28) :=
 congrArg (fun k => D14 r n bXw (xs x0 0 (K1 (aY r n) 3)) k) (cWl r n)
theorem cWy : D14 r n bGo x0 (K1 (aY r n) 3) = (K4 (aVq r n) 0 3 5 27) :=
 (by kernel_rfl : D14 r n bGo x0 (K1 (aY r n) 3) = D14 r n bBi (xs x0 0 (K1 (aY r n) 3)) (K1 (aY r n) 3)).trans
 ((bNf r n).trans
 ((by kernel_rfl)))
theorem bXu : D14 r n aYp x0 r14 = D14 r n aMi x0 (K1 (aY r n) 3) :=
 congrArg (fun k => D14 r n aMi x0 k) (cYa r n)
theorem bZc : D14 r n aMi x0 (K1 (aY r n) 3) = D14 r n bNv x0 (K4 (aVq r n) 0 3 5 27) :=
 congrArg (fun k => D14 r n bNv x0 k) (cWy r n)
theorem cZl : D14 r n aYp x0 r14 = (K3 (zQ r n) 0 3 5) :=
 (bXu r n).trans
 ((bZc r n).trans
 ((by kernel_rfl)))
theorem bUi : D14 r n aVw x0 r14 = D14 r n bUg x0 (K3 (zQ r n) 0 3 5) :=
 congrArg (fun k => D14 r n bUg x0 k) (cZl r n)
theorem dDn : D14 r n aVw x0 r14 = (K3 (aYm r n) 0 3 5) :=
 (bUi r n).trans
 ((by kernel_rfl))
theorem bXi : D14 r n aVy x0 r14 = D14 r n bLj x0 (K3 (aYm r n) 0 3 5) :=
 congrArg (fun k => D14 r n bLj x0 k) (dDn r n)
theorem cVw : D14 r n aVy x0 r14 = (K2 (zS r n) 0 3) :=
 (bXi r n).trans
 ((by kernel_rfl))
theorem cXz : D14 r n c14 x0 r14 = D14 r n aOa x0 (K2 (zS r n) 0 3) :=
 congrArg (fun k => D14 r n aOa x0 k) (cVw r n)
theorem cWj (q0 : oF) : D14 r n aOa x0 (K2 q0 0 3) = fun (env : aU) (h : Hp) =>
 bnd (bQ (env 1) h) fun v1 h1 =>
  q0 (env 0) v1 h1 := by kernel_rfl
theorem cDh : (fun (env : aU) (h : Hp) =>
 bnd (bQ (env 1) h) fun v1 h1 =>
  zS r n (env 0) v1 h1) = (K2 (s14 r n) 0 1) := by kernel_rfl
theorem dMu : D14 r n c14 x0 r14 = (K2 (s14 r n) 0 1) :=
 (cXz r n).trans
 ((cWj r n (zS r n)).trans (cDh r n))
theorem cQl : aF CF r n 14 args h = s14 r n (aS args 0) (aS args 1) h :=
 (by kernel_rfl : aF CF r n 14 args h = D14 r n c14 x0 r14 (aI args) h).trans ((congrFun (congrFun (dMu r n) (aI args)) h).trans (by kernel_rfl))
noncomputable def s15 (r : RT) (n : Nat) (x0 x1 : DV) (h0 : Hp) : aH :=
 bnd (iC [x1] h0) fun v1 h1 =>
 aP v1 (
 bnd (kT [x1] h1) fun v2 h2 =>
 some (.t [v2, (.b true)], h2)) (
 bnd (aO x0 h1) fun v3 h3 =>
 bnd (aB 0 v3 h3) fun v4 h4 =>
 bnd (aA v4 h4) fun v5 h5 =>
 bnd (isF [v5, x1] h5) fun v6 h6 =>
 bnd (gD v6 true (some (x0, h6)) h6) fun v7 h7 =>
 bnd (gD v6 true (aO v7 h7) h7) fun v8 h8 =>
 bnd (gD v6 true (aB 0 v8 h8) h8) fun v9 h9 =>
 bnd (gD v6 true (aA v9 h9) h9) fun v10 h10 =>
 bnd (gD v6 true (some (x1, h10)) h10) fun v11 h11 =>
 bnd (gD v6 true (lT [v10, v11] h11) h11) fun v12 h12 =>
 bnd (gD v6 true (some (x0, h12)) h12) fun v13 h13 =>
 bnd (gD v6 true (r 30 [v13, (aE 8)] h13) h13) fun v14 h14 =>
 bnd (gD v6 true (aD .eql v12 v14 h14) h14) fun v15 h15 =>
 bnd (aR v6 v15 (.b false) h15) fun v16 h16 =>
 bnd (gD v16 true (some (x0, h16)) h16) fun v17 h17 =>
 bnd (gD v16 true (aO v17 h17) h17) fun v18 h18 =>
 bnd (gD v16 true (aB 0 v18 h18) h18) fun v19 h19 =>
 bnd (gD v16 true (aA v19 h19) h19) fun v20 h20 =>
 bnd (gD v16 true (some (x1, h20)) h20) fun v21 h21 =>
 bnd (gD v16 true (mW [v20, v21] h21) h21) fun v22 h22 =>
 bnd (gD v16 true (aD .eql v22 (aE 1) h22) h22) fun v23 h23 =>
 bnd (aR v16 v23 (.b false) h23) fun v24 h24 =>
 aP v24 (
 bnd (r 51 [x0, x1, (aE 0)] h24) fun v25 h25 =>
 some (.t [v25, (.b true)], h25)) (
 some (.t [(aE 0), (.b false)], h24)))
noncomputable abbrev c15 : Code := cf Tryz.f15
noncomputable abbrev r15 : K := aQ CF Tryz.f15
noncomputable def D15 (r : RT) (n : Nat) (c : Code) (X : Nat → K) (k : K) : K := aM CF r 41 n c X r15 k
theorem dOv : D15 r n c15 x0 r15 = (K2 (s15 r n) 0 1) :=
 (by kernel_rfl)
theorem dJy : aF CF r n 15 args h = s15 r n (aS args 0) (aS args 1) h :=
 (by kernel_rfl : aF CF r n 15 args h = D15 r n c15 x0 r15 (aI args) h).trans ((congrFun (congrFun (dOv r n) (aI args)) h).trans (by kernel_rfl))
noncomputable def bD (r : RT) (n : Nat) (x12 : DV) (h0 : Hp) : aH :=
 bnd (cV CF r x12 [] h0) fun v1 h1 =>
 bnd (aC 0 v1 h1) fun v2 h2 =>
 bnd (aC 1 v1 h2) fun v3 h3 =>
 some (.t [v2, v3], h3)
noncomputable def aFo (r : RT) (n : Nat) (x11 x12 x69 : DV) (h0 : Hp) : aH :=
 aP x69 (
  bD r n (.f 61 [x11] []) h0) (
  bD r n x12 h0)
noncomputable def bRz (r : RT) (n : Nat) (x11 x12 x42 : DV) (h0 : Hp) : aH :=
 bnd (aD .eql x42 (aE 50) h0) fun v1 h1 =>
 aP v1 (
  aFo r n x11 x12 v1 h1) (
 bnd (aD .eql x42 (aE 51) h1) fun v2 h2 =>
  aFo r n x11 x12 v2 h2)
noncomputable def aBr (r : RT) (n : Nat) (x11 x12 x42 x64 : DV) (h0 : Hp) : aH :=
 aP x64 (
  bD r n (.f 60 [x11] []) h0) (
  bRz r n x11 x12 x42 h0)
noncomputable def bUl (r : RT) (n : Nat) (x11 x12 x42 : DV) (h0 : Hp) : aH :=
 bnd (aD .eql x42 (aE 40) h0) fun v1 h1 =>
 aP v1 (
  aBr r n x11 x12 x42 v1 h1) (
 bnd (aD .eql x42 (aE 41) h1) fun v2 h2 =>
  aBr r n x11 x12 x42 v2 h2)
noncomputable def aCk (r : RT) (n : Nat) (x11 x12 x42 x59 : DV) (h0 : Hp) : aH :=
 aP x59 (
  bD r n (.f 59 [x11] []) h0) (
  bUl r n x11 x12 x42 h0)
noncomputable def bUo (r : RT) (n : Nat) (x11 x12 x42 : DV) (h0 : Hp) : aH :=
 bnd (aD .eql x42 (aE 25) h0) fun v1 h1 =>
 aP v1 (
  aCk r n x11 x12 x42 v1 h1) (
 bnd (aD .eql x42 (aE 26) h1) fun v2 h2 =>
  aCk r n x11 x12 x42 v2 h2)
noncomputable def aCm (r : RT) (n : Nat) (x11 x12 x42 x54 : DV) (h0 : Hp) : aH :=
 aP x54 (
  bD r n (.f 58 [x11] []) h0) (
  bUo r n x11 x12 x42 h0)
noncomputable def bIn (r : RT) (n : Nat) (x11 x12 x42 : DV) (h0 : Hp) : aH :=
 bnd (aD .eql x42 (aE 23) h0) fun v1 h1 =>
 aP v1 (
  aCm r n x11 x12 x42 v1 h1) (
 bnd (aD .eql x42 (aE 24) h1) fun v2 h2 =>
  aCm r n x11 x12 x42 v2 h2)
noncomputable def wL (r : RT) (n : Nat) (x11 x12 x42 x48 : DV) (h0 : Hp) : aH :=
 aP x48 (
  bD r n (.f 57 [x11] []) h0) (
  bIn r n x11 x12 x42 h0)
noncomputable def cQm (r : RT) (n : Nat) (x11 x12 x42 : DV) (h0 : Hp) : aH :=
 bnd (aD .eql x42 (aE 20) h0) fun v1 h1 =>
 aP v1 (
  wL r n x11 x12 x42 v1 h1) (
 bnd (aD .eql x42 (aE 21) h1) fun v2 h2 =>
 aP v2 (
   wL r n x11 x12 x42 v2 h2) (
 bnd (aD .eql x42 (aE 22) h2) fun v3 h3 =>
      wL r n x11 x12 x42 v3 h3))
noncomputable def aZq (r : RT) (n : Nat) (x11 x12 x42 x43 : DV) (h0 : Hp) : aH :=
 aP x43 (
  bD r n (.f 56 [x11] []) h0) (
  cQm r n x11 x12 x42 h0)
noncomputable def bVf (r : RT) (n : Nat) (x11 x12 x42 : DV) (h0 : Hp) : aH :=
 bnd (aD .eql x42 (aE 10) h0) fun v1 h1 =>
 aP v1 (
  aZq r n x11 x12 x42 v1 h1) (
 bnd (aD .eql x42 (aE 11) h1) fun v2 h2 =>
  aZq r n x11 x12 x42 v2 h2)
noncomputable def bLy (r : RT) (n : Nat) (x1 x11 x12 : DV) (h0 : Hp) : aH :=
 bVf r n x11 x12 x1 h0
noncomputable def aMb (r : RT) (n : Nat) (x1 x11 : DV) (h0 : Hp) : aH :=
 bLy r n x1 x11 (.f 55 [x11] []) h0
noncomputable def aMr (r : RT) (n : Nat) (x0 x1 x2 x3 : DV) (h0 : Hp) : aH :=
 bnd (bC [.p0, (aE 0), (aE 0), .l0] [(0, 1, x0), (1, 1, x1), (2, 1, x2), (3, 1, x3)] h0) fun v1 h1 =>
 bnd (bQ v1 h1) fun v2 h2 =>
  aMb r n x1 v2 h2
noncomputable def aAc (r : RT) (n : Nat) (x0 x1 x2 x3 x10 : DV) (h0 : Hp) : aH :=
 bnd (r 39 [x1] h0) fun v1 h1 =>
 bnd (bV x3 h1) fun v2 h2 =>
 bnd (aD .neq v1 v2 h2) fun v3 h3 =>
 bnd (gD v3 false (aA x10 h3) h3) fun v4 h4 =>
 bnd (gD v3 false (some (x2, h4)) h4) fun v5 h5 =>
 bnd (gD v3 false (aEp [v4, v5] h5) h5) fun v6 h6 =>
 bnd (gD v3 false (gS .not v6 h6) h6) fun v7 h7 =>
 bnd (aR v3 (.b true) v7 h7) fun v8 h8 =>
 bnd (gD v8 false (some (x3, h8)) h8) fun v9 h9 =>
 bnd (gD v8 false (some ((.f 53 [] [x10]), h9)) h9) fun v10 h10 =>
 bnd (gD v8 false (r 52 [v9, v10] h10) h10) fun v11 h11 =>
 bnd (aR v8 (.b true) v11 h11) fun v12 h12 =>
 aP v12 (
 bnd (r 54 [] h12) fun v13 h13 =>
 bnd (aC 0 v13 h13) fun v14 h14 =>
 bnd (aC 1 v13 h14) fun v15 h15 =>
 some (.t [v14, v15], h15)) (
  aMr r n x0 x1 x2 x3 h12)
noncomputable def aMv (r : RT) (n : Nat) (x0 x1 x2 x3 : DV) (h0 : Hp) : aH :=
 bnd (r 23 [x0] h0) fun v1 h1 =>
 bnd (bL [.p0] h1) fun v2 h2 =>
 bnd (aG 1 v2 v1 h2) fun _ h3 =>
  aAc r n x0 x1 x2 x3 v2 h3
noncomputable def s16 (r : RT) (n : Nat) (x0 x1 x2 x3 : DV) (h0 : Hp) : aH :=
 aMv r n x0 x1 x2 x3 h0
noncomputable abbrev c16 : Code := cf Tryz.f16
noncomputable abbrev bAw : Code := cR c16
noncomputable abbrev aWb : Code := cR bAw
noncomputable abbrev aYh : Code := cR aWb
noncomputable abbrev bBr : Code := cR aYh
noncomputable abbrev aZi : Code := cR bBr
noncomputable abbrev dFo : Code := cR aZi
noncomputable abbrev aKr : Code := cL aZi
noncomputable abbrev bWv : Code := cR aKr
noncomputable abbrev bAc : Code := cL bWv
noncomputable abbrev xS : Code := cR bAc
noncomputable abbrev wG : Code := cR xS
noncomputable abbrev xZ : Code := cR wG
noncomputable abbrev vZ : Code := cR xZ
noncomputable abbrev uR : Code := cR vZ
noncomputable abbrev vN : Code := cR uR
noncomputable abbrev xM : Code := cR vN
noncomputable abbrev wN : Code := cR xM
noncomputable abbrev wS : Code := cR wN
noncomputable abbrev vB : Code := cR wS
noncomputable abbrev cTz : Code := cR vB
noncomputable abbrev bZp : Code := cL vB
noncomputable abbrev dCx : Code := cL wS
noncomputable abbrev bPo : Code := cL wN
noncomputable abbrev dBu : Code := cL xM
noncomputable abbrev bSw : Code := cL vN
noncomputable abbrev cVn : Code := cL uR
noncomputable abbrev bQv : Code := cL vZ
noncomputable abbrev dAp : Code := cL xZ
noncomputable abbrev bJf : Code := cL wG
noncomputable abbrev cXi : Code := cL xS
noncomputable abbrev bJu : Code := cL bAc
noncomputable abbrev bUk : Code := cL aKr
noncomputable abbrev bXp : Code := cL bBr
noncomputable abbrev aTh : Code := cL aYh
noncomputable abbrev bPx : Code := cL aWb
noncomputable abbrev aPn : Code := cL bAw
noncomputable abbrev bNy : Code := cL c16
noncomputable abbrev r16 : K := aQ CF Tryz.f16
noncomputable def D16 (r : RT) (n : Nat) (c : Code) (X : Nat → K) (k : K) : K := aM CF r 78 n c X r16 k
theorem dAg : D16 r n dFo x0 r16 = (K1 (bD r n) 12) :=
 (by kernel_rfl)
theorem cJo : D16 r n cTz (xs x0 0 (K1 (bD r n) 12)) (K1 (bD r n) 12) = (K3 (aFo r n) 11 12 69) :=
 (by kernel_rfl)
theorem bHu : D16 r n vB (xs x0 0 (K1 (bD r n) 12)) (K1 (bD r n) 12) = D16 r n bZp (xs x0 0 (K1 (bD r n) 12)) (K3 (aFo r n) 11 12 69) :=
 congrArg (fun k => D16 r n bZp (xs x0 0 (K1 (bD r n) 12)) k) (cJo r n)
theorem cDn : D16 r n vB (xs x0 0 (K1 (bD r n) 12)) (K1 (bD r n) 12) = (K3 (bRz r n) 11 12 42) :=
 (bHu r n).trans
 ((by kernel_rfl))
theorem cNn : D16 r n wS (xs x0 0 (K1 (bD r n) 12)) (K1 (bD r n) 12) = (K4 (aBr r n) 11 12 42 64) :=
 (by kernel_rfl : D16 r n wS (xs x0 0 (K1 (bD r n) 12)) (K1 (bD r n) 12) = (fun (env : aU) (h : Hp) => aP (opr env (cC wS)) (D16 r n dCx (xs x0 0 (K1 (bD r n) 12)) (K1 (bD r n) 12) env h) (D16 r n vB (xs x0 0 (K1 (bD r n) 12)) (K1 (bD r n) 12) env h))).trans (by rw [cDn r n]; kernel_rfl)
theorem bTu : D16 r n wN (xs x0 0 (K1 (bD r n) 12)) (K1 (bD r n) 12) = D16 r n bPo (xs x0 0 (K1 (bD r n) 12)) (K4 (aBr r n) 11 12 42 64) :=
 congrArg (fun k => D16 r n bPo (xs x0 0 (K1 (bD r n) 12)) k) (cNn r n)
theorem cEp : D16 r n wN (xs x0 0 (K1 (bD r n) 12)) (K1 (bD r n) 12) = (K3 (bUl r n) 11 12 42) :=
 (bTu r n).trans
 ((by kernel_rfl))
theorem cCy : D16 r n xM (xs x0 0 (K1 (bD r n) 12)) (K1 (bD r n) 12) = (K4 (aCk r n) 11 12 42 59) :=
 (by kernel_rfl : D16 r n xM (xs x0 0 (K1 (bD r n) 12)) (K1 (bD r n) 12) = (fun (env : aU) (h : Hp) => aP (opr env (cC xM)) (D16 r n dBu (xs x0 0 (K1 (bD r n) 12)) (K1 (bD r n) 12) env h) (D16 r n wN (xs x0 0 (K1 (bD r n) 12)) (K1 (bD r n) 12) env h))).trans (by rw [cEp r n]; kernel_rfl)
theorem bIj : D16 r n vN (xs x0 0 (K1 (bD r n) 12)) (K1 (bD r n) 12) = D16 r n bSw (xs x0 0 (K1 (bD r n) 12)) (K4 (aCk r n) 11 12 42 59) :=
 congrArg (fun k => D16 r n bSw (xs x0 0 (K1 (bD r n) 12)) k) (cCy r n)
theorem cHf : D16 r n vN (xs x0 0 (K1 (bD r n) 12)) (K1 (bD r n) 12) = (K3 (bUo r n) 11 12 42) :=
 (bIj r n).trans
 ((by kernel_rfl))
theorem cNq : D16 r n uR (xs x0 0 (K1 (bD r n) 12)) (K1 (bD r n) 12) = (K4 (aCm r n) 11 12 42 54) :=
 (by kernel_rfl : D16 r n uR (xs x0 0 (K1 (bD r n) 12)) (K1 (bD r n) 12) = (fun (env : aU) (h : Hp) => aP (opr env (cC uR)) (D16 r n cVn (xs x0 0 (K1 (bD r n) 12)) (K1 (bD r n) 12) env h) (D16 r n vN (xs x0 0 (K1 (bD r n) 12)) (K1 (bD r n) 12) env h))).trans (by rw [cHf r n]; kernel_rfl)
theorem bVi : D16 r n vZ (xs x0 0 (K1 (bD r n) 12)) (K1 (bD r n) 12) = D16 r n bQv (xs x0 0 (K1 (bD r n) 12)) (K4 (aCm r n) 11 12 42 54) :=
 congrArg (fun k => D16 r n bQv (xs x0 0 (K1 (bD r n) 12)) k) (cNq r n)
theorem cKw : D16 r n vZ (xs x0 0 (K1 (bD r n) 12)) (K1 (bD r n) 12) = (K3 (bIn r n) 11 12 42) :=
 (bVi r n).trans
 ((by kernel_rfl))
theorem cPh : D16 r n xZ (xs x0 0 (K1 (bD r n) 12)) (K1 (bD r n) 12) = (K4 (wL r n) 11 12 42 48) :=
 (by kernel_rfl : D16 r n xZ (xs x0 0 (K1 (bD r n) 12)) (K1 (bD r n) 12) = (fun (env : aU) (h : Hp) => aP (opr env (cC xZ)) (D16 r n dAp (xs x0 0 (K1 (bD r n) 12)) (K1 (bD r n) 12) env h) (D16 r n vZ (xs x0 0 (K1 (bD r n) 12)) (K1 (bD r n) 12) env h))).trans (by rw [cKw r n]; kernel_rfl)
theorem cGi : D16 r n wG (xs x0 0 (K1 (bD r n) 12)) (K1 (bD r n) 12) = D16 r n bJf (xs x0 0 (K1 (bD r n) 12)) (K4 (wL r n) 11 12 42 48) :=
 congrArg (fun k => D16 r n bJf (xs x0 0 (K1 (bD r n) 12)) k) (cPh r n)
theorem cTh : D16 r n wG (xs x0 0 (K1 (bD r n) 12)) (K1 (bD r n) 12) = (K3 (cQm r n) 11 12 42) :=
 (cGi r n).trans
 ((by kernel_rfl))
theorem cWm : D16 r n xS (xs x0 0 (K1 (bD r n) 12)) (K1 (bD r n) 12) = (K4 (aZq r n) 11 12 42 43) :=
 (by kernel_rfl : D16 r n xS (xs x0 0 (K1 (bD r n) 12)) (K1 (bD r n) 12) = (fun (env : aU) (h : Hp) => aP (opr env (cC xS)) (D16 r n cXi (xs x0 0 (K1 (bD r n) 12)) (K1 (bD r n) 12) env h) (D16 r n wG (xs x0 0 (K1 (bD r n) 12)) (K1 (bD r n) 12) env h))).trans (by rw [cTh r n]; kernel_rfl)
theorem cBm : D16 r n bAc (xs x0 0 (K1 (bD r n) 12)) (K1 (bD r n) 12) = D16 r n bJu (xs x0 0 (K1 (bD r n) 12)) (K4 (aZq r n) 11 12 42 43) :=
 congrArg (fun k => D16 r n bJu (xs x0 0 (K1 (bD r n) 12)) k) (cWm r n)
theorem cWt : D16 r n bWv x0 (K1 (bD r n) 12) = (K3 (bVf r n) 11 12 42) :=
 (by kernel_rfl : D16 r n bWv x0 (K1 (bD r n) 12) = D16 r n bAc (xs x0 0 (K1 (bD r n) 12)) (K1 (bD r n) 12)).trans
 ((cBm r n).trans
 ((by kernel_rfl)))
theorem cLm : D16 r n aZi x0 r16 = D16 r n aKr x0 (K1 (bD r n) 12) :=
 congrArg (fun k => D16 r n aKr x0 k) (dAg r n)
theorem cGu : D16 r n aKr x0 (K1 (bD r n) 12) = D16 r n bUk x0 (K3 (bVf r n) 11 12 42) :=
 congrArg (fun k => D16 r n bUk x0 k) (cWt r n)
theorem cVm : D16 r n aZi x0 r16 = (K3 (bLy r n) 1 11 12) :=
 (cLm r n).trans
 ((cGu r n).trans
 ((by kernel_rfl)))
theorem cJj : D16 r n bBr x0 r16 = D16 r n bXp x0 (K3 (bLy r n) 1 11 12) :=
 congrArg (fun k => D16 r n bXp x0 k) (cVm r n)
theorem cSk : D16 r n bBr x0 r16 = (K2 (aMb r n) 1 11) :=
 (cJj r n).trans
 ((by kernel_rfl))
theorem bQd : D16 r n aYh x0 r16 = D16 r n aTh x0 (K2 (aMb r n) 1 11) :=
 congrArg (fun k => D16 r n aTh x0 k) (cSk r n)
theorem cAb (q0 : oF) : D16 r n aTh x0 (K2 q0 1 11) = fun (env : aU) (h : Hp) =>
 bnd (bC [.p0, (aE 0), (aE 0), .l0] [(0, 1, (env 0)), (1, 1, (env 1)), (2, 1, (env 2)), (3, 1, (env 3))] h) fun v1 h1 =>
 bnd (bQ v1 h1) fun v2 h2 =>
  q0 (env 1) v2 h2 := by kernel_rfl
theorem bCb : (fun (env : aU) (h : Hp) =>
 bnd (bC [.p0, (aE 0), (aE 0), .l0] [(0, 1, (env 0)), (1, 1, (env 1)), (2, 1, (env 2)), (3, 1, (env 3))] h) fun v1 h1 =>
 bnd (bQ v1 h1) fun v2 h2 =>
  aMb r n (env 1) v2 h2) = (K4 (aMr r n) 0 1 2 3) := by kernel_rfl
theorem cRq : D16 r n aYh x0 r16 = (K4 (aMr r n) 0 1 2 3) :=
 (bQd r n).trans
 ((cAb r n (aMb r n)).trans (bCb r n))
theorem bJz : D16 r n aWb x0 r16 = D16 r n bPx x0 (K4 (aMr r n) 0 1 2 3) :=
 congrArg (fun k => D16 r n bPx x0 k) (cRq r n)
theorem dDg : D16 r n aWb x0 r16 = (K5 (aAc r n) 0 1 2 3 10) :=
 (bJz r n).trans
 ((by kernel_rfl))
theorem bPm : D16 r n bAw x0 r16 = D16 r n aPn x0 (K5 (aAc r n) 0 1 2 3 10) :=
 congrArg (fun k => D16 r n aPn x0 k) (dDg r n)
theorem bWt (q0 : cD) : D16 r n aPn x0 (K5 q0 0 1 2 3 10) = fun (env : aU) (h : Hp) =>
 bnd (r 23 [(env 0)] h) fun v1 h1 =>
 bnd (bL [.p0] h1) fun v2 h2 =>
 bnd (aG 1 v2 v1 h2) fun _ h3 =>
  q0 (env 0) (env 1) (env 2) (env 3) v2 h3 := by kernel_rfl
theorem bBy : (fun (env : aU) (h : Hp) =>
 bnd (r 23 [(env 0)] h) fun v1 h1 =>
 bnd (bL [.p0] h1) fun v2 h2 =>
 bnd (aG 1 v2 v1 h2) fun _ h3 =>
  aAc r n (env 0) (env 1) (env 2) (env 3) v2 h3) = (K4 (aMv r n) 0 1 2 3) := by kernel_rfl
theorem cYw : D16 r n bAw x0 r16 = (K4 (aMv r n) 0 1 2 3) :=
 (bPm r n).trans
 ((bWt r n (aAc r n)).trans (bBy r n))
theorem cSb : D16 r n c16 x0 r16 = D16 r n bNy x0 (K4 (aMv r n) 0 1 2 3) :=
 congrArg (fun k => D16 r n bNy x0 k) (cYw r n)
theorem dMv : D16 r n c16 x0 r16 = (K4 (s16 r n) 0 1 2 3) :=
 (cSb r n).trans
 ((by kernel_rfl))
theorem cRg : aF CF r n 16 args h = s16 r n (aS args 0) (aS args 1) (aS args 2) (aS args 3) h :=
 (by kernel_rfl : aF CF r n 16 args h = D16 r n c16 x0 r16 (aI args) h).trans ((congrFun (congrFun (dMv r n) (aI args)) h).trans (by kernel_rfl))
noncomputable def s17 (r : RT) (n : Nat) (x0 : DV) (h0 : Hp) : aH :=
 aP x0 (
 some ((aE 2), h0)) (
 some ((aE 4), h0))
noncomputable abbrev c17 : Code := cf Tryz.f17
noncomputable abbrev r17 : K := aQ CF Tryz.f17
noncomputable def D17 (r : RT) (n : Nat) (c : Code) (X : Nat → K) (k : K) : K := aM CF r 4 n c X r17 k
theorem dNo : D17 r n c17 x0 r17 = (K1 (s17 r n) 0) :=
 (by kernel_rfl)
theorem dIe : aF CF r n 17 args h = s17 r n (aS args 0) h :=
 (by kernel_rfl : aF CF r n 17 args h = D17 r n c17 x0 r17 (aI args) h).trans ((congrFun (congrFun (dNo r n) (aI args)) h).trans (by kernel_rfl))
noncomputable def s23 (r : RT) (n : Nat) (x0 : DV) (h0 : Hp) : aH :=
 bnd (aO x0 h0) fun v1 h1 =>
 bnd (aB 0 v1 h1) fun v2 h2 =>
 bnd (aA v2 h2) fun v3 h3 =>
 some (v3, h3)
noncomputable abbrev c23 : Code := cf Tryz.f23
noncomputable abbrev r23 : K := aQ CF Tryz.f23
noncomputable def D23 (r : RT) (n : Nat) (c : Code) (X : Nat → K) (k : K) : K := aM CF r 7 n c X r23 k
theorem dNs : D23 r n c23 x0 r23 = (K1 (s23 r n) 0) :=
 (by kernel_rfl)
theorem cRk : aF CF r n 23 args h = s23 r n (aS args 0) h :=
 (by kernel_rfl : aF CF r n 23 args h = D23 r n c23 x0 r23 (aI args) h).trans ((congrFun (congrFun (dNs r n) (aI args)) h).trans (by kernel_rfl))
noncomputable def s25 (r : RT) (n : Nat) (x0 x1 : DV) (h0 : Hp) : aH :=
 bnd (aO x0 h0) fun v1 h1 =>
 bnd (aB 0 v1 h1) fun v2 h2 =>
 bnd (aA v2 h2) fun v3 h3 =>
 bnd (isF [v3, x1] h3) fun v4 h4 =>
 aP v4 (
 bnd (aO x0 h4) fun v5 h5 =>
 bnd (aB 0 v5 h5) fun v6 h6 =>
 bnd (aA v6 h6) fun v7 h7 =>
 bnd (lT [v7, x1] h7) fun v8 h8 =>
 some (v8, h8)) (
 bnd (iC [x1] h4) fun v9 h9 =>
 aP v9 (
 bnd (r 30 [x0, (aE 7)] h9) fun v10 h10 =>
 some (v10, h10)) (
 bnd (aD .eql x1 (aE 0) h9) fun v11 h11 =>
 aP v11 (
 bnd (r 30 [x0, (aE 2)] h11) fun v12 h12 =>
 some (v12, h12)) (
 bnd (aD .eql x1 (aE 2) h11) fun v13 h13 =>
 aP v13 (
 bnd (r 30 [x0, (aE 4)] h13) fun v14 h14 =>
 some (v14, h14)) (
 bnd (aD .eql x1 (aE 4) h13) fun v15 h15 =>
 aP v15 (
 bnd (r 30 [x0, (aE 5)] h15) fun v16 h16 =>
 some (v16, h16)) (
 some ((aE 0), h15))))))
noncomputable abbrev c25 : Code := cf Tryz.f25
noncomputable abbrev r25 : K := aQ CF Tryz.f25
noncomputable def D25 (r : RT) (n : Nat) (c : Code) (X : Nat → K) (k : K) : K := aM CF r 38 n c X r25 k
theorem dPs : D25 r n c25 x0 r25 = (K2 (s25 r n) 0 1) :=
 (by kernel_rfl)
theorem dHt : aF CF r n 25 args h = s25 r n (aS args 0) (aS args 1) h :=
 (by kernel_rfl : aF CF r n 25 args h = D25 r n c25 x0 r25 (aI args) h).trans ((congrFun (congrFun (dPs r n) (aI args)) h).trans (by kernel_rfl))
noncomputable def fV (r : RT) (n : Nat) (x5 : DV) (h0 : Hp) : aH :=
 some (x5, h0)
noncomputable def aTu (r : RT) (n : Nat) (kk5 : dH) (x0 x1 x5 x6 : DV) (h0 : Hp) : aH :=
 bnd (r 23 [x0] h0) fun v1 h1 =>
 bnd (fZ [v1, x1] h1) fun v2 h2 =>
 bnd (aD .lss x6 v2 h2) fun v3 h3 =>
 aP v3 (
 bnd (r 23 [x0] h3) fun v4 h4 =>
 bnd (zB [v4, x1, x6] h4) fun v5 h5 =>
 bnd (aC 0 v5 h5) fun v6 h6 =>
 bnd (aC 1 v5 h6) fun v7 h7 =>
 bnd (aL [(aE 0)] 1 [(0, 1, v6)] h7) fun v8 h8 =>
 bnd (aZ 1 8 x5 v8 h8) fun v9 h9 =>
 bnd (aD .add x6 (aE 1) h9) fun v10 h10 =>
      kk5 x0 x1 v9 v10 h10) (
      fV r n x5 h3)
noncomputable def aEs (r : RT) (n : Nat) (m : Nat) : dH :=
 Nat.rec (motive := fun _ => dH) (fun _ _ _ _ _ => none) (fun _ ih => aTu r n ih) m
noncomputable def cRa (r : RT) (n : Nat) : dH := aEs r n n
noncomputable def bYw (r : RT) (n : Nat) (x0 x1 x5 x6 : DV) (h0 : Hp) : aH :=
 cRa r n x0 x1 x5 x6 h0
noncomputable def bGl (r : RT) (n : Nat) (x0 x1 x5 : DV) (h0 : Hp) : aH :=
 bYw r n x0 x1 x5 (aE 0) h0
noncomputable def bRc (r : RT) (n : Nat) (x0 x1 : DV) (h0 : Hp) : aH :=
 bGl r n x0 x1 .l0 h0
noncomputable def s29 (r : RT) (n : Nat) (x0 x1 : DV) (h0 : Hp) : aH :=
 bRc r n x0 x1 h0
noncomputable abbrev c29 : Code := cf Tryz.f29
noncomputable abbrev bAg : Code := cR c29
noncomputable abbrev aUa : Code := cR bAg
noncomputable abbrev dKr : Code := cR aUa
noncomputable abbrev aMd : Code := cL aUa
noncomputable abbrev bRs : Code := cR aMd
noncomputable abbrev aVx : Code := cL bRs
noncomputable abbrev rH : Code := cL aVx
noncomputable abbrev cQw : Code := cL aMd
noncomputable abbrev cQs : Code := cL bAg
noncomputable abbrev bYz : Code := cL c29
noncomputable abbrev r29 : K := aQ CF Tryz.f29
noncomputable def D29 (r : RT) (n : Nat) (c : Code) (X : Nat → K) (k : K) : K := aM CF r 30 n c X r29 k
theorem dAj : D29 r n dKr x0 r29 = (K1 (fV r n) 5) :=
 (by kernel_rfl)
theorem cGx (kk5 : dH) (q0 : TT1) : D29 r n rH (xs x0 0 (K1 q0 5)) (K4 kk5 0 1 5 6) = fun (env : aU) (h : Hp) =>
 bnd (r 23 [(env 0)] h) fun v1 h1 =>
 bnd (fZ [v1, (env 1)] h1) fun v2 h2 =>
 bnd (aD .lss (env 6) v2 h2) fun v3 h3 =>
 aP v3 (
 bnd (r 23 [(env 0)] h3) fun v4 h4 =>
 bnd (zB [v4, (env 1), (env 6)] h4) fun v5 h5 =>
 bnd (aC 0 v5 h5) fun v6 h6 =>
 bnd (aC 1 v5 h6) fun v7 h7 =>
 bnd (aL [(aE 0)] 1 [(0, 1, v6)] h7) fun v8 h8 =>
 bnd (aZ 1 8 (env 5) v8 h8) fun v9 h9 =>
 bnd (aD .add (env 6) (aE 1) h9) fun v10 h10 =>
      kk5 (env 0) (env 1) v9 v10 h10) (
      q0 (env 5) h3) := by kernel_rfl
theorem bUz (kk5 : dH) : (fun (env : aU) (h : Hp) =>
 bnd (r 23 [(env 0)] h) fun v1 h1 =>
 bnd (fZ [v1, (env 1)] h1) fun v2 h2 =>
 bnd (aD .lss (env 6) v2 h2) fun v3 h3 =>
 aP v3 (
 bnd (r 23 [(env 0)] h3) fun v4 h4 =>
 bnd (zB [v4, (env 1), (env 6)] h4) fun v5 h5 =>
 bnd (aC 0 v5 h5) fun v6 h6 =>
 bnd (aC 1 v5 h6) fun v7 h7 =>
 bnd (aL [(aE 0)] 1 [(0, 1, v6)] h7) fun v8 h8 =>
 bnd (aZ 1 8 (env 5) v8 h8) fun v9 h9 =>
 bnd (aD .add (env 6) (aE 1) h9) fun v10 h10 =>
      kk5 (env 0) (env 1) v9 v10 h10) (
      fV r n (env 5) h3)) = (K4 (aTu r n kk5) 0 1 5 6) := by kernel_rfl
theorem cGs (kk5 : dH) : D29 r n rH (xs x0 0 (K1 (fV r n) 5)) (K4 kk5 0 1 5 6) = (K4 (aTu r n kk5) 0 1 5 6) :=
 (cGx r n kk5 (fV r n)).trans (bUz r n kk5)
theorem cBi (m : Nat) : aN (fun kk => D29 r n rH (xs x0 0 (K1 (fV r n) 5)) kk) m = (K4 (aEs r n m) 0 1 5 6) := by
 induction m with
 | zero => exact (by kernel_rfl : aN (fun kk => D29 r n rH (xs x0 0 (K1 (fV r n) 5)) kk) 0 = (K4 (aEs r n 0) 0 1 5 6))
 | succ m ih =>
  refine (by kernel_rfl : aN (fun kk => D29 r n rH (xs x0 0 (K1 (fV r n) 5)) kk) (m + 1) = D29 r n rH (xs x0 0 (K1 (fV r n) 5)) (aN (fun kk => D29 r n rH (xs x0 0 (K1 (fV r n) 5)) kk) m)).trans ?_
  rw [ih]
  exact (cGs r n (aEs r n m)).trans (by kernel_rfl)
theorem dCe : D29 r n aVx (xs x0 0 (K1 (fV r n) 5)) (K1 (fV r n) 5) = (K4 (cRa r n) 0 1 5 6) :=
 (by kernel_rfl : D29 r n aVx (xs x0 0 (K1 (fV r n) 5)) (K1 (fV r n) 5) = aN (fun kk => D29 r n rH (xs x0 0 (K1 (fV r n) 5)) kk) n).trans ((cBi r n n).trans (by kernel_rfl))
theorem cRs : D29 r n bRs x0 (K1 (fV r n) 5) = (K4 (bYw r n) 0 1 5 6) :=
 (by kernel_rfl : D29 r n bRs x0 (K1 (fV r n) 5) = D29 r n aVx (xs x0 0 (K1 (fV r n) 5)) (K1 (fV r n) 5)).trans
 ((dCe r n).trans (by kernel_rfl))
theorem cOv : D29 r n aUa x0 r29 = D29 r n aMd x0 (K1 (fV r n) 5) :=
 congrArg (fun k => D29 r n aMd x0 k) (dAj r n)
theorem cMw : D29 r n aMd x0 (K1 (fV r n) 5) = D29 r n cQw x0 (K4 (bYw r n) 0 1 5 6) :=
 congrArg (fun k => D29 r n cQw x0 k) (cRs r n)
theorem cSc : D29 r n aUa x0 r29 = (K3 (bGl r n) 0 1 5) :=
 (cOv r n).trans
 ((cMw r n).trans
 ((by kernel_rfl)))
theorem cCl : D29 r n bAg x0 r29 = D29 r n cQs x0 (K3 (bGl r n) 0 1 5) :=
 congrArg (fun k => D29 r n cQs x0 k) (cSc r n)
theorem cWb : D29 r n bAg x0 r29 = (K2 (bRc r n) 0 1) :=
 (cCl r n).trans
 ((by kernel_rfl))
theorem dIl : D29 r n c29 x0 r29 = D29 r n bYz x0 (K2 (bRc r n) 0 1) :=
 congrArg (fun k => D29 r n bYz x0 k) (cWb r n)
theorem dPw : D29 r n c29 x0 r29 = (K2 (s29 r n) 0 1) :=
 (dIl r n).trans
 ((by kernel_rfl))
theorem dIc : aF CF r n 29 args h = s29 r n (aS args 0) (aS args 1) h :=
 (by kernel_rfl : aF CF r n 29 args h = D29 r n c29 x0 r29 (aI args) h).trans ((congrFun (congrFun (dPw r n) (aI args)) h).trans (by kernel_rfl))
noncomputable def s30 (r : RT) (n : Nat) (x0 x1 : DV) (h0 : Hp) : aH :=
 bnd (aD .lss x1 (aE 0) h0) fun v1 h1 =>
 bnd (gD v1 false (some (x1, h1)) h1) fun v2 h2 =>
 bnd (gD v1 false (aD .geq v2 (aE 16) h2) h2) fun v3 h3 =>
 bnd (aR v1 (.b true) v3 h3) fun v4 h4 =>
 aP v4 (
 some ((aE 0), h4)) (
 bnd (aO x0 h4) fun v5 h5 =>
 bnd (aB 1 v5 h5) fun v6 h6 =>
 bnd (aA v6 h6) fun v7 h7 =>
 bnd (aD .add (aE 2) x1 h7) fun v8 h8 =>
 bnd (aJ 1 v7 v8 h8) fun v9 h9 =>
 bnd (aA v9 h9) fun v10 h10 =>
 some (v10, h10))
noncomputable abbrev c30 : Code := cf Tryz.f30
noncomputable abbrev r30 : K := aQ CF Tryz.f30
noncomputable def D30 (r : RT) (n : Nat) (c : Code) (X : Nat → K) (k : K) : K := aM CF r 19 n c X r30 k
theorem dLk : D30 r n c30 x0 r30 = (K2 (s30 r n) 0 1) :=
 (by kernel_rfl)
theorem bRf : aF CF r n 30 args h = s30 r n (aS args 0) (aS args 1) h :=
 (by kernel_rfl : aF CF r n 30 args h = D30 r n c30 x0 r30 (aI args) h).trans ((congrFun (congrFun (dLk r n) (aI args)) h).trans (by kernel_rfl))
noncomputable def s32 (r : RT) (n : Nat) (x0 x1 : DV) (h0 : Hp) : aH :=
 bnd (r 67 [x0, x1] h0) fun v1 h1 =>
 bnd (gS .not v1 h1) fun v2 h2 =>
 aP v2 (
 some ((.i .i64 (Int.negSucc 0)), h2)) (
 bnd (r 51 [x0, x1, (aE 5)] h2) fun v3 h3 =>
 bnd (kT [v3] h3) fun v4 h4 =>
 some (v4, h4))
noncomputable abbrev c32 : Code := cf Tryz.f32
noncomputable abbrev r32 : K := aQ CF Tryz.f32
noncomputable def D32 (r : RT) (n : Nat) (c : Code) (X : Nat → K) (k : K) : K := aM CF r 13 n c X r32 k
theorem dPn : D32 r n c32 x0 r32 = (K2 (s32 r n) 0 1) :=
 (by kernel_rfl)
theorem dJr : aF CF r n 32 args h = s32 r n (aS args 0) (aS args 1) h :=
 (by kernel_rfl : aF CF r n 32 args h = D32 r n c32 x0 r32 (aI args) h).trans ((congrFun (congrFun (dPn r n) (aI args)) h).trans (by kernel_rfl))
noncomputable def fW (r : RT) (n : Nat) (x7 : DV) (h0 : Hp) : aH :=
 bnd (gK x7 h0) fun v1 h1 =>
 some (.t [v1, (.b true)], h1)
noncomputable def aNo (r : RT) (n : Nat) (kk7 : cD) (x0 x1 x7 x48 x49 : DV) (h0 : Hp) : aH :=
 bnd (aD .lss x49 x48 h0) fun v1 h1 =>
 aP v1 (
 bnd (r 51 [x0, x1, x49] h1) fun v2 h2 =>
 bnd (dW .u8 v2 h2) fun v3 h3 =>
 bnd (aL [(.i .u8 (Int.ofNat 0))] 1 [(0, 1, v3)] h3) fun v4 h4 =>
 bnd (aZ 1 1 x7 v4 h4) fun v5 h5 =>
 bnd (aD .add x49 (aE 1) h5) fun v6 h6 =>
      kk7 x0 x1 v5 x48 v6 h6) (
      fW r n x7 h1)
noncomputable def aAz (r : RT) (n : Nat) (m : Nat) : cD :=
 Nat.rec (motive := fun _ => cD) (fun _ _ _ _ _ _ => none) (fun _ ih => aNo r n ih) m
noncomputable def cRj (r : RT) (n : Nat) : cD := aAz r n n
noncomputable def bIp (r : RT) (n : Nat) (x0 x1 x7 x48 x49 : DV) (h0 : Hp) : aH :=
 cRj r n x0 x1 x7 x48 x49 h0
noncomputable def bMh (r : RT) (n : Nat) (x0 x1 x7 : DV) (h0 : Hp) : aH :=
 bnd (aO x0 h0) fun v1 h1 =>
 bnd (aB 0 v1 h1) fun v2 h2 =>
 bnd (aA v2 h2) fun v3 h3 =>
 bnd (fZ [v3, x1] h3) fun v4 h4 =>
  bIp r n x0 x1 x7 v4 (aE 0) h4
noncomputable def bWd (r : RT) (n : Nat) (x0 x1 : DV) (h0 : Hp) : aH :=
 bMh r n x0 x1 .l0 h0
noncomputable def cAz (r : RT) (n : Nat) (x0 x1 x6 : DV) (h0 : Hp) : aH :=
 bnd (aO x0 h0) fun v1 h1 =>
 bnd (aB 0 v1 h1) fun v2 h2 =>
 bnd (aA v2 h2) fun v3 h3 =>
 bnd (isF [v3, x1] h3) fun v4 h4 =>
 bnd (gS .not v4 h4) fun v5 h5 =>
 bnd (gD v5 false (some (x6, h5)) h5) fun v6 h6 =>
 bnd (gD v5 false (some (x0, h6)) h6) fun v7 h7 =>
 bnd (gD v5 false (r 30 [v7, (aE 10)] h7) h7) fun v8 h8 =>
 bnd (gD v5 false (aD .neq v6 v8 h8) h8) fun v9 h9 =>
 bnd (gD v5 false (some (v9, h9)) h9) fun v10 h10 =>
 bnd (gD v10 true (some (x6, h10)) h10) fun v11 h11 =>
 bnd (gD v10 true (some (x0, h11)) h11) fun v12 h12 =>
 bnd (gD v10 true (r 30 [v12, (aE 11)] h12) h12) fun v13 h13 =>
 bnd (gD v10 true (aD .neq v11 v13 h13) h13) fun v14 h14 =>
 bnd (gD v5 false (aR v10 v14 (.b false) h14) h14) fun v15 h15 =>
 bnd (aR v5 (.b true) v15 h15) fun v16 h16 =>
 bnd (gD v16 false (some (x0, h16)) h16) fun v17 h17 =>
 bnd (gD v16 false (aO v17 h17) h17) fun v18 h18 =>
 bnd (gD v16 false (aB 0 v18 h18) h18) fun v19 h19 =>
 bnd (gD v16 false (aA v19 h19) h19) fun v20 h20 =>
 bnd (gD v16 false (some (x1, h20)) h20) fun v21 h21 =>
 bnd (gD v16 false (mW [v20, v21] h21) h21) fun v22 h22 =>
 bnd (gD v16 false (aD .neq v22 (aE 2) h22) h22) fun v23 h23 =>
 bnd (aR v16 (.b true) v23 h23) fun v24 h24 =>
 aP v24 (
 some (.t [(.s []), (.b false)], h24)) (
  bWd r n x0 x1 h24)
noncomputable def bLt (r : RT) (n : Nat) (x0 x1 : DV) (h0 : Hp) : aH :=
 bnd (aO x0 h0) fun v1 h1 =>
 bnd (aB 0 v1 h1) fun v2 h2 =>
 bnd (aA v2 h2) fun v3 h3 =>
 bnd (lT [v3, x1] h3) fun v4 h4 =>
  cAz r n x0 x1 v4 h4
noncomputable def s33 (r : RT) (n : Nat) (x0 x1 : DV) (h0 : Hp) : aH :=
 bLt r n x0 x1 h0
noncomputable abbrev c33 : Code := cf Tryz.f33
noncomputable abbrev aZj : Code := cR c33
noncomputable abbrev aUh : Code := cR aZj
noncomputable abbrev aWm : Code := cR aUh
noncomputable abbrev aVj : Code := cR aWm
noncomputable abbrev dFu : Code := cR aVj
noncomputable abbrev aKj : Code := cL aVj
noncomputable abbrev bLk : Code := cR aKj
noncomputable abbrev aVg : Code := cL bLk
noncomputable abbrev rE : Code := cL aVg
noncomputable abbrev bZm : Code := cL aKj
noncomputable abbrev bSs : Code := cL aWm
noncomputable abbrev bWf : Code := cL aUh
noncomputable abbrev bXa : Code := cL aZj
noncomputable abbrev bUs : Code := cL c33
noncomputable abbrev r33 : K := aQ CF Tryz.f33
noncomputable def D33 (r : RT) (n : Nat) (c : Code) (X : Nat → K) (k : K) : K := aM CF r 63 n c X r33 k
theorem cXl : D33 r n dFu x0 r33 = (K1 (fW r n) 7) :=
 (by kernel_rfl)
theorem cPg (kk7 : cD) (q0 : TT1) : D33 r n rE (xs x0 0 (K1 q0 7)) (K5 kk7 0 1 7 48 49) = fun (env : aU) (h : Hp) =>
 bnd (aD .lss (env 49) (env 48) h) fun v1 h1 =>
 aP v1 (
 bnd (r 51 [(env 0), (env 1), (env 49)] h1) fun v2 h2 =>
 bnd (dW .u8 v2 h2) fun v3 h3 =>
 bnd (aL [(.i .u8 (Int.ofNat 0))] 1 [(0, 1, v3)] h3) fun v4 h4 =>
 bnd (aZ 1 1 (env 7) v4 h4) fun v5 h5 =>
 bnd (aD .add (env 49) (aE 1) h5) fun v6 h6 =>
      kk7 (env 0) (env 1) v5 (env 48) v6 h6) (
      q0 (env 7) h1) := by kernel_rfl
theorem bKv (kk7 : cD) : (fun (env : aU) (h : Hp) =>
 bnd (aD .lss (env 49) (env 48) h) fun v1 h1 =>
 aP v1 (
 bnd (r 51 [(env 0), (env 1), (env 49)] h1) fun v2 h2 =>
 bnd (dW .u8 v2 h2) fun v3 h3 =>
 bnd (aL [(.i .u8 (Int.ofNat 0))] 1 [(0, 1, v3)] h3) fun v4 h4 =>
 bnd (aZ 1 1 (env 7) v4 h4) fun v5 h5 =>
 bnd (aD .add (env 49) (aE 1) h5) fun v6 h6 =>
      kk7 (env 0) (env 1) v5 (env 48) v6 h6) (
      fW r n (env 7) h1)) = (K5 (aNo r n kk7) 0 1 7 48 49) := by kernel_rfl
theorem cFm (kk7 : cD) : D33 r n rE (xs x0 0 (K1 (fW r n) 7)) (K5 kk7 0 1 7 48 49) = (K5 (aNo r n kk7) 0 1 7 48 49) :=
 (cPg r n kk7 (fW r n)).trans (bKv r n kk7)
theorem cMn (m : Nat) : aN (fun kk => D33 r n rE (xs x0 0 (K1 (fW r n) 7)) kk) m = (K5 (aAz r n m) 0 1 7 48 49) := by
 induction m with
 | zero => exact (by kernel_rfl : aN (fun kk => D33 r n rE (xs x0 0 (K1 (fW r n) 7)) kk) 0 = (K5 (aAz r n 0) 0 1 7 48 49))
 | succ m ih =>
  refine (by kernel_rfl : aN (fun kk => D33 r n rE (xs x0 0 (K1 (fW r n) 7)) kk) (m + 1) = D33 r n rE (xs x0 0 (K1 (fW r n) 7)) (aN (fun kk => D33 r n rE (xs x0 0 (K1 (fW r n) 7)) kk) m)).trans ?_
  rw [ih]
  exact (cFm r n (aAz r n m)).trans (by kernel_rfl)
theorem cSw : D33 r n aVg (xs x0 0 (K1 (fW r n) 7)) (K1 (fW r n) 7) = (K5 (cRj r n) 0 1 7 48 49) :=
 (by kernel_rfl : D33 r n aVg (xs x0 0 (K1 (fW r n) 7)) (K1 (fW r n) 7) = aN (fun kk => D33 r n rE (xs x0 0 (K1 (fW r n) 7)) kk) n).trans ((cMn r n n).trans (by kernel_rfl))
theorem cVh : D33 r n bLk x0 (K1 (fW r n) 7) = (K5 (bIp r n) 0 1 7 48 49) :=
 (by kernel_rfl : D33 r n bLk x0 (K1 (fW r n) 7) = D33 r n aVg (xs x0 0 (K1 (fW r n) 7)) (K1 (fW r n) 7)).trans
 ((cSw r n).trans (by kernel_rfl))
theorem cHv : D33 r n aVj x0 r33 = D33 r n aKj x0 (K1 (fW r n) 7) :=
 congrArg (fun k => D33 r n aKj x0 k) (cXl r n)
theorem cPm : D33 r n aKj x0 (K1 (fW r n) 7) = D33 r n bZm x0 (K5 (bIp r n) 0 1 7 48 49) :=
 congrArg (fun k => D33 r n bZm x0 k) (cVh r n)
theorem cVi : D33 r n aVj x0 r33 = (K3 (bMh r n) 0 1 7) :=
 (cHv r n).trans
 ((cPm r n).trans
 ((by kernel_rfl)))
theorem cDq : D33 r n aWm x0 r33 = D33 r n bSs x0 (K3 (bMh r n) 0 1 7) :=
 congrArg (fun k => D33 r n bSs x0 k) (cVi r n)
theorem cWx : D33 r n aWm x0 r33 = (K2 (bWd r n) 0 1) :=
 (cDq r n).trans
 ((by kernel_rfl))
theorem cPa : D33 r n aUh x0 r33 = D33 r n bWf x0 (K2 (bWd r n) 0 1) :=
 congrArg (fun k => D33 r n bWf x0 k) (cWx r n)
theorem cUw : D33 r n aUh x0 r33 = (K3 (cAz r n) 0 1 6) :=
 (cPa r n).trans
 ((by kernel_rfl))
theorem cEh : D33 r n aZj x0 r33 = D33 r n bXa x0 (K3 (cAz r n) 0 1 6) :=
 congrArg (fun k => D33 r n bXa x0 k) (cUw r n)
theorem cSh : D33 r n aZj x0 r33 = (K2 (bLt r n) 0 1) :=
 (cEh r n).trans
 ((by kernel_rfl))
theorem dEz : D33 r n c33 x0 r33 = D33 r n bUs x0 (K2 (bLt r n) 0 1) :=
 congrArg (fun k => D33 r n bUs x0 k) (cSh r n)
theorem dNz : D33 r n c33 x0 r33 = (K2 (s33 r n) 0 1) :=
 (dEz r n).trans
 ((by kernel_rfl))
theorem dJh : aF CF r n 33 args h = s33 r n (aS args 0) (aS args 1) h :=
 (by kernel_rfl : aF CF r n 33 args h = D33 r n c33 x0 r33 (aI args) h).trans ((congrFun (congrFun (dNz r n) (aI args)) h).trans (by kernel_rfl))
noncomputable def s34 (r : RT) (n : Nat) (x0 x1 : DV) (h0 : Hp) : aH :=
 bnd (r 67 [x0, x1] h0) fun v1 h1 =>
 bnd (gS .not v1 h1) fun v2 h2 =>
 aP v2 (
 some ((.s []), h2)) (
 bnd (r 51 [x0, x1, (aE 0)] h2) fun v3 h3 =>
 bnd (r 33 [x0, v3] h3) fun v4 h4 =>
 bnd (aC 0 v4 h4) fun v5 h5 =>
 bnd (aC 1 v4 h5) fun v6 h6 =>
 some (v5, h6))
noncomputable abbrev c34 : Code := cf Tryz.f34
noncomputable abbrev r34 : K := aQ CF Tryz.f34
noncomputable def D34 (r : RT) (n : Nat) (c : Code) (X : Nat → K) (k : K) : K := aM CF r 20 n c X r34 k
theorem dOf : D34 r n c34 x0 r34 = (K2 (s34 r n) 0 1) :=
 (by kernel_rfl)
theorem dFs : aF CF r n 34 args h = s34 r n (aS args 0) (aS args 1) h :=
 (by kernel_rfl : aF CF r n 34 args h = D34 r n c34 x0 r34 (aI args) h).trans ((congrFun (congrFun (dOf r n) (aI args)) h).trans (by kernel_rfl))
noncomputable def s35 (r : RT) (n : Nat) (x0 x1 : DV) (h0 : Hp) : aH :=
 bnd (r 67 [x0, x1] h0) fun v1 h1 =>
 bnd (gS .not v1 h1) fun v2 h2 =>
 aP v2 (
 some ((aE 0), h2)) (
 bnd (r 51 [x0, x1, (aE 1)] h2) fun v3 h3 =>
 some (v3, h3))
noncomputable abbrev c35 : Code := cf Tryz.f35
noncomputable abbrev r35 : K := aQ CF Tryz.f35
noncomputable def D35 (r : RT) (n : Nat) (c : Code) (X : Nat → K) (k : K) : K := aM CF r 12 n c X r35 k
theorem dLn : D35 r n c35 x0 r35 = (K2 (s35 r n) 0 1) :=
 (by kernel_rfl)
theorem dFe : aF CF r n 35 args h = s35 r n (aS args 0) (aS args 1) h :=
 (by kernel_rfl : aF CF r n 35 args h = D35 r n c35 x0 r35 (aI args) h).trans ((congrFun (congrFun (dLn r n) (aI args)) h).trans (by kernel_rfl))
noncomputable def s36 (r : RT) (n : Nat) (x0 : DV) (h0 : Hp) : aH :=
 bnd (aO x0 h0) fun v1 h1 =>
 bnd (aB 2 v1 h1) fun v2 h2 =>
 bnd (aA v2 h2) fun v3 h3 =>
 some (v3, h3)
noncomputable abbrev c36 : Code := cf Tryz.f36
noncomputable abbrev r36 : K := aQ CF Tryz.f36
noncomputable def D36 (r : RT) (n : Nat) (c : Code) (X : Nat → K) (k : K) : K := aM CF r 7 n c X r36 k
theorem dOk : D36 r n c36 x0 r36 = (K1 (s36 r n) 0) :=
 (by kernel_rfl)
theorem cRb : aF CF r n 36 args h = s36 r n (aS args 0) h :=
 (by kernel_rfl : aF CF r n 36 args h = D36 r n c36 x0 r36 (aI args) h).trans ((congrFun (congrFun (dOk r n) (aI args)) h).trans (by kernel_rfl))
end Go.Dd

namespace Go.Dd
open Go.Proofs
variable (r : RT) (n : Nat) (args : List DV) (h : Hp)
noncomputable def s37 (r : RT) (n : Nat) (x0 x1 : DV) (h0 : Hp) : aH :=
 bnd (r 67 [x0, x1] h0) fun v1 h1 =>
 bnd (gS .not v1 h1) fun v2 h2 =>
 aP v2 (
 some ((aE 0), h2)) (
 bnd (r 51 [x0, x1, (aE 2)] h2) fun v3 h3 =>
 bnd (kT [v3] h3) fun v4 h4 =>
 some (v4, h4))
noncomputable abbrev c37 : Code := cf Tryz.f37
noncomputable abbrev r37 : K := aQ CF Tryz.f37
noncomputable def D37 (r : RT) (n : Nat) (c : Code) (X : Nat → K) (k : K) : K := aM CF r 13 n c X r37 k
theorem dLw : D37 r n c37 x0 r37 = (K2 (s37 r n) 0 1) :=
 (by kernel_rfl)
theorem dId : aF CF r n 37 args h = s37 r n (aS args 0) (aS args 1) h :=
 (by kernel_rfl : aF CF r n 37 args h = D37 r n c37 x0 r37 (aI args) h).trans ((congrFun (congrFun (dLw r n) (aI args)) h).trans (by kernel_rfl))
noncomputable def cM (r : RT) (n : Nat) (h0 : Hp) : aH :=
 some ((.i .i64 (Int.negSucc 0)), h0)
noncomputable def aMs (r : RT) (n : Nat) (x24 : DV) (h0 : Hp) : aH :=
 aP x24 (
 some ((aE 2), h0)) (
  cM r n h0)
noncomputable def bMk (r : RT) (n : Nat) (x3 : DV) (h0 : Hp) : aH :=
 bnd (aD .eql x3 (aE 21) h0) fun v1 h1 =>
 aP v1 (
  aMs r n v1 h1) (
 bnd (aD .eql x3 (aE 51) h1) fun v2 h2 =>
  aMs r n v2 h2)
noncomputable def iP (r : RT) (n : Nat) (x3 x10 : DV) (h0 : Hp) : aH :=
 aP x10 (
 some ((aE 1), h0)) (
  bMk r n x3 h0)
noncomputable def bIb (r : RT) (n : Nat) (x3 : DV) (h0 : Hp) : aH :=
 bnd (aD .eql x3 (aE 1) h0) fun v1 h1 =>
 aP v1 (
  iP r n x3 v1 h1) (
 bnd (aD .eql x3 (aE 2) h1) fun v2 h2 =>
 aP v2 (
   iP r n x3 v2 h2) (
 bnd (aD .eql x3 (aE 3) h2) fun v3 h3 =>
 aP v3 (
    iP r n x3 v3 h3) (
 bnd (aD .eql x3 (aE 4) h3) fun v4 h4 =>
 aP v4 (
     iP r n x3 v4 h4) (
 bnd (aD .eql x3 (aE 5) h4) fun v5 h5 =>
 aP v5 (
      iP r n x3 v5 h5) (
 bnd (aD .eql x3 (aE 6) h5) fun v6 h6 =>
 aP v6 (
       iP r n x3 v6 h6) (
 bnd (aD .eql x3 (aE 7) h6) fun v7 h7 =>
 aP v7 (
        iP r n x3 v7 h7) (
 bnd (aD .eql x3 (aE 10) h7) fun v8 h8 =>
 aP v8 (
         iP r n x3 v8 h8) (
 bnd (aD .eql x3 (aE 20) h8) fun v9 h9 =>
 aP v9 (
          iP r n x3 v9 h9) (
 bnd (aD .eql x3 (aE 24) h9) fun v10 h10 =>
 aP v10 (
           iP r n x3 v10 h10) (
 bnd (aD .eql x3 (aE 25) h10) fun v11 h11 =>
 aP v11 (
            iP r n x3 v11 h11) (
 bnd (aD .eql x3 (aE 26) h11) fun v12 h12 =>
 aP v12 (
             iP r n x3 v12 h12) (
 bnd (aD .eql x3 (aE 50) h12) fun v13 h13 =>
             iP r n x3 v13 h13))))))))))))
noncomputable def rP (r : RT) (n : Nat) (x3 x4 : DV) (h0 : Hp) : aH :=
 aP x4 (
 some ((aE 0), h0)) (
  bIb r n x3 h0)
noncomputable def aYu (r : RT) (n : Nat) (x3 : DV) (h0 : Hp) : aH :=
 bnd (aD .eql x3 (aE 11) h0) fun v1 h1 =>
 aP v1 (
  rP r n x3 v1 h1) (
 bnd (aD .eql x3 (aE 22) h1) fun v2 h2 =>
 aP v2 (
   rP r n x3 v2 h2) (
 bnd (aD .eql x3 (aE 23) h2) fun v3 h3 =>
 aP v3 (
    rP r n x3 v3 h3) (
 bnd (aD .eql x3 (aE 40) h3) fun v4 h4 =>
 aP v4 (
     rP r n x3 v4 h4) (
 bnd (aD .eql x3 (aE 41) h4) fun v5 h5 =>
     rP r n x3 v5 h5))))
noncomputable def aUj (r : RT) (n : Nat) (x0 : DV) (h0 : Hp) : aH :=
 aYu r n x0 h0
noncomputable def s39 (r : RT) (n : Nat) (x0 : DV) (h0 : Hp) : aH :=
 aUj r n x0 h0
noncomputable abbrev c39 : Code := cf Tryz.f39
noncomputable abbrev aYd : Code := cR c39
noncomputable abbrev dEy : Code := cR aYd
noncomputable abbrev aLl : Code := cL aYd
noncomputable abbrev bKi : Code := cR aLl
noncomputable abbrev aWe : Code := cL bKi
noncomputable abbrev aMl : Code := cR aWe
noncomputable abbrev aKq : Code := cR aMl
noncomputable abbrev aJz : Code := cR aKq
noncomputable abbrev aKa : Code := cR aJz
noncomputable abbrev cTv : Code := cR aKa
noncomputable abbrev bGt : Code := cL aKa
noncomputable abbrev dBn : Code := cL aJz
noncomputable abbrev bTe : Code := cL aKq
noncomputable abbrev cZe : Code := cL aMl
noncomputable abbrev bTl : Code := cL aWe
noncomputable abbrev bRg : Code := cL aLl
noncomputable abbrev bPg : Code := cL c39
noncomputable abbrev r39 : K := aQ CF Tryz.f39
noncomputable def D39 (r : RT) (n : Nat) (c : Code) (X : Nat → K) (k : K) : K := aM CF r 27 n c X r39 k
theorem cXn : D39 r n dEy x0 r39 = (K0 (cM r n)) :=
 (by kernel_rfl)
theorem cWe : D39 r n cTv (xs x0 0 (K0 (cM r n))) (K0 (cM r n)) = (K1 (aMs r n) 24) :=
 (by kernel_rfl)
theorem cIz : D39 r n aKa (xs x0 0 (K0 (cM r n))) (K0 (cM r n)) = D39 r n bGt (xs x0 0 (K0 (cM r n))) (K1 (aMs r n) 24) :=
 congrArg (fun k => D39 r n bGt (xs x0 0 (K0 (cM r n))) k) (cWe r n)
theorem cRu : D39 r n aKa (xs x0 0 (K0 (cM r n))) (K0 (cM r n)) = (K1 (bMk r n) 3) :=
 (cIz r n).trans
 ((by kernel_rfl))
theorem cTj : D39 r n aJz (xs x0 0 (K0 (cM r n))) (K0 (cM r n)) = (K2 (iP r n) 3 10) :=
 (by kernel_rfl : D39 r n aJz (xs x0 0 (K0 (cM r n))) (K0 (cM r n)) = (fun (env : aU) (h : Hp) => aP (opr env (cC aJz)) (D39 r n dBn (xs x0 0 (K0 (cM r n))) (K0 (cM r n)) env h) (D39 r n aKa (xs x0 0 (K0 (cM r n))) (K0 (cM r n)) env h))).trans (by rw [cRu r n]; kernel_rfl)
theorem cEg : D39 r n aKq (xs x0 0 (K0 (cM r n))) (K0 (cM r n)) = D39 r n bTe (xs x0 0 (K0 (cM r n))) (K2 (iP r n) 3 10) :=
 congrArg (fun k => D39 r n bTe (xs x0 0 (K0 (cM r n))) k) (cTj r n)
theorem dBl : D39 r n aKq (xs x0 0 (K0 (cM r n))) (K0 (cM r n)) = (K1 (bIb r n) 3) :=
 (cEg r n).trans
 ((by kernel_rfl))
theorem dDb : D39 r n aMl (xs x0 0 (K0 (cM r n))) (K0 (cM r n)) = (K2 (rP r n) 3 4) :=
 (by kernel_rfl : D39 r n aMl (xs x0 0 (K0 (cM r n))) (K0 (cM r n)) = (fun (env : aU) (h : Hp) => aP (opr env (cC aMl)) (D39 r n cZe (xs x0 0 (K0 (cM r n))) (K0 (cM r n)) env h) (D39 r n aKq (xs x0 0 (K0 (cM r n))) (K0 (cM r n)) env h))).trans (by rw [dBl r n]; kernel_rfl)
theorem cKc : D39 r n aWe (xs x0 0 (K0 (cM r n))) (K0 (cM r n)) = D39 r n bTl (xs x0 0 (K0 (cM r n))) (K2 (rP r n) 3 4) :=
 congrArg (fun k => D39 r n bTl (xs x0 0 (K0 (cM r n))) k) (dDb r n)
theorem cVj : D39 r n bKi x0 (K0 (cM r n)) = (K1 (aYu r n) 3) :=
 (by kernel_rfl : D39 r n bKi x0 (K0 (cM r n)) = D39 r n aWe (xs x0 0 (K0 (cM r n))) (K0 (cM r n))).trans
 ((cKc r n).trans
 ((by kernel_rfl)))
theorem cEn : D39 r n aYd x0 r39 = D39 r n aLl x0 (K0 (cM r n)) :=
 congrArg (fun k => D39 r n aLl x0 k) (cXn r n)
theorem cDk : D39 r n aLl x0 (K0 (cM r n)) = D39 r n bRg x0 (K1 (aYu r n) 3) :=
 congrArg (fun k => D39 r n bRg x0 k) (cVj r n)
theorem dDi : D39 r n aYd x0 r39 = (K1 (aUj r n) 0) :=
 (cEn r n).trans
 ((cDk r n).trans
 ((by kernel_rfl)))
theorem dHj : D39 r n c39 x0 r39 = D39 r n bPg x0 (K1 (aUj r n) 0) :=
 congrArg (fun k => D39 r n bPg x0 k) (dDi r n)
theorem dQe : D39 r n c39 x0 r39 = (K1 (s39 r n) 0) :=
 (dHj r n).trans
 ((by kernel_rfl))
theorem cQo : aF CF r n 39 args h = s39 r n (aS args 0) h :=
 (by kernel_rfl : aF CF r n 39 args h = D39 r n c39 x0 r39 (aI args) h).trans ((congrFun (congrFun (dQe r n) (aI args)) h).trans (by kernel_rfl))
noncomputable def eV (r : RT) (n : Nat) (x5 : DV) (h0 : Hp) : aH :=
 some (.t [x5, (aE 0)], h0)
noncomputable def jP (r : RT) (n : Nat) (kk9 : dH) (x5 x155 x156 x157 : DV) (h0 : Hp) : aH :=
 bnd (aD .lss x157 x156 h0) fun v1 h1 =>
 aP v1 (
 bnd (aJ 1 x155 x157 h1) fun v2 h2 =>
 bnd (aA v2 h2) fun v3 h3 =>
 bnd (aJ 1 v3 (aE 0) h3) fun v4 h4 =>
 bnd (aA v4 h4) fun v5 h5 =>
 bnd (aJ 1 v3 (aE 1) h5) fun v6 h6 =>
 bnd (aA v6 h6) fun v7 h7 =>
 bnd (r 75 [x5, v5, v7] h7) fun v8 h8 =>
 bnd (aC 0 v8 h8) fun v9 h9 =>
 bnd (aC 1 v8 h9) fun v10 h10 =>
 bnd (aC 2 v8 h10) fun v11 h11 =>
 bnd (aC 3 v8 h11) fun v12 h12 =>
 bnd (aD .neq v12 (aE 0) h12) fun v13 h13 =>
 aP v13 (
 some (.t [.p0, v12], h13)) (
 bnd (aD .add x157 (aE 1) h13) fun v14 h14 =>
    kk9 x5 x155 x156 v14 h14)) (
      eV r n x5 h1)
noncomputable def jT (r : RT) (n : Nat) (m : Nat) : dH :=
 Nat.rec (motive := fun _ => dH) (fun _ _ _ _ _ => none) (fun _ ih => jP r n ih) m
noncomputable def bBu (r : RT) (n : Nat) : dH := jT r n n
noncomputable def bQe (r : RT) (n : Nat) (x5 x155 x156 x157 : DV) (h0 : Hp) : aH :=
 bBu r n x5 x155 x156 x157 h0
noncomputable def bF (r : RT) (n : Nat) (x5 : DV) (h0 : Hp) : aH :=
 bnd (r 74 [] h0) fun v1 h1 =>
 bnd (bV v1 h1) fun v2 h2 =>
  bQe r n x5 v1 v2 (aE 0) h2
noncomputable def bA (r : RT) (n : Nat) (kk11 : cD) (x4 x5 x59 x60 x61 : DV) (h0 : Hp) : aH :=
 bnd (aD .add x61 (aE 1) h0) fun v1 h1 =>
  kk11 x4 x5 x59 x60 v1 h1
noncomputable def eL (r : RT) (n : Nat) (kk11 : cD) (x4 x5 x8 x9 x59 x60 x61 : DV) (h0 : Hp) : aH :=
 bnd (aO x5 h0) fun v1 h1 =>
 bnd (aB 1 v1 h1) fun v2 h2 =>
 bnd (aA v2 h2) fun v3 h3 =>
 bnd (aO x5 h3) fun v4 h4 =>
 bnd (aB 1 v4 h4) fun v5 h5 =>
 bnd (aA v5 h5) fun v6 h6 =>
 bnd (aJ 1 v6 (aE 1) h6) fun v7 h7 =>
 bnd (aA v7 h7) fun v8 h8 =>
 bnd (r 73 [x5, x9, v8] h8) fun v9 h9 =>
 cnd (bH (aA v2 h9) v3 && true) (
 bnd (aC 0 v9 h9) fun v10 h10 =>
 bnd (aC 1 v9 h10) fun v11 h11 =>
 bnd (aJ 1 v3 (aE 1) h11) fun v12 h12 =>
 bnd (aG 1 v12 v10 h12) fun v13 h13 =>
 bnd (aO x5 h13) fun v14 h14 =>
 bnd (aB 3 v14 h14) fun v15 h15 =>
 bnd (aA v15 h15) fun v16 h16 =>
 bnd (aB 0 x8 h16) fun v17 h17 =>
 bnd (aA v17 h17) fun v18 h18 =>
 bnd (fY .string v16 v18 x9 h18) fun v19 h19 =>
  bA r n kk11 x4 x5 x59 x60 x61 h19)
noncomputable def aXd (r : RT) (n : Nat) (kk11 : cD) (kk25 : aPr) (x4 x5 x8 x9 x59 x60 x61 x117 x118 x119 : DV) (h0 : Hp) : aH :=
 bnd (aD .lss x119 x118 h0) fun v1 h1 =>
 aP v1 (
 bnd (aJ 1 x117 x119 h1) fun v2 h2 =>
 bnd (aA v2 h2) fun v3 h3 =>
 bnd (uT [x4, x9, x119, v3] h3) fun v4 h4 =>
 bnd (aD .add x119 (aE 1) h4) fun v5 h5 =>
      kk25 x4 x5 x8 x9 x59 x60 x61 x117 x118 v5 h5) (
      eL r n kk11 x4 x5 x8 x9 x59 x60 x61 h1)
noncomputable def sJ (r : RT) (n : Nat) (kk11 : cD) (m : Nat) : aPr :=
 Nat.rec (motive := fun _ => aPr) (fun _ _ _ _ _ _ _ _ _ _ _ => none) (fun _ ih => aXd r n kk11 ih) m
noncomputable def bMm (r : RT) (n : Nat) (kk11 : cD) : aPr := sJ r n kk11 n
noncomputable def vU (r : RT) (n : Nat) (kk11 : cD) (x4 x5 x8 x9 x59 x60 x61 x117 x118 x119 : DV) (h0 : Hp) : aH :=
 bMm r n kk11 x4 x5 x8 x9 x59 x60 x61 x117 x118 x119 h0
noncomputable def aJt (r : RT) (n : Nat) (kk11 : cD) (x4 x5 x8 x9 x10 x12 x13 x19 x59 x60 x61 : DV) (h0 : Hp) : aH :=
 bnd (r 71 [x13] (resv 1 h0)) fun v1 h1 =>
 bnd (aB 2 x8 h1) fun v2 h2 =>
 bnd (aA v2 h2) fun v3 h3 =>
 cnd (bH (aA v2 (resv 1 h0)) v3 && true) (
 bnd (r 71 [v3] h3) fun v4 h4 =>
 bnd (bK (bW 0 h0.next) [(aE 0), (aE 0), (aE 0), (aE 0), (aE 0), (aE 0)] 6 [(0, 1, x10), (1, 1, x12), (2, 1, v1), (3, 1, x19), (4, 1, (aE 0)), (5, 1, v4)] h4) fun v5 h5 =>
 bnd (bV v5 h5) fun v6 h6 =>
  vU r n kk11 x4 x5 x8 x9 x59 x60 x61 v5 v6 (aE 0) h6)
noncomputable def nW (r : RT) (n : Nat) (kk11 : cD) (x4 x5 x8 x9 x10 x12 x13 x14 x59 x60 x61 : DV) (h0 : Hp) : aH :=
 bnd (r 46 [x5, x14] h0) fun v1 h1 =>
 bnd (aC 0 v1 h1) fun v2 h2 =>
 bnd (aC 1 v1 h2) fun v3 h3 =>
  aJt r n kk11 x4 x5 x8 x9 x10 x12 x13 v2 x59 x60 x61 h3
noncomputable def xN (r : RT) (n : Nat) (kk11 : cD) (x4 x5 x7 x8 x9 x10 x12 x13 x14 x59 x60 x61 : DV) (h0 : Hp) : aH :=
 bnd (aD .eql x7 (aE 15) h0) fun v1 h1 =>
 aP v1 (
 bnd (r 44 [x5, (.s [115, 101, 108, 101, 99, 116, 111, 114])] h1) fun v2 h2 =>
 bnd (aC 0 v2 h2) fun v3 h3 =>
 bnd (aC 1 v2 h3) fun v4 h4 =>
 bnd (r 44 [x5, (.s [97, 114, 103, 117, 109, 101, 110, 116, 115])] h4) fun v5 h5 =>
 bnd (aC 0 v5 h5) fun v6 h6 =>
 bnd (aC 1 v5 h6) fun v7 h7 =>
 bnd (aL [(aE 0), (aE 0)] 2 [(0, 1, v3), (1, 1, v6)] h7) fun v8 h8 =>
  nW r n kk11 x4 x5 x8 x9 x10 x12 (aE 2) v8 x59 x60 x61 h8) (
  nW r n kk11 x4 x5 x8 x9 x10 x12 x13 x14 x59 x60 x61 h1)
noncomputable def aSb (r : RT) (n : Nat) (kk11 : cD) (x4 x5 x7 x8 x9 x10 x12 x13 x14 x59 x60 x61 : DV) (h0 : Hp) : aH :=
 bnd (aB 1 x8 h0) fun v1 h1 =>
 bnd (aA v1 h1) fun v2 h2 =>
 bnd (aD .geq v2 (aE 0) h2) fun v3 h3 =>
 aP v3 (
 bnd (aB 1 x8 h3) fun v4 h4 =>
 bnd (aA v4 h4) fun v5 h5 =>
 bnd (r 30 [x5, v5] h5) fun v6 h6 =>
  xN r n kk11 x4 x5 x7 x8 x9 x10 v6 x13 x14 x59 x60 x61 h6) (
  xN r n kk11 x4 x5 x7 x8 x9 x10 x12 x13 x14 x59 x60 x61 h3)
noncomputable def aQe (r : RT) (n : Nat) (kk11 : cD) (x4 x5 x7 x8 x9 x10 x59 x60 x61 : DV) (h0 : Hp) : aH :=
 aSb r n kk11 x4 x5 x7 x8 x9 x10 (aE 0) (aE 0) .l0 x59 x60 x61 h0
noncomputable def aRz (r : RT) (n : Nat) (kk11 : cD) (x4 x5 x7 x8 x9 x59 x60 x61 : DV) (h0 : Hp) : aH :=
 bnd (aB 0 x8 h0) fun v1 h1 =>
 bnd (aA v1 h1) fun v2 h2 =>
 bnd (r 44 [x5, v2] h2) fun v3 h3 =>
 bnd (aC 0 v3 h3) fun v4 h4 =>
 bnd (aC 1 v3 h4) fun v5 h5 =>
  aQe r n kk11 x4 x5 x7 x8 x9 v4 x59 x60 x61 h5
noncomputable def aQn (r : RT) (n : Nat) (kk11 : cD) (x4 x5 x7 x8 x9 x59 x60 x61 : DV) (h0 : Hp) : aH :=
 bnd (r 30 [x5, (aE 1)] h0) fun v1 h1 =>
 bnd (kC [x4, x9, v1] h1) fun v2 h2 =>
  aRz r n kk11 x4 x5 x7 x8 x9 x59 x60 x61 h2
noncomputable def xX (r : RT) (n : Nat) (kk11 : cD) (x4 x5 x7 x8 x59 x60 x61 : DV) (h0 : Hp) : aH :=
 bnd (r 30 [x5, x7] h0) fun v1 h1 =>
  aQn r n kk11 x4 x5 x7 x8 v1 x59 x60 x61 h1
noncomputable def aBd (r : RT) (n : Nat) (kk11 : cD) (x4 x5 x59 x60 x61 : DV) (h0 : Hp) : aH :=
 bnd (aJ 3 x59 x61 h0) fun v1 h1 =>
 bnd (aK 3 v1 h1) fun v2 h2 =>
 bnd (bL [(.s []), (aE 0), (aE 0)] h2) fun v3 h3 =>
 bnd (aG 3 v3 v2 h3) fun _ h4 =>
  xX r n kk11 x4 x5 x61 v3 x59 x60 x61 h4
noncomputable def aSu (r : RT) (n : Nat) (kk11 : cD) (x4 x5 x59 x60 x61 x62 : DV) (h0 : Hp) : aH :=
 aP x62 (
  aBd r n kk11 x4 x5 x59 x60 x61 h0) (
  bF r n x5 h0)
noncomputable def aWi (r : RT) (n : Nat) (kk11 : cD) (x4 x5 x59 x60 x61 : DV) (h0 : Hp) : aH :=
 bnd (aD .lss x61 x60 h0) fun v1 h1 =>
  aSu r n kk11 x4 x5 x59 x60 x61 v1 h1
noncomputable def tH (r : RT) (n : Nat) (m : Nat) : cD :=
 Nat.rec (motive := fun _ => cD) (fun _ _ _ _ _ _ => none) (fun _ ih => aWi r n ih) m
noncomputable def bLx (r : RT) (n : Nat) : cD := tH r n n
noncomputable def aPp (r : RT) (n : Nat) (x4 x5 x59 x60 x61 : DV) (h0 : Hp) : aH :=
 bLx r n x4 x5 x59 x60 x61 h0
noncomputable def gL (r : RT) (n : Nat) (x4 x5 : DV) (h0 : Hp) : aH :=
 bnd (r 69 [] h0) fun v1 h1 =>
 bnd (bV v1 h1) fun v2 h2 =>
  aPp r n x4 x5 v1 v2 (aE 0) h2
noncomputable def aVr (r : RT) (n : Nat) (kk27 : mV) (x4 x5 x43 : DV) (h0 : Hp) : aH :=
 bnd (aD .lss x43 (aE 16) h0) fun v1 h1 =>
 aP v1 (
 bnd (aO x5 h1) fun v2 h2 =>
 bnd (aB 1 v2 h2) fun v3 h3 =>
 bnd (aA v3 h3) fun v4 h4 =>
 bnd (aD .add (aE 2) x43 h4) fun v5 h5 =>
 bnd (iO [x4, (aE 0), (aE 0), (aE 6)] h5) fun v6 h6 =>
 cnd (bH (aA v3 h6) v4 && true) (
 bnd (aC 0 v6 h6) fun v7 h7 =>
 bnd (aC 1 v6 h7) fun v8 h8 =>
 bnd (aJ 1 v4 v5 h8) fun v9 h9 =>
 bnd (aG 1 v9 v7 h9) fun v10 h10 =>
 bnd (aD .add x43 (aE 1) h10) fun v11 h11 =>
      kk27 x4 x5 v11 h11)) (
      gL r n x4 x5 h1)
noncomputable def sZ (r : RT) (n : Nat) (m : Nat) : mV :=
 Nat.rec (motive := fun _ => mV) (fun _ _ _ _ => none) (fun _ ih => aVr r n ih) m
noncomputable def bNl (r : RT) (n : Nat) : mV := sZ r n n
noncomputable def aPf (r : RT) (n : Nat) (x4 x5 x43 : DV) (h0 : Hp) : aH :=
 bNl r n x4 x5 x43 h0
noncomputable def aKy (r : RT) (n : Nat) (x4 x5 : DV) (h0 : Hp) : aH :=
 aPf r n x4 x5 (aE 0) h0
noncomputable def aZm (r : RT) (n : Nat) (x4 : DV) (h0 : Hp) : aH :=
 bnd (cG 1 8 [(aE 0)] (aE 18) (aE 18) h0) fun v1 h1 =>
 bnd (dU h1) fun v2 h2 =>
 bnd (dU h2) fun v3 h3 =>
 bnd (bC [.p0, .l0, .m0, .m0] [(0, 1, x4), (1, 1, v1), (2, 1, v2), (3, 1, v3)] h3) fun v4 h4 =>
 bnd (bQ v4 h4) fun v5 h5 =>
  aKy r n x4 v5 h5
noncomputable def bXv (r : RT) (n : Nat) (x0 x4 : DV) (h0 : Hp) : aH :=
 bnd (pEq (.pointer 73) true x4 .p0 h0) fun v1 h1 =>
 aP v1 (
 some (.t [.p0, (aE 1)], h1)) (
 bnd (aD .lss x0 (aE 16384) h1) fun v2 h2 =>
 aP v2 (
 some (.t [.p0, (aE 4)], h2)) (
   aZm r n x4 h2))
noncomputable def bUt (r : RT) (n : Nat) (x0 : DV) (h0 : Hp) : aH :=
 bnd (aTo [x0] h0) fun v1 h1 =>
  bXv r n x0 v1 h1
noncomputable def s40 (r : RT) (n : Nat) (x0 : DV) (h0 : Hp) : aH :=
 bUt r n x0 h0
noncomputable abbrev c40 : Code := cf Tryz.f40
noncomputable abbrev aUs : Code := cR c40
noncomputable abbrev aZz : Code := cR aUs
noncomputable abbrev aWr : Code := cR aZz
noncomputable abbrev bAk : Code := cR aWr
noncomputable abbrev bBd : Code := cR bAk
noncomputable abbrev aVp : Code := cR bBd
noncomputable abbrev dJa : Code := cR aVp
noncomputable abbrev aJy : Code := cL aVp
noncomputable abbrev bRp : Code := cR aJy
noncomputable abbrev aCn : Code := cL bRp
noncomputable abbrev oA : Code := cL aCn
noncomputable abbrev bOq : Code := cL aJy
noncomputable abbrev vV : Code := cL bBd
noncomputable abbrev aRo : Code := cR vV
noncomputable abbrev aCa : Code := cL aRo
noncomputable abbrev jN : Code := cL aCa
noncomputable abbrev aGu : Code := cR jN
noncomputable abbrev aCe : Code := cR aGu
noncomputable abbrev cYb : Code := cR aCe
noncomputable abbrev aIe : Code := cL aCe
noncomputable abbrev aGz : Code := cL aIe
noncomputable abbrev aJd : Code := cR aGz
noncomputable abbrev aIn : Code := cR aJd
noncomputable abbrev aHe : Code := cR aIn
noncomputable abbrev aId : Code := cR aHe
noncomputable abbrev aDm : Code := cR aId
noncomputable abbrev aBu : Code := cR aDm
noncomputable abbrev aEb : Code := cR aBu
noncomputable abbrev aCd : Code := cR aEb
noncomputable abbrev cVq : Code := cR aCd
noncomputable abbrev xR : Code := cL aCd
noncomputable abbrev aNh : Code := cR xR
noncomputable abbrev aAk : Code := cL aNh
noncomputable abbrev nN : Code := cL aAk
noncomputable abbrev aNg : Code := cL xR
noncomputable abbrev bJg : Code := cL aEb
noncomputable abbrev aTa : Code := cL aBu
noncomputable abbrev bXt : Code := cL aDm
noncomputable abbrev bVp : Code := cL aId
noncomputable abbrev bHo : Code := cL aHe
noncomputable abbrev bRd : Code := cL aIn
noncomputable abbrev cAu : Code := cL aJd
noncomputable abbrev aPd : Code := cL aGz
noncomputable abbrev bVv : Code := cL aGu
noncomputable abbrev bXg : Code := cL jN
noncomputable abbrev bKl : Code := cL vV
noncomputable abbrev xJ : Code := cL bAk
noncomputable abbrev aSz : Code := cR xJ
noncomputable abbrev aIr : Code := cL aSz
noncomputable abbrev nR : Code := cL aIr
noncomputable abbrev bUf : Code := cL xJ
noncomputable abbrev aRa : Code := cL aWr
noncomputable abbrev bZb : Code := cL aZz
noncomputable abbrev bYj : Code := cL aUs
noncomputable abbrev bIl : Code := cL c40
noncomputable abbrev r40 : K := aQ CF Tryz.f40
noncomputable def D40 (r : RT) (n : Nat) (c : Code) (X : Nat → K) (k : K) : K := aM CF r 179 n c X r40 k
theorem bJd : D40 r n dJa x0 r40 = (K1 (eV r n) 5) :=
 (by kernel_rfl)
theorem aZr (kk9 : dH) : D40 r n oA (xs x0 7 (K1 (eV r n) 5)) (K4 kk9 5 155 156 157) = (K4 (jP r n kk9) 5 155 156 157) :=
 (by kernel_rfl)
theorem cNy (m : Nat) : aN (fun kk => D40 r n oA (xs x0 7 (K1 (eV r n) 5)) kk) m = (K4 (jT r n m) 5 155 156 157) := by
 induction m with
 | zero => exact (by kernel_rfl : aN (fun kk => D40 r n oA (xs x0 7 (K1 (eV r n) 5)) kk) 0 = (K4 (jT r n 0) 5 155 156 157))
 | succ m ih =>
  refine (by kernel_rfl : aN (fun kk => D40 r n oA (xs x0 7 (K1 (eV r n) 5)) kk) (m + 1) = D40 r n oA (xs x0 7 (K1 (eV r n) 5)) (aN (fun kk => D40 r n oA (xs x0 7 (K1 (eV r n) 5)) kk) m)).trans ?_
  rw [ih]
  exact (aZr r n (jT r n m)).trans (by kernel_rfl)
theorem bMb : D40 r n aCn (xs x0 7 (K1 (eV r n) 5)) (K1 (eV r n) 5) = (K4 (bBu r n) 5 155 156 157) :=
 (by kernel_rfl : D40 r n aCn (xs x0 7 (K1 (eV r n) 5)) (K1 (eV r n) 5) = aN (fun kk => D40 r n oA (xs x0 7 (K1 (eV r n) 5)) kk) n).trans ((cNy r n n).trans (by kernel_rfl))
theorem cXt : D40 r n bRp x0 (K1 (eV r n) 5) = (K4 (bQe r n) 5 155 156 157) :=
 (by kernel_rfl : D40 r n bRp x0 (K1 (eV r n) 5) = D40 r n aCn (xs x0 7 (K1 (eV r n) 5)) (K1 (eV r n) 5)).trans
 ((bMb r n).trans (by kernel_rfl))
theorem cIv : D40 r n aVp x0 r40 = D40 r n aJy x0 (K1 (eV r n) 5) :=
 congrArg (fun k => D40 r n aJy x0 k) (bJd r n)
theorem cEv : D40 r n aJy x0 (K1 (eV r n) 5) = D40 r n bOq x0 (K4 (bQe r n) 5 155 156 157) :=
 congrArg (fun k => D40 r n bOq x0 k) (cXt r n)
theorem cXd : D40 r n aVp x0 r40 = (K1 (bF r n) 5) :=
 (cIv r n).trans
 ((cEv r n).trans
 ((by kernel_rfl)))
theorem cHn (kk11 : cD) : D40 r n cYb (xs x0 3 (K1 (bF r n) 5)) (K5 kk11 4 5 59 60 61) = (K5 (bA r n kk11) 4 5 59 60 61) :=
 (by kernel_rfl)
theorem cMj (kk11 : cD) : D40 r n cVq (xs (xs x0 3 (K1 (bF r n) 5)) 4 (K5 (bA r n kk11) 4 5 59 60 61)) (K5 (bA r n kk11) 4 5 59 60 61) = (K7 (eL r n kk11) 4 5 8 9 59 60 61) :=
 (by kernel_rfl)
theorem bWs (kk11 : cD) (kk25 : aPr) : D40 r n nN (xs (xs (xs x0 3 (K1 (bF r n) 5)) 4 (K5 (bA r n kk11) 4 5 59 60 61)) 5 (K7 (eL r n kk11) 4 5 8 9 59 60 61)) (K10 kk25 4 5 8 9 59 60 61 117 118 119) = (K10 (aXd r n kk11 kk25) 4 5 8 9 59 60 61 117 118 119) :=
 (by kernel_rfl)
theorem bOk (kk11 : cD) (m : Nat) : aN (fun kk => D40 r n nN (xs (xs (xs x0 3 (K1 (bF r n) 5)) 4 (K5 (bA r n kk11) 4 5 59 60 61)) 5 (K7 (eL r n kk11) 4 5 8 9 59 60 61)) kk) m = (K10 (sJ r n kk11 m) 4 5 8 9 59 60 61 117 118 119) := by
 induction m with
 | zero => exact (by kernel_rfl : aN (fun kk => D40 r n nN (xs (xs (xs x0 3 (K1 (bF r n) 5)) 4 (K5 (bA r n kk11) 4 5 59 60 61)) 5 (K7 (eL r n kk11) 4 5 8 9 59 60 61)) kk) 0 = (K10 (sJ r n kk11 0) 4 5 8 9 59 60 61 117 118 119))
 | succ m ih =>
  refine (by kernel_rfl : aN (fun kk => D40 r n nN (xs (xs (xs x0 3 (K1 (bF r n) 5)) 4 (K5 (bA r n kk11) 4 5 59 60 61)) 5 (K7 (eL r n kk11) 4 5 8 9 59 60 61)) kk) (m + 1) = D40 r n nN (xs (xs (xs x0 3 (K1 (bF r n) 5)) 4 (K5 (bA r n kk11) 4 5 59 60 61)) 5 (K7 (eL r n kk11) 4 5 8 9 59 60 61)) (aN (fun kk => D40 r n nN (xs (xs (xs x0 3 (K1 (bF r n) 5)) 4 (K5 (bA r n kk11) 4 5 59 60 61)) 5 (K7 (eL r n kk11) 4 5 8 9 59 60 61)) kk) m)).trans ?_
  rw [ih]
  exact (bWs r n kk11 (sJ r n kk11 m)).trans (by kernel_rfl)
theorem cNs (kk11 : cD) : D40 r n aAk (xs (xs (xs x0 3 (K1 (bF r n) 5)) 4 (K5 (bA r n kk11) 4 5 59 60 61)) 5 (K7 (eL r n kk11) 4 5 8 9 59 60 61)) (K7 (eL r n kk11) 4 5 8 9 59 60 61) = (K10 (bMm r n kk11) 4 5 8 9 59 60 61 117 118 119) :=
 (by kernel_rfl : D40 r n aAk (xs (xs (xs x0 3 (K1 (bF r n) 5)) 4 (K5 (bA r n kk11) 4 5 59 60 61)) 5 (K7 (eL r n kk11) 4 5 8 9 59 60 61)) (K7 (eL r n kk11) 4 5 8 9 59 60 61) = aN (fun kk => D40 r n nN (xs (xs (xs x0 3 (K1 (bF r n) 5)) 4 (K5 (bA r n kk11) 4 5 59 60 61)) 5 (K7 (eL r n kk11) 4 5 8 9 59 60 61)) kk) n).trans ((bOk r n kk11 n).trans (by kernel_rfl))
theorem cGn (kk11 : cD) : D40 r n aNh (xs (xs x0 3 (K1 (bF r n) 5)) 4 (K5 (bA r n kk11) 4 5 59 60 61)) (K7 (eL r n kk11) 4 5 8 9 59 60 61) = (K10 (vU r n kk11) 4 5 8 9 59 60 61 117 118 119) :=
 (by kernel_rfl : D40 r n aNh (xs (xs x0 3 (K1 (bF r n) 5)) 4 (K5 (bA r n kk11) 4 5 59 60 61)) (K7 (eL r n kk11) 4 5 8 9 59 60 61) = D40 r n aAk (xs (xs (xs x0 3 (K1 (bF r n) 5)) 4 (K5 (bA r n kk11) 4 5 59 60 61)) 5 (K7 (eL r n kk11) 4 5 8 9 59 60 61)) (K7 (eL r n kk11) 4 5 8 9 59 60 61)).trans
 ((cNs r n kk11).trans (by kernel_rfl))
theorem bJv (kk11 : cD) : D40 r n aCd (xs (xs x0 3 (K1 (bF r n) 5)) 4 (K5 (bA r n kk11) 4 5 59 60 61)) (K5 (bA r n kk11) 4 5 59 60 61) = D40 r n xR (xs (xs x0 3 (K1 (bF r n) 5)) 4 (K5 (bA r n kk11) 4 5 59 60 61)) (K7 (eL r n kk11) 4 5 8 9 59 60 61) :=
 congrArg (fun k => D40 r n xR (xs (xs x0 3 (K1 (bF r n) 5)) 4 (K5 (bA r n kk11) 4 5 59 60 61)) k) (cMj r n kk11)
theorem bMq (kk11 : cD) : D40 r n xR (xs (xs x0 3 (K1 (bF r n) 5)) 4 (K5 (bA r n kk11) 4 5 59 60 61)) (K7 (eL r n kk11) 4 5 8 9 59 60 61) = D40 r n aNg (xs (xs x0 3 (K1 (bF r n) 5)) 4 (K5 (bA r n kk11) 4 5 59 60 61)) (K10 (vU r n kk11) 4 5 8 9 59 60 61 117 118 119) :=
 congrArg (fun k => D40 r n aNg (xs (xs x0 3 (K1 (bF r n) 5)) 4 (K5 (bA r n kk11) 4 5 59 60 61)) k) (cGn r n kk11)
theorem bNz (kk11 : cD) (q0 : aPr) (q1 : TT1) (q2 : cD) : D40 r n aNg (xs (xs x0 3 (K1 q1 5)) 4 (K5 q2 4 5 59 60 61)) (K10 q0 4 5 8 9 59 60 61 117 118 119) = fun (env : aU) (h : Hp) =>
 bnd (r 71 [(env 13)] (resv 1 h)) fun v1 h1 =>
 bnd (aB 2 (env 8) h1) fun v2 h2 =>
 bnd (aA v2 h2) fun v3 h3 =>
 cnd (bH (aA v2 (resv 1 h)) v3 && true) (
 bnd (r 71 [v3] h3) fun v4 h4 =>
 bnd (bK (bW 0 h.next) [(aE 0), (aE 0), (aE 0), (aE 0), (aE 0), (aE 0)] 6 [(0, 1, (env 10)), (1, 1, (env 12)), (2, 1, v1), (3, 1, (env 19)), (4, 1, (aE 0)), (5, 1, v4)] h4) fun v5 h5 =>
 bnd (bV v5 h5) fun v6 h6 =>
  q0 (env 4) (env 5) (env 8) (env 9) (env 59) (env 60) (env 61) v5 v6 (aE 0) h6) := by kernel_rfl
theorem bFv (kk11 : cD) : (fun (env : aU) (h : Hp) =>
 bnd (r 71 [(env 13)] (resv 1 h)) fun v1 h1 =>
 bnd (aB 2 (env 8) h1) fun v2 h2 =>
 bnd (aA v2 h2) fun v3 h3 =>
 cnd (bH (aA v2 (resv 1 h)) v3 && true) (
 bnd (r 71 [v3] h3) fun v4 h4 =>
 bnd (bK (bW 0 h.next) [(aE 0), (aE 0), (aE 0), (aE 0), (aE 0), (aE 0)] 6 [(0, 1, (env 10)), (1, 1, (env 12)), (2, 1, v1), (3, 1, (env 19)), (4, 1, (aE 0)), (5, 1, v4)] h4) fun v5 h5 =>
 bnd (bV v5 h5) fun v6 h6 =>
  vU r n kk11 (env 4) (env 5) (env 8) (env 9) (env 59) (env 60) (env 61) v5 v6 (aE 0) h6)) = (K11 (aJt r n kk11) 4 5 8 9 10 12 13 19 59 60 61) := by kernel_rfl
theorem cCj (kk11 : cD) : D40 r n aCd (xs (xs x0 3 (K1 (bF r n) 5)) 4 (K5 (bA r n kk11) 4 5 59 60 61)) (K5 (bA r n kk11) 4 5 59 60 61) = (K11 (aJt r n kk11) 4 5 8 9 10 12 13 19 59 60 61) :=
 (bJv r n kk11).trans
 ((bMq r n kk11).trans
 ((bNz r n kk11 (vU r n kk11) (bF r n) (bA r n kk11)).trans (bFv r n kk11)))
theorem bNs (kk11 : cD) : D40 r n aEb (xs (xs x0 3 (K1 (bF r n) 5)) 4 (K5 (bA r n kk11) 4 5 59 60 61)) (K5 (bA r n kk11) 4 5 59 60 61) = D40 r n bJg (xs (xs x0 3 (K1 (bF r n) 5)) 4 (K5 (bA r n kk11) 4 5 59 60 61)) (K11 (aJt r n kk11) 4 5 8 9 10 12 13 19 59 60 61) :=
 congrArg (fun k => D40 r n bJg (xs (xs x0 3 (K1 (bF r n) 5)) 4 (K5 (bA r n kk11) 4 5 59 60 61)) k) (cCj r n kk11)
theorem cCq (kk11 : cD) : D40 r n aEb (xs (xs x0 3 (K1 (bF r n) 5)) 4 (K5 (bA r n kk11) 4 5 59 60 61)) (K5 (bA r n kk11) 4 5 59 60 61) = (K11 (nW r n kk11) 4 5 8 9 10 12 13 14 59 60 61) :=
 (bNs r n kk11).trans
 ((by kernel_rfl))
theorem bXc (kk11 : cD) : D40 r n aBu (xs (xs x0 3 (K1 (bF r n) 5)) 4 (K5 (bA r n kk11) 4 5 59 60 61)) (K5 (bA r n kk11) 4 5 59 60 61) = D40 r n aTa (xs (xs x0 3 (K1 (bF r n) 5)) 4 (K5 (bA r n kk11) 4 5 59 60 61)) (K11 (nW r n kk11) 4 5 8 9 10 12 13 14 59 60 61) :=
 congrArg (fun k => D40 r n aTa (xs (xs x0 3 (K1 (bF r n) 5)) 4 (K5 (bA r n kk11) 4 5 59 60 61)) k) (cCq r n kk11)
theorem bRw (kk11 : cD) (q0 : dLg) (q1 : TT1) (q2 : cD) : D40 r n aTa (xs (xs x0 3 (K1 q1 5)) 4 (K5 q2 4 5 59 60 61)) (K11 q0 4 5 8 9 10 12 13 14 59 60 61) = fun (env : aU) (h : Hp) =>
 bnd (aD .eql (env 7) (aE 15) h) fun v1 h1 =>
 aP v1 (
 bnd (r 44 [(env 5), (.s [115, 101, 108, 101, 99, 116, 111, 114])] h1) fun v2 h2 =>
 bnd (aC 0 v2 h2) fun v3 h3 =>
 bnd (aC 1 v2 h3) fun v4 h4 =>
 bnd (r 44 [(env 5), (.s [97, 114, 103, 117, 109, 101, 110, 116, 115])] h4) fun v5 h5 =>
 bnd (aC 0 v5 h5) fun v6 h6 =>
 bnd (aC 1 v5 h6) fun v7 h7 =>
 bnd (aL [(aE 0), (aE 0)] 2 [(0, 1, v3), (1, 1, v6)] h7) fun v8 h8 =>
      q0 (env 4) (env 5) (env 8) (env 9) (env 10) (env 12) (aE 2) v8 (env 59) (env 60) (env 61) h8) (
      q0 (env 4) (env 5) (env 8) (env 9) (env 10) (env 12) (env 13) (env 14) (env 59) (env 60) (env 61) h1) := by kernel_rfl
theorem bDg (kk11 : cD) : (fun (env : aU) (h : Hp) =>
 bnd (aD .eql (env 7) (aE 15) h) fun v1 h1 =>
 aP v1 (
 bnd (r 44 [(env 5), (.s [115, 101, 108, 101, 99, 116, 111, 114])] h1) fun v2 h2 =>
 bnd (aC 0 v2 h2) fun v3 h3 =>
 bnd (aC 1 v2 h3) fun v4 h4 =>
 bnd (r 44 [(env 5), (.s [97, 114, 103, 117, 109, 101, 110, 116, 115])] h4) fun v5 h5 =>
 bnd (aC 0 v5 h5) fun v6 h6 =>
 bnd (aC 1 v5 h6) fun v7 h7 =>
 bnd (aL [(aE 0), (aE 0)] 2 [(0, 1, v3), (1, 1, v6)] h7) fun v8 h8 =>
      nW r n kk11 (env 4) (env 5) (env 8) (env 9) (env 10) (env 12) (aE 2) v8 (env 59) (env 60) (env 61) h8) (
      nW r n kk11 (env 4) (env 5) (env 8) (env 9) (env 10) (env 12) (env 13) (env 14) (env 59) (env 60) (env 61) h1)) = (K12 (xN r n kk11) 4 5 7 8 9 10 12 13 14 59 60 61) := by kernel_rfl
theorem cCu (kk11 : cD) : D40 r n aBu (xs (xs x0 3 (K1 (bF r n) 5)) 4 (K5 (bA r n kk11) 4 5 59 60 61)) (K5 (bA r n kk11) 4 5 59 60 61) = (K12 (xN r n kk11) 4 5 7 8 9 10 12 13 14 59 60 61) :=
 (bXc r n kk11).trans
 ((bRw r n kk11 (nW r n kk11) (bF r n) (bA r n kk11)).trans (bDg r n kk11))
theorem bHb (kk11 : cD) : D40 r n aDm (xs (xs x0 3 (K1 (bF r n) 5)) 4 (K5 (bA r n kk11) 4 5 59 60 61)) (K5 (bA r n kk11) 4 5 59 60 61) = D40 r n bXt (xs (xs x0 3 (K1 (bF r n) 5)) 4 (K5 (bA r n kk11) 4 5 59 60 61)) (K12 (xN r n kk11) 4 5 7 8 9 10 12 13 14 59 60 61) :=
 congrArg (fun k => D40 r n bXt (xs (xs x0 3 (K1 (bF r n) 5)) 4 (K5 (bA r n kk11) 4 5 59 60 61)) k) (cCu r n kk11)
theorem cBx (kk11 : cD) : D40 r n aDm (xs (xs x0 3 (K1 (bF r n) 5)) 4 (K5 (bA r n kk11) 4 5 59 60 61)) (K5 (bA r n kk11) 4 5 59 60 61) = (K12 (aSb r n kk11) 4 5 7 8 9 10 12 13 14 59 60 61) :=
 (bHb r n kk11).trans
 ((by kernel_rfl))
theorem bEe (kk11 : cD) : D40 r n aId (xs (xs x0 3 (K1 (bF r n) 5)) 4 (K5 (bA r n kk11) 4 5 59 60 61)) (K5 (bA r n kk11) 4 5 59 60 61) = D40 r n bVp (xs (xs x0 3 (K1 (bF r n) 5)) 4 (K5 (bA r n kk11) 4 5 59 60 61)) (K12 (aSb r n kk11) 4 5 7 8 9 10 12 13 14 59 60 61) :=
 congrArg (fun k => D40 r n bVp (xs (xs x0 3 (K1 (bF r n) 5)) 4 (K5 (bA r n kk11) 4 5 59 60 61)) k) (cBx r n kk11)
theorem cHg (kk11 : cD) : D40 r n aId (xs (xs x0 3 (K1 (bF r n) 5)) 4 (K5 (bA r n kk11) 4 5 59 60 61)) (K5 (bA r n kk11) 4 5 59 60 61) = (K9 (aQe r n kk11) 4 5 7 8 9 10 59 60 61) :=
 (bEe r n kk11).trans
 ((by kernel_rfl))
theorem bFs (kk11 : cD) : D40 r n aHe (xs (xs x0 3 (K1 (bF r n) 5)) 4 (K5 (bA r n kk11) 4 5 59 60 61)) (K5 (bA r n kk11) 4 5 59 60 61) = D40 r n bHo (xs (xs x0 3 (K1 (bF r n) 5)) 4 (K5 (bA r n kk11) 4 5 59 60 61)) (K9 (aQe r n kk11) 4 5 7 8 9 10 59 60 61) :=
 congrArg (fun k => D40 r n bHo (xs (xs x0 3 (K1 (bF r n) 5)) 4 (K5 (bA r n kk11) 4 5 59 60 61)) k) (cHg r n kk11)
theorem cGa (kk11 : cD) : D40 r n aHe (xs (xs x0 3 (K1 (bF r n) 5)) 4 (K5 (bA r n kk11) 4 5 59 60 61)) (K5 (bA r n kk11) 4 5 59 60 61) = (K8 (aRz r n kk11) 4 5 7 8 9 59 60 61) :=
 (bFs r n kk11).trans
 ((by kernel_rfl))
theorem bCm (kk11 : cD) : D40 r n aIn (xs (xs x0 3 (K1 (bF r n) 5)) 4 (K5 (bA r n kk11) 4 5 59 60 61)) (K5 (bA r n kk11) 4 5 59 60 61) = D40 r n bRd (xs (xs x0 3 (K1 (bF r n) 5)) 4 (K5 (bA r n kk11) 4 5 59 60 61)) (K8 (aRz r n kk11) 4 5 7 8 9 59 60 61) :=
 congrArg (fun k => D40 r n bRd (xs (xs x0 3 (K1 (bF r n) 5)) 4 (K5 (bA r n kk11) 4 5 59 60 61)) k) (cGa r n kk11)
theorem cCx (kk11 : cD) : D40 r n aIn (xs (xs x0 3 (K1 (bF r n) 5)) 4 (K5 (bA r n kk11) 4 5 59 60 61)) (K5 (bA r n kk11) 4 5 59 60 61) = (K8 (aQn r n kk11) 4 5 7 8 9 59 60 61) :=
 (bCm r n kk11).trans
 ((by kernel_rfl))
theorem bFx (kk11 : cD) : D40 r n aJd (xs (xs x0 3 (K1 (bF r n) 5)) 4 (K5 (bA r n kk11) 4 5 59 60 61)) (K5 (bA r n kk11) 4 5 59 60 61) = D40 r n cAu (xs (xs x0 3 (K1 (bF r n) 5)) 4 (K5 (bA r n kk11) 4 5 59 60 61)) (K8 (aQn r n kk11) 4 5 7 8 9 59 60 61) :=
 congrArg (fun k => D40 r n cAu (xs (xs x0 3 (K1 (bF r n) 5)) 4 (K5 (bA r n kk11) 4 5 59 60 61)) k) (cCx r n kk11)
theorem cOt (kk11 : cD) : D40 r n aJd (xs (xs x0 3 (K1 (bF r n) 5)) 4 (K5 (bA r n kk11) 4 5 59 60 61)) (K5 (bA r n kk11) 4 5 59 60 61) = (K7 (xX r n kk11) 4 5 7 8 59 60 61) :=
 (bFx r n kk11).trans
 ((by kernel_rfl))
theorem bEc (kk11 : cD) : D40 r n aCe (xs x0 3 (K1 (bF r n) 5)) (K5 kk11 4 5 59 60 61) = D40 r n aIe (xs x0 3 (K1 (bF r n) 5)) (K5 (bA r n kk11) 4 5 59 60 61) :=
 congrArg (fun k => D40 r n aIe (xs x0 3 (K1 (bF r n) 5)) k) (cHn r n kk11)
theorem bCi (kk11 : cD) : D40 r n aGz (xs (xs x0 3 (K1 (bF r n) 5)) 4 (K5 (bA r n kk11) 4 5 59 60 61)) (K5 (bA r n kk11) 4 5 59 60 61) = D40 r n aPd (xs (xs x0 3 (K1 (bF r n) 5)) 4 (K5 (bA r n kk11) 4 5 59 60 61)) (K7 (xX r n kk11) 4 5 7 8 59 60 61) :=
 congrArg (fun k => D40 r n aPd (xs (xs x0 3 (K1 (bF r n) 5)) 4 (K5 (bA r n kk11) 4 5 59 60 61)) k) (cOt r n kk11)
theorem bGd (kk11 : cD) (q0 : TT7) (q1 : TT1) (q2 : cD) : D40 r n aPd (xs (xs x0 3 (K1 q1 5)) 4 (K5 q2 4 5 59 60 61)) (K7 q0 4 5 7 8 59 60 61) = fun (env : aU) (h : Hp) =>
 bnd (aJ 3 (env 59) (env 61) h) fun v1 h1 =>
 bnd (aK 3 v1 h1) fun v2 h2 =>
 bnd (bL [(.s []), (aE 0), (aE 0)] h2) fun v3 h3 =>
 bnd (aG 3 v3 v2 h3) fun _ h4 =>
  q0 (env 4) (env 5) (env 61) v3 (env 59) (env 60) (env 61) h4 := by kernel_rfl
theorem aQv (kk11 : cD) : (fun (env : aU) (h : Hp) =>
 bnd (aJ 3 (env 59) (env 61) h) fun v1 h1 =>
 bnd (aK 3 v1 h1) fun v2 h2 =>
 bnd (bL [(.s []), (aE 0), (aE 0)] h2) fun v3 h3 =>
 bnd (aG 3 v3 v2 h3) fun _ h4 =>
  xX r n kk11 (env 4) (env 5) (env 61) v3 (env 59) (env 60) (env 61) h4) = (K5 (aBd r n kk11) 4 5 59 60 61) := by kernel_rfl
theorem cDy (kk11 : cD) : D40 r n aCe (xs x0 3 (K1 (bF r n) 5)) (K5 kk11 4 5 59 60 61) = (K5 (aBd r n kk11) 4 5 59 60 61) :=
 (bEc r n kk11).trans
 ((by kernel_rfl : D40 r n aIe (xs x0 3 (K1 (bF r n) 5)) (K5 (bA r n kk11) 4 5 59 60 61) = D40 r n aGz (xs (xs x0 3 (K1 (bF r n) 5)) 4 (K5 (bA r n kk11) 4 5 59 60 61)) (K5 (bA r n kk11) 4 5 59 60 61)).trans
 ((bCi r n kk11).trans
 ((bGd r n kk11 (xX r n kk11) (bF r n) (bA r n kk11)).trans (aQv r n kk11))))
theorem bCa (kk11 : cD) : D40 r n aGu (xs x0 3 (K1 (bF r n) 5)) (K5 kk11 4 5 59 60 61) = D40 r n bVv (xs x0 3 (K1 (bF r n) 5)) (K5 (aBd r n kk11) 4 5 59 60 61) :=
 congrArg (fun k => D40 r n bVv (xs x0 3 (K1 (bF r n) 5)) k) (cDy r n kk11)
theorem cCp (kk11 : cD) : D40 r n aGu (xs x0 3 (K1 (bF r n) 5)) (K5 kk11 4 5 59 60 61) = (K6 (aSu r n kk11) 4 5 59 60 61 62) :=
 (bCa r n kk11).trans
 ((by kernel_rfl))
theorem bFn (kk11 : cD) : D40 r n jN (xs x0 3 (K1 (bF r n) 5)) (K5 kk11 4 5 59 60 61) = D40 r n bXg (xs x0 3 (K1 (bF r n) 5)) (K6 (aSu r n kk11) 4 5 59 60 61 62) :=
 congrArg (fun k => D40 r n bXg (xs x0 3 (K1 (bF r n) 5)) k) (cCp r n kk11)
theorem bMa (kk11 : cD) : D40 r n jN (xs x0 3 (K1 (bF r n) 5)) (K5 kk11 4 5 59 60 61) = (K5 (aWi r n kk11) 4 5 59 60 61) :=
 (bFn r n kk11).trans
 ((by kernel_rfl))
theorem bYf (m : Nat) : aN (fun kk => D40 r n jN (xs x0 3 (K1 (bF r n) 5)) kk) m = (K5 (tH r n m) 4 5 59 60 61) := by
 induction m with
 | zero => exact (by kernel_rfl : aN (fun kk => D40 r n jN (xs x0 3 (K1 (bF r n) 5)) kk) 0 = (K5 (tH r n 0) 4 5 59 60 61))
 | succ m ih =>
  refine (by kernel_rfl : aN (fun kk => D40 r n jN (xs x0 3 (K1 (bF r n) 5)) kk) (m + 1) = D40 r n jN (xs x0 3 (K1 (bF r n) 5)) (aN (fun kk => D40 r n jN (xs x0 3 (K1 (bF r n) 5)) kk) m)).trans ?_
  rw [ih]
  exact (bMa r n (tH r n m)).trans (by kernel_rfl)
theorem cKe : D40 r n aCa (xs x0 3 (K1 (bF r n) 5)) (K1 (bF r n) 5) = (K5 (bLx r n) 4 5 59 60 61) :=
 (by kernel_rfl : D40 r n aCa (xs x0 3 (K1 (bF r n) 5)) (K1 (bF r n) 5) = aN (fun kk => D40 r n jN (xs x0 3 (K1 (bF r n) 5)) kk) n).trans ((bYf r n n).trans (by kernel_rfl))
theorem cEe : D40 r n aRo x0 (K1 (bF r n) 5) = (K5 (aPp r n) 4 5 59 60 61) :=
 (by kernel_rfl : D40 r n aRo x0 (K1 (bF r n) 5) = D40 r n aCa (xs x0 3 (K1 (bF r n) 5)) (K1 (bF r n) 5)).trans
 ((cKe r n).trans (by kernel_rfl))
theorem bWl : D40 r n bBd x0 r40 = D40 r n vV x0 (K1 (bF r n) 5) :=
 congrArg (fun k => D40 r n vV x0 k) (cXd r n)
theorem bNk : D40 r n vV x0 (K1 (bF r n) 5) = D40 r n bKl x0 (K5 (aPp r n) 4 5 59 60 61) :=
 congrArg (fun k => D40 r n bKl x0 k) (cEe r n)
theorem dBh : D40 r n bBd x0 r40 = (K2 (gL r n) 4 5) :=
 (bWl r n).trans
 ((bNk r n).trans
 ((by kernel_rfl)))
theorem bGi (kk27 : mV) : D40 r n nR (xs x0 1 (K2 (gL r n) 4 5)) (K3 kk27 4 5 43) = (K3 (aVr r n kk27) 4 5 43) :=
 (by kernel_rfl)
theorem bYo (m : Nat) : aN (fun kk => D40 r n nR (xs x0 1 (K2 (gL r n) 4 5)) kk) m = (K3 (sZ r n m) 4 5 43) := by
 induction m with
 | zero => exact (by kernel_rfl : aN (fun kk => D40 r n nR (xs x0 1 (K2 (gL r n) 4 5)) kk) 0 = (K3 (sZ r n 0) 4 5 43))
 | succ m ih =>
  refine (by kernel_rfl : aN (fun kk => D40 r n nR (xs x0 1 (K2 (gL r n) 4 5)) kk) (m + 1) = D40 r n nR (xs x0 1 (K2 (gL r n) 4 5)) (aN (fun kk => D40 r n nR (xs x0 1 (K2 (gL r n) 4 5)) kk) m)).trans ?_
  rw [ih]
  exact (bGi r n (sZ r n m)).trans (by kernel_rfl)
theorem cDb : D40 r n aIr (xs x0 1 (K2 (gL r n) 4 5)) (K2 (gL r n) 4 5) = (K3 (bNl r n) 4 5 43) :=
 (by kernel_rfl : D40 r n aIr (xs x0 1 (K2 (gL r n) 4 5)) (K2 (gL r n) 4 5) = aN (fun kk => D40 r n nR (xs x0 1 (K2 (gL r n) 4 5)) kk) n).trans ((bYo r n n).trans (by kernel_rfl))
theorem cOw : D40 r n aSz x0 (K2 (gL r n) 4 5) = (K3 (aPf r n) 4 5 43) :=
 (by kernel_rfl : D40 r n aSz x0 (K2 (gL r n) 4 5) = D40 r n aIr (xs x0 1 (K2 (gL r n) 4 5)) (K2 (gL r n) 4 5)).trans
 ((cDb r n).trans (by kernel_rfl))
theorem bLc : D40 r n bAk x0 r40 = D40 r n xJ x0 (K2 (gL r n) 4 5) :=
 congrArg (fun k => D40 r n xJ x0 k) (dBh r n)
theorem bLm : D40 r n xJ x0 (K2 (gL r n) 4 5) = D40 r n bUf x0 (K3 (aPf r n) 4 5 43) :=
 congrArg (fun k => D40 r n bUf x0 k) (cOw r n)
theorem cTu : D40 r n bAk x0 r40 = (K2 (aKy r n) 4 5) :=
 (bLc r n).trans
 ((bLm r n).trans
 ((by kernel_rfl)))
theorem bZo : D40 r n aWr x0 r40 = D40 r n aRa x0 (K2 (aKy r n) 4 5) :=
 congrArg (fun k => D40 r n aRa x0 k) (cTu r n)
theorem bMs (q0 : oF) : D40 r n aRa x0 (K2 q0 4 5) = fun (env : aU) (h : Hp) =>
 bnd (cG 1 8 [(aE 0)] (aE 18) (aE 18) h) fun v1 h1 =>
 bnd (dU h1) fun v2 h2 =>
 bnd (dU h2) fun v3 h3 =>
 bnd (bC [.p0, .l0, .m0, .m0] [(0, 1, (env 4)), (1, 1, v1), (2, 1, v2), (3, 1, v3)] h3) fun v4 h4 =>
 bnd (bQ v4 h4) fun v5 h5 =>
  q0 (env 4) v5 h5 := by kernel_rfl
theorem bEp : (fun (env : aU) (h : Hp) =>
 bnd (cG 1 8 [(aE 0)] (aE 18) (aE 18) h) fun v1 h1 =>
 bnd (dU h1) fun v2 h2 =>
 bnd (dU h2) fun v3 h3 =>
 bnd (bC [.p0, .l0, .m0, .m0] [(0, 1, (env 4)), (1, 1, v1), (2, 1, v2), (3, 1, v3)] h3) fun v4 h4 =>
 bnd (bQ v4 h4) fun v5 h5 =>
  aKy r n (env 4) v5 h5) = (K1 (aZm r n) 4) := by kernel_rfl
theorem dAm : D40 r n aWr x0 r40 = (K1 (aZm r n) 4) :=
 (bZo r n).trans
 ((bMs r n (aKy r n)).trans (bEp r n))
theorem bXj : D40 r n aZz x0 r40 = D40 r n bZb x0 (K1 (aZm r n) 4) :=
 congrArg (fun k => D40 r n bZb x0 k) (dAm r n)
theorem cWn : D40 r n aZz x0 r40 = (K2 (bXv r n) 0 4) :=
 (bXj r n).trans
 ((by kernel_rfl))
theorem bVg : D40 r n aUs x0 r40 = D40 r n bYj x0 (K2 (bXv r n) 0 4) :=
 congrArg (fun k => D40 r n bYj x0 k) (cWn r n)
theorem cVl : D40 r n aUs x0 r40 = (K1 (bUt r n) 0) :=
 (bVg r n).trans
 ((by kernel_rfl))
theorem dCt : D40 r n c40 x0 r40 = D40 r n bIl x0 (K1 (bUt r n) 0) :=
 congrArg (fun k => D40 r n bIl x0 k) (cVl r n)
theorem dOo : D40 r n c40 x0 r40 = (K1 (s40 r n) 0) :=
 (dCt r n).trans
 ((by kernel_rfl))
theorem dGj : aF CF r n 40 args h = s40 r n (aS args 0) h :=
 (by kernel_rfl : aF CF r n 40 args h = D40 r n c40 x0 r40 (aI args) h).trans ((congrFun (congrFun (dOo r n) (aI args)) h).trans (by kernel_rfl))
noncomputable def s42 (r : RT) (n : Nat) (x0 x1 : DV) (h0 : Hp) : aH :=
 bnd (aD .lss x1 (.i .i64 (Int.negSucc 1152921504606846975)) h0) fun v1 h1 =>
 bnd (gD v1 false (some (x1, h1)) h1) fun v2 h2 =>
 bnd (gD v1 false (aD .gtr v2 (aE 1152921504606846976) h2) h2) fun v3 h3 =>
 bnd (aR v1 (.b true) v3 h3) fun v4 h4 =>
 aP v4 (
 some (.t [(aE 0), (aE 2)], h4)) (
 bnd (gN [x1] h4) fun v5 h5 =>
 bnd (aC 0 v5 h5) fun v6 h6 =>
 bnd (aC 1 v5 h6) fun v7 h7 =>
 aP v7 (
 some (.t [v6, (aE 0)], h7)) (
 bnd (r 30 [x0, (aE 8)] h7) fun v8 h8 =>
 bnd (aL [(aE 0)] 1 [(0, 1, x1)] h8) fun v9 h9 =>
 bnd (r 82 [x0, v8, (aE 1), v9] h9) fun v10 h10 =>
 bnd (aC 0 v10 h10) fun v11 h11 =>
 bnd (aC 1 v10 h11) fun v12 h12 =>
 some (.t [v11, v12], h12)))
noncomputable abbrev c42 : Code := cf Tryz.f42
noncomputable abbrev r42 : K := aQ CF Tryz.f42
noncomputable def D42 (r : RT) (n : Nat) (c : Code) (X : Nat → K) (k : K) : K := aM CF r 29 n c X r42 k
theorem dPx : D42 r n c42 x0 r42 = (K2 (s42 r n) 0 1) :=
 (by kernel_rfl)
theorem cQk : aF CF r n 42 args h = s42 r n (aS args 0) (aS args 1) h :=
 (by kernel_rfl : aF CF r n 42 args h = D42 r n c42 x0 r42 (aI args) h).trans ((congrFun (congrFun (dPx r n) (aI args)) h).trans (by kernel_rfl))
noncomputable def s43 (r : RT) (n : Nat) (x0 x1 : DV) (h0 : Hp) : aH :=
 bnd (dR x1 h0) fun v1 h1 =>
 bnd (aD .gtr v1 (aE 250) h1) fun v2 h2 =>
 aP v2 (
 some (.t [(aE 0), (aE 1)], h2)) (
 bnd (r 30 [x0, (aE 10)] h2) fun v3 h3 =>
 bnd (r 83 [x0, v3, x1] h3) fun v4 h4 =>
 bnd (aC 0 v4 h4) fun v5 h5 =>
 bnd (aC 1 v4 h5) fun v6 h6 =>
 some (.t [v5, v6], h6))
noncomputable abbrev c43 : Code := cf Tryz.f43
noncomputable abbrev r43 : K := aQ CF Tryz.f43
noncomputable def D43 (r : RT) (n : Nat) (c : Code) (X : Nat → K) (k : K) : K := aM CF r 16 n c X r43 k
theorem dNq : D43 r n c43 x0 r43 = (K2 (s43 r n) 0 1) :=
 (by kernel_rfl)
theorem cQj : aF CF r n 43 args h = s43 r n (aS args 0) (aS args 1) h :=
 (by kernel_rfl : aF CF r n 43 args h = D43 r n c43 x0 r43 (aI args) h).trans ((congrFun (congrFun (dNq r n) (aI args)) h).trans (by kernel_rfl))
noncomputable def s44 (r : RT) (n : Nat) (x0 x1 : DV) (h0 : Hp) : aH :=
 bnd (dR x1 h0) fun v1 h1 =>
 bnd (aD .lss v1 (aE 1) h1) fun v2 h2 =>
 bnd (gD v2 false (some (x1, h2)) h2) fun v3 h3 =>
 bnd (gD v2 false (dR v3 h3) h3) fun v4 h4 =>
 bnd (gD v2 false (aD .gtr v4 (aE 60) h4) h4) fun v5 h5 =>
 bnd (aR v2 (.b true) v5 h5) fun v6 h6 =>
 aP v6 (
 some (.t [(aE 0), (aE 1)], h6)) (
 bnd (aO x0 h6) fun v7 h7 =>
 bnd (aB 2 v7 h7) fun v8 h8 =>
 bnd (aA v8 h8) fun v9 h9 =>
 bnd (dL .string (aE 0) false v9 x1 h9) fun v10 h10 =>
 bnd (aD .neq v10 (aE 0) h10) fun v11 h11 =>
 aP v11 (
 some (.t [v10, (aE 0)], h11)) (
 bnd (r 30 [x0, (aE 11)] h11) fun v12 h12 =>
 bnd (r 83 [x0, v12, x1] h12) fun v13 h13 =>
 bnd (aC 0 v13 h13) fun v14 h14 =>
 bnd (aC 1 v13 h14) fun v15 h15 =>
 bnd (aD .neq v15 (aE 0) h15) fun v16 h16 =>
 aP v16 (
 some (.t [(aE 0), v15], h16)) (
 bnd (aO x0 h16) fun v17 h17 =>
 bnd (aB 1 v17 h17) fun v18 h18 =>
 bnd (aA v18 h18) fun v19 h19 =>
 bnd (aJ 1 v19 (aE 0) h19) fun v20 h20 =>
 bnd (aA v20 h20) fun v21 h21 =>
 bnd (r 73 [x0, v14, v21] h21) fun v22 h22 =>
 bnd (aC 0 v22 h22) fun v23 h23 =>
 bnd (aC 1 v22 h23) fun v24 h24 =>
 bnd (aD .neq v24 (aE 0) h24) fun v25 h25 =>
 aP v25 (
 some (.t [(aE 0), v24], h25)) (
 bnd (aO x0 h25) fun v26 h26 =>
 bnd (aB 1 v26 h26) fun v27 h27 =>
 bnd (aA v27 h27) fun v28 h28 =>
 bnd (aO x0 h28) fun v29 h29 =>
 bnd (aB 2 v29 h29) fun v30 h30 =>
 bnd (aA v30 h30) fun v31 h31 =>
 bnd (aJ 1 v28 (aE 0) h31) fun v32 h32 =>
 bnd (aG 1 v32 v23 h32) fun v33 h33 =>
 bnd (fP .string (aE 0) v31 x1 h33) fun v34 h34 =>
 bnd (aC 1 v34 h34) fun v35 h35 =>
 bnd (dT v31 v35 v14 h35) fun v36 h36 =>
 some (.t [v14, (aE 0)], h36)))))
noncomputable abbrev c44 : Code := cf Tryz.f44
noncomputable abbrev r44 : K := aQ CF Tryz.f44
noncomputable def D44 (r : RT) (n : Nat) (c : Code) (X : Nat → K) (k : K) : K := aM CF r 68 n c X r44 k
theorem dPl : D44 r n c44 x0 r44 = (K2 (s44 r n) 0 1) :=
 (by kernel_rfl)
theorem cQp : aF CF r n 44 args h = s44 r n (aS args 0) (aS args 1) h :=
 (by kernel_rfl : aF CF r n 44 args h = D44 r n c44 x0 r44 (aI args) h).trans ((congrFun (congrFun (dPl r n) (aI args)) h).trans (by kernel_rfl))
noncomputable def s45 (r : RT) (n : Nat) (x0 x1 : DV) (h0 : Hp) : aH :=
 bnd (aO x0 h0) fun v1 h1 =>
 bnd (aB 3 v1 h1) fun v2 h2 =>
 bnd (aA v2 h2) fun v3 h3 =>
 bnd (dL .string (aE 0) false v3 x1 h3) fun v4 h4 =>
 some (v4, h4)
noncomputable abbrev c45 : Code := cf Tryz.f45
noncomputable abbrev r45 : K := aQ CF Tryz.f45
noncomputable def D45 (r : RT) (n : Nat) (c : Code) (X : Nat → K) (k : K) : K := aM CF r 11 n c X r45 k
theorem dQj : D45 r n c45 x0 r45 = (K2 (s45 r n) 0 1) :=
 (by kernel_rfl)
theorem cRi : aF CF r n 45 args h = s45 r n (aS args 0) (aS args 1) h :=
 (by kernel_rfl : aF CF r n 45 args h = D45 r n c45 x0 r45 (aI args) h).trans ((congrFun (congrFun (dQj r n) (aI args)) h).trans (by kernel_rfl))
noncomputable def s46 (r : RT) (n : Nat) (x0 x1 : DV) (h0 : Hp) : aH :=
 bnd (bQ x0 h0) fun v1 h1 =>
 bnd (bV x1 h1) fun v2 h2 =>
 bnd (aD .gtr v2 (aE 250) h2) fun v3 h3 =>
 bnd (gD v3 false (some (x1, h3)) h3) fun v4 h4 =>
 bnd (gD v3 false (some ((.f 84 [] [v1]), h4)) h4) fun v5 h5 =>
 bnd (gD v3 false (r 52 [v4, v5] h5) h5) fun v6 h6 =>
 bnd (aR v3 (.b true) v6 h6) fun v7 h7 =>
 aP v7 (
 some (.t [(aE 0), (aE 1)], h7)) (
 bnd (aA v1 h7) fun v8 h8 =>
 bnd (aA v1 h8) fun v9 h9 =>
 bnd (r 30 [v9, (aE 9)] h9) fun v10 h10 =>
 cnd (bH (aA v1 h10) v8 && true) (
 bnd (r 82 [v8, v10, (aE 0), x1] h10) fun v11 h11 =>
 bnd (aC 0 v11 h11) fun v12 h12 =>
 bnd (aC 1 v11 h12) fun v13 h13 =>
 some (.t [v12, v13], h13)))
noncomputable abbrev c46 : Code := cf Tryz.f46
noncomputable abbrev r46 : K := aQ CF Tryz.f46
noncomputable def D46 (r : RT) (n : Nat) (c : Code) (X : Nat → K) (k : K) : K := aM CF r 21 n c X r46 k
theorem dMf : D46 r n c46 x0 r46 = (K2 (s46 r n) 0 1) :=
 (by kernel_rfl)
theorem cRd : aF CF r n 46 args h = s46 r n (aS args 0) (aS args 1) h :=
 (by kernel_rfl : aF CF r n 46 args h = D46 r n c46 x0 r46 (aI args) h).trans ((congrFun (congrFun (dMf r n) (aI args)) h).trans (by kernel_rfl))
noncomputable def s51 (r : RT) (n : Nat) (x0 x1 x2 : DV) (h0 : Hp) : aH :=
 bnd (aO x0 h0) fun v1 h1 =>
 bnd (aB 0 v1 h1) fun v2 h2 =>
 bnd (aA v2 h2) fun v3 h3 =>
 bnd (zB [v3, x1, x2] h3) fun v4 h4 =>
 bnd (aC 0 v4 h4) fun v5 h5 =>
 bnd (aC 1 v4 h5) fun v6 h6 =>
 some (v5, h6)
noncomputable abbrev c51 : Code := cf Tryz.f51
noncomputable abbrev r51 : K := aQ CF Tryz.f51
noncomputable def D51 (r : RT) (n : Nat) (c : Code) (X : Nat → K) (k : K) : K := aM CF r 20 n c X r51 k
theorem dNh : D51 r n c51 x0 r51 = (K3 (s51 r n) 0 1 2) :=
 (by kernel_rfl)
theorem dLh : aF CF r n 51 args h = s51 r n (aS args 0) (aS args 1) (aS args 2) h :=
 (by kernel_rfl : aF CF r n 51 args h = D51 r n c51 x0 r51 (aI args) h).trans ((congrFun (congrFun (dNh r n) (aI args)) h).trans (by kernel_rfl))
noncomputable def s52 (r : RT) (n : Nat) (x0 x1 : DV) (h0 : Hp) : aH :=
 bnd (r 89 [x0, x1] h0) fun v1 h1 =>
 bnd (aD .geq v1 (aE 0) h1) fun v2 h2 =>
 some (v2, h2)
noncomputable abbrev c52 : Code := cf Tryz.f52
noncomputable abbrev r52 : K := aQ CF Tryz.f52
noncomputable def D52 (r : RT) (n : Nat) (c : Code) (X : Nat → K) (k : K) : K := aM CF r 9 n c X r52 k
theorem dOc : D52 r n c52 x0 r52 = (K2 (s52 r n) 0 1) :=
 (by kernel_rfl)
theorem bSh : aF CF r n 52 args h = s52 r n (aS args 0) (aS args 1) h :=
 (by kernel_rfl : aF CF r n 52 args h = D52 r n c52 x0 r52 (aI args) h).trans ((congrFun (congrFun (dOc r n) (aI args)) h).trans (by kernel_rfl))
noncomputable def s53 (r : RT) (n : Nat) (x0 x1 : DV) (h0 : Hp) : aH :=
 bnd (aA x1 h0) fun v1 h1 =>
 bnd (aEp [v1, x0] h1) fun v2 h2 =>
 bnd (gS .not v2 h2) fun v3 h3 =>
 some (v3, h3)
noncomputable abbrev c53 : Code := cf Tryz.f53
noncomputable abbrev r53 : K := aQ CF Tryz.f53
noncomputable def D53 (r : RT) (n : Nat) (c : Code) (X : Nat → K) (k : K) : K := aM CF r 8 n c X r53 k
theorem dMe : D53 r n c53 x0 r53 = (K2 (s53 r n) 0 1) :=
 (by kernel_rfl)
theorem cQt : aF CF r n 53 args h = s53 r n (aS args 0) (aS args 1) h :=
 (by kernel_rfl : aF CF r n 53 args h = D53 r n c53 x0 r53 (aI args) h).trans ((congrFun (congrFun (dMe r n) (aI args)) h).trans (by kernel_rfl))
noncomputable def s54 (r : RT) (n : Nat) (h0 : Hp) : aH :=
 some (.t [(aE 0), (aE 20)], h0)
noncomputable abbrev c54 : Code := cf Tryz.f54
noncomputable abbrev r54 : K := aQ CF Tryz.f54
noncomputable def D54 (r : RT) (n : Nat) (c : Code) (X : Nat → K) (k : K) : K := aM CF r 2 n c X r54 k
theorem dMc : D54 r n c54 x0 r54 = (K0 (s54 r n)) :=
 (by kernel_rfl)
theorem cRc : aF CF r n 54 args h = s54 r n h :=
 (by kernel_rfl : aF CF r n 54 args h = D54 r n c54 x0 r54 (aI args) h).trans ((congrFun (congrFun (dMc r n) (aI args)) h).trans (by kernel_rfl))
noncomputable def s56 (r : RT) (n : Nat) (x0 : DV) (h0 : Hp) : aH :=
 bnd (aO x0 h0) fun v1 h1 =>
 bnd (aB 1 v1 h1) fun v2 h2 =>
 bnd (aA v2 h2) fun v3 h3 =>
 bnd (aD .eql v3 (.i .i64 (Int.ofNat 10)) h3) fun v4 h4 =>
 aP v4 (
 bnd (aO x0 h4) fun v5 h5 =>
 bnd (aB 2 v5 h5) fun v6 h6 =>
 bnd (aA v6 h6) fun v7 h7 =>
 bnd (aO x0 h7) fun v8 h8 =>
 bnd (aB 3 v8 h8) fun v9 h9 =>
 bnd (aA v9 h9) fun v10 h10 =>
 bnd (aJ 1 v10 (.i .i64 (Int.ofNat 0)) h10) fun v11 h11 =>
 bnd (aA v11 h11) fun v12 h12 =>
 bnd (aD .eql v7 v12 h12) fun v13 h13 =>
 bnd (r 95 [v13] h13) fun v14 h14 =>
 bnd (aC 0 v14 h14) fun v15 h15 =>
 bnd (aC 1 v14 h15) fun v16 h16 =>
 some (.t [v15, v16], h16)) (
 bnd (aO x0 h4) fun v17 h17 =>
 bnd (aB 0 v17 h17) fun v18 h18 =>
 bnd (aA v18 h18) fun v19 h19 =>
 bnd (aO x0 h19) fun v20 h20 =>
 bnd (aB 2 v20 h20) fun v21 h21 =>
 bnd (aA v21 h21) fun v22 h22 =>
 bnd (r 25 [v19, v22] h22) fun v23 h23 =>
 some (.t [v23, (.i .i64 (Int.ofNat 0))], h23))
noncomputable abbrev c56 : Code := cf Tryz.f56
noncomputable abbrev r56 : K := aQ CF Tryz.f56
noncomputable def D56 (r : RT) (n : Nat) (c : Code) (X : Nat → K) (k : K) : K := aM CF r 32 n c X r56 k
theorem dOi : D56 r n c56 x0 r56 = (K1 (s56 r n) 0) :=
 (by kernel_rfl)
theorem dKo : aF CF r n 56 args h = s56 r n (aS args 0) h :=
 (by kernel_rfl : aF CF r n 56 args h = D56 r n c56 x0 r56 (aI args) h).trans ((congrFun (congrFun (dOi r n) (aI args)) h).trans (by kernel_rfl))
noncomputable def s57 (r : RT) (n : Nat) (x0 : DV) (h0 : Hp) : aH :=
 bnd (aO x0 h0) fun v1 h1 =>
 bnd (aB 0 v1 h1) fun v2 h2 =>
 bnd (aA v2 h2) fun v3 h3 =>
 bnd (r 23 [v3] h3) fun v4 h4 =>
 bnd (aL [(.i .i64 (Int.ofNat 0)), (.i .i64 (Int.ofNat 0)), (.i .i64 (Int.ofNat 0))] 3 [(0, 1, (.i .i64 (Int.ofNat 9))), (1, 1, (.i .i64 (Int.ofNat 10))), (2, 1, (.i .i64 (Int.ofNat 11)))] h4) fun v5 h5 =>
 bnd (r 96 [x0, v5] h5) fun v6 h6 =>
 bnd (gS .not v6 h6) fun v7 h7 =>
 aP v7 (
 bnd (r 54 [] h7) fun v8 h8 =>
 bnd (aC 0 v8 h8) fun v9 h9 =>
 bnd (aC 1 v8 h9) fun v10 h10 =>
 some (.t [v9, v10], h10)) (
 bnd (aO x0 h7) fun v11 h11 =>
 bnd (aB 1 v11 h11) fun v12 h12 =>
 bnd (aA v12 h12) fun v13 h13 =>
 bnd (aD .eql v13 (.i .i64 (Int.ofNat 22)) h13) fun v14 h14 =>
 aP v14 (
 bnd (aO x0 h14) fun v15 h15 =>
 bnd (aB 0 v15 h15) fun v16 h16 =>
 bnd (aA v16 h16) fun v17 h17 =>
 bnd (aO x0 h17) fun v18 h18 =>
 bnd (aB 2 v18 h18) fun v19 h19 =>
 bnd (aA v19 h19) fun v20 h20 =>
 bnd (fZ [v4, v20] h20) fun v21 h21 =>
 cnd (bH (aA v16 h21) v17 && true) (
 bnd (r 42 [v17, v21] h21) fun v22 h22 =>
 bnd (aC 0 v22 h22) fun v23 h23 =>
 bnd (aC 1 v22 h23) fun v24 h24 =>
 some (.t [v23, v24], h24))) (
 bnd (r 97 [x0] h14) fun v25 h25 =>
 bnd (aC 0 v25 h25) fun v26 h26 =>
 bnd (aC 1 v25 h26) fun v27 h27 =>
 bnd (gS .not v27 h27) fun v28 h28 =>
 aP v28 (
 bnd (r 54 [] h28) fun v29 h29 =>
 bnd (aC 0 v29 h29) fun v30 h30 =>
 bnd (aC 1 v29 h30) fun v31 h31 =>
 some (.t [v30, v31], h31)) (
 bnd (aO x0 h28) fun v32 h32 =>
 bnd (aB 1 v32 h32) fun v33 h33 =>
 bnd (aA v33 h33) fun v34 h34 =>
 bnd (aD .eql v34 (.i .i64 (Int.ofNat 21)) h34) fun v35 h35 =>
 aP v35 (
 bnd (r 98 [x0, v26] h35) fun v36 h36 =>
 bnd (aC 0 v36 h36) fun v37 h37 =>
 bnd (aC 1 v36 h37) fun v38 h38 =>
 some (.t [v37, v38], h38)) (
 bnd (aO x0 h35) fun v39 h39 =>
 bnd (aB 2 v39 h39) fun v40 h40 =>
 bnd (aA v40 h40) fun v41 h41 =>
 bnd (zB [v4, v41, v26] h41) fun v42 h42 =>
 bnd (aC 0 v42 h42) fun v43 h43 =>
 bnd (aC 1 v42 h43) fun v44 h44 =>
 bnd (aL [(.i .i64 (Int.ofNat 0))] 1 [(0, 1, (.i .i64 (Int.ofNat 9)))] h44) fun v45 h45 =>
 bnd (r 96 [x0, v45] h45) fun v46 h46 =>
 aP v46 (
 some (.t [v43, (.i .i64 (Int.ofNat 0))], h46)) (
 bnd (aO x0 h46) fun v47 h47 =>
 bnd (aB 0 v47 h47) fun v48 h48 =>
 bnd (aA v48 h48) fun v49 h49 =>
 bnd (r 42 [v49, v43] h49) fun v50 h50 =>
 bnd (aC 0 v50 h50) fun v51 h51 =>
 bnd (aC 1 v50 h51) fun v52 h52 =>
 some (.t [v51, v52], h52))))))
noncomputable abbrev c57 : Code := cf Tryz.f57
noncomputable abbrev r57 : K := aQ CF Tryz.f57
noncomputable def D57 (r : RT) (n : Nat) (c : Code) (X : Nat → K) (k : K) : K := aM CF r 83 n c X r57 k
theorem dMd : D57 r n c57 x0 r57 = (K1 (s57 r n) 0) :=
 (by kernel_rfl)
theorem dIs : aF CF r n 57 args h = s57 r n (aS args 0) h :=
 (by kernel_rfl : aF CF r n 57 args h = D57 r n c57 x0 r57 (aI args) h).trans ((congrFun (congrFun (dMd r n) (aI args)) h).trans (by kernel_rfl))
end Go.Dd

namespace Go.Dd
open Go.Proofs
variable (r : RT) (n : Nat) (args : List DV) (h : Hp)
noncomputable def s58 (r : RT) (n : Nat) (x0 : DV) (h0 : Hp) : aH :=
 bnd (aO x0 h0) fun v1 h1 =>
 bnd (aB 0 v1 h1) fun v2 h2 =>
 bnd (aA v2 h2) fun v3 h3 =>
 bnd (r 23 [v3] h3) fun v4 h4 =>
 bnd (aO x0 h4) fun v5 h5 =>
 bnd (aB 0 v5 h5) fun v6 h6 =>
 bnd (aA v6 h6) fun v7 h7 =>
 cnd (bH (aA v6 h0) v7 && true) (
 bnd (aO x0 h7) fun v8 h8 =>
 bnd (aB 2 v8 h8) fun v9 h9 =>
 bnd (aA v9 h9) fun v10 h10 =>
 cnd (bH (aA v9 h0) v10 && true) (
 bnd (r 32 [v7, v10] h10) fun v11 h11 =>
 bnd (aO x0 h11) fun v12 h12 =>
 bnd (aB 1 v12 h12) fun v13 h13 =>
 bnd (aA v13 h13) fun v14 h14 =>
 bnd (aD .eql v14 (.i .i64 (Int.ofNat 23)) h14) fun v15 h15 =>
 aP v15 (
 bnd (aD .neq v11 (.i .i64 (Int.ofNat 0)) h15) fun v16 h16 =>
 aP v16 (
 bnd (r 54 [] h16) fun v17 h17 =>
 bnd (aC 0 v17 h17) fun v18 h18 =>
 bnd (aC 1 v17 h18) fun v19 h19 =>
 some (.t [v18, v19], h19)) (
 bnd (aO x0 h16) fun v20 h20 =>
 bnd (aB 2 v20 h20) fun v21 h21 =>
 bnd (aA v21 h21) fun v22 h22 =>
 bnd (aO x0 h22) fun v23 h23 =>
 bnd (aB 0 v23 h23) fun v24 h24 =>
 bnd (aA v24 h24) fun v25 h25 =>
 bnd (aO x0 h25) fun v26 h26 =>
 bnd (aB 2 v26 h26) fun v27 h27 =>
 bnd (aA v27 h27) fun v28 h28 =>
 bnd (r 37 [v25, v28] h28) fun v29 h29 =>
 cnd (bH (aA v21 h29) v22 && true) (
 bnd (iO [v4, v22, (.i .i64 (Int.ofNat 0)), v29] h29) fun v30 h30 =>
 bnd (aC 0 v30 h30) fun v31 h31 =>
 bnd (aC 1 v30 h31) fun v32 h32 =>
 some (.t [v31, v32], h32)))) (
 bnd (aO x0 h15) fun v33 h33 =>
 bnd (aB 0 v33 h33) fun v34 h34 =>
 bnd (aA v34 h34) fun v35 h35 =>
 bnd (aO x0 h35) fun v36 h36 =>
 bnd (aB 3 v36 h36) fun v37 h37 =>
 bnd (aA v37 h37) fun v38 h38 =>
 bnd (aJ 1 v38 (.i .i64 (Int.ofNat 0)) h38) fun v39 h39 =>
 bnd (aA v39 h39) fun v40 h40 =>
 bnd (r 15 [v35, v40] h40) fun v41 h41 =>
 bnd (aC 0 v41 h41) fun v42 h42 =>
 bnd (aC 1 v41 h42) fun v43 h43 =>
 bnd (gS .not v43 h43) fun v44 h44 =>
 bnd (gD v44 false (some (v42, h44)) h44) fun v45 h45 =>
 bnd (gD v44 false (aD .lss v45 (.i .i64 (Int.ofNat 0)) h45) h45) fun v46 h46 =>
 bnd (aR v44 (.b true) v46 h46) fun v47 h47 =>
 bnd (gD v47 false (some (v42, h47)) h47) fun v48 h48 =>
 bnd (gD v47 false (aD .gtr v48 (.i .i64 (Int.ofNat 250)) h48) h48) fun v49 h49 =>
 bnd (aR v47 (.b true) v49 h49) fun v50 h50 =>
 aP v50 (
 bnd (r 54 [] h50) fun v51 h51 =>
 bnd (aC 0 v51 h51) fun v52 h52 =>
 bnd (aC 1 v51 h52) fun v53 h53 =>
 some (.t [v52, v53], h53)) (
 bnd (aO x0 h50) fun v54 h54 =>
 bnd (aB 2 v54 h54) fun v55 h55 =>
 bnd (aA v55 h55) fun v56 h56 =>
 bnd (aO x0 h56) fun v57 h57 =>
 bnd (aB 0 v57 h57) fun v58 h58 =>
 bnd (aA v58 h58) fun v59 h59 =>
 bnd (r 30 [v59, (.i .i64 (Int.ofNat 9))] h59) fun v60 h60 =>
 cnd (bH (aA v55 h60) v56 && true) (
 bnd (aD .eql v56 v60 h60) fun v61 h61 =>
 aP v61 (
 bnd (aO x0 h61) fun v62 h62 =>
 bnd (aB 2 v62 h62) fun v63 h63 =>
 bnd (aA v63 h63) fun v64 h64 =>
 bnd (iO [v4, v64, (.i .i64 (Int.ofNat 0)), v42] h64) fun v65 h65 =>
 bnd (aC 0 v65 h65) fun v66 h66 =>
 bnd (aC 1 v65 h66) fun v67 h67 =>
 some (.t [v66, v67], h67)) (
 bnd (aO x0 h61) fun v68 h68 =>
 bnd (aB 2 v68 h68) fun v69 h69 =>
 bnd (aA v69 h69) fun v70 h70 =>
 bnd (aO x0 h70) fun v71 h71 =>
 bnd (aB 0 v71 h71) fun v72 h72 =>
 bnd (aA v72 h72) fun v73 h73 =>
 bnd (r 30 [v73, (.i .i64 (Int.ofNat 10))] h73) fun v74 h74 =>
 cnd (bH (aA v69 h74) v70 && true) (
 bnd (aD .eql v70 v74 h74) fun v75 h75 =>
 aP v75 (
 bnd (aO x0 h75) fun v76 h76 =>
 bnd (aB 2 v76 h76) fun v77 h77 =>
 bnd (aA v77 h77) fun v78 h78 =>
 bnd (iO [v4, v78, (.i .i64 (Int.ofNat 2)), v42] h78) fun v79 h79 =>
 bnd (aC 0 v79 h79) fun v80 h80 =>
 bnd (aC 1 v79 h80) fun v81 h81 =>
 some (.t [v80, v81], h81)) (
 bnd (r 54 [] h75) fun v82 h82 =>
 bnd (aC 0 v82 h82) fun v83 h83 =>
 bnd (aC 1 v82 h83) fun v84 h84 =>
 some (.t [v83, v84], h84)))))))))
noncomputable abbrev c58 : Code := cf Tryz.f58
noncomputable abbrev r58 : K := aQ CF Tryz.f58
noncomputable def D58 (r : RT) (n : Nat) (c : Code) (X : Nat → K) (k : K) : K := aM CF r 120 n c X r58 k
theorem dPh : D58 r n c58 x0 r58 = (K1 (s58 r n) 0) :=
 (by kernel_rfl)
theorem dHe : aF CF r n 58 args h = s58 r n (aS args 0) h :=
 (by kernel_rfl : aF CF r n 58 args h = D58 r n c58 x0 r58 (aI args) h).trans ((congrFun (congrFun (dPh r n) (aI args)) h).trans (by kernel_rfl))
noncomputable def s60 (r : RT) (n : Nat) (x0 : DV) (h0 : Hp) : aH :=
 bnd (aO x0 h0) fun v1 h1 =>
 bnd (aB 0 v1 h1) fun v2 h2 =>
 bnd (aA v2 h2) fun v3 h3 =>
 bnd (aO x0 h3) fun v4 h4 =>
 bnd (aB 2 v4 h4) fun v5 h5 =>
 bnd (aA v5 h5) fun v6 h6 =>
 bnd (r 32 [v3, v6] h6) fun v7 h7 =>
 bnd (aD .lss v7 (.i .i64 (Int.ofNat 0)) h7) fun v8 h8 =>
 aP v8 (
 bnd (r 54 [] h8) fun v9 h9 =>
 bnd (aC 0 v9 h9) fun v10 h10 =>
 bnd (aC 1 v9 h10) fun v11 h11 =>
 some (.t [v10, v11], h11)) (
 bnd (aO x0 h8) fun v12 h12 =>
 bnd (aB 1 v12 h12) fun v13 h13 =>
 bnd (aA v13 h13) fun v14 h14 =>
 bnd (aD .eql v14 (.i .i64 (Int.ofNat 41)) h14) fun v15 h15 =>
 aP v15 (
 bnd (aO x0 h15) fun v16 h16 =>
 bnd (aB 0 v16 h16) fun v17 h17 =>
 bnd (aA v17 h17) fun v18 h18 =>
 bnd (aO x0 h18) fun v19 h19 =>
 bnd (aB 2 v19 h19) fun v20 h20 =>
 bnd (aA v20 h20) fun v21 h21 =>
 bnd (r 35 [v18, v21] h21) fun v22 h22 =>
 some (.t [v22, (.i .i64 (Int.ofNat 0))], h22)) (
 bnd (aO x0 h15) fun v23 h23 =>
 bnd (aB 0 v23 h23) fun v24 h24 =>
 bnd (aA v24 h24) fun v25 h25 =>
 bnd (aO x0 h25) fun v26 h26 =>
 bnd (aB 0 v26 h26) fun v27 h27 =>
 bnd (aA v27 h27) fun v28 h28 =>
 bnd (aO x0 h28) fun v29 h29 =>
 bnd (aB 2 v29 h29) fun v30 h30 =>
 bnd (aA v30 h30) fun v31 h31 =>
 bnd (r 34 [v28, v31] h31) fun v32 h32 =>
 cnd (bH (aA v24 h32) v25 && true) (
 bnd (r 44 [v25, v32] h32) fun v33 h33 =>
 bnd (aC 0 v33 h33) fun v34 h34 =>
 bnd (aC 1 v33 h34) fun v35 h35 =>
 some (.t [v34, v35], h35))))
noncomputable abbrev c60 : Code := cf Tryz.f60
noncomputable abbrev r60 : K := aQ CF Tryz.f60
noncomputable def D60 (r : RT) (n : Nat) (c : Code) (X : Nat → K) (k : K) : K := aM CF r 49 n c X r60 k
theorem dOb : D60 r n c60 x0 r60 = (K1 (s60 r n) 0) :=
 (by kernel_rfl)
theorem dGm : aF CF r n 60 args h = s60 r n (aS args 0) h :=
 (by kernel_rfl : aF CF r n 60 args h = D60 r n c60 x0 r60 (aI args) h).trans ((congrFun (congrFun (dOb r n) (aI args)) h).trans (by kernel_rfl))
noncomputable def s61 (r : RT) (n : Nat) (x0 : DV) (h0 : Hp) : aH :=
 bnd (aO x0 h0) fun v1 h1 =>
 bnd (aB 0 v1 h1) fun v2 h2 =>
 bnd (aA v2 h2) fun v3 h3 =>
 bnd (r 23 [v3] h3) fun v4 h4 =>
 bnd (aO x0 h4) fun v5 h5 =>
 bnd (aB 2 v5 h5) fun v6 h6 =>
 bnd (aA v6 h6) fun v7 h7 =>
 bnd (isF [v4, v7] h7) fun v8 h8 =>
 bnd (gS .not v8 h8) fun v9 h9 =>
 bnd (gD v9 false (some (x0, h9)) h9) fun v10 h10 =>
 bnd (gD v9 false (aO v10 h10) h10) fun v11 h11 =>
 bnd (gD v9 false (aB 0 v11 h11) h11) fun v12 h12 =>
 bnd (gD v9 false (aA v12 h12) h12) fun v13 h13 =>
 bnd (gD v9 false (some (x0, h13)) h13) fun v14 h14 =>
 bnd (gD v9 false (aO v14 h14) h14) fun v15 h15 =>
 bnd (gD v9 false (aB 0 v15 h15) h15) fun v16 h16 =>
 bnd (gD v9 false (aA v16 h16) h16) fun v17 h17 =>
 bnd (gD v9 false (some (x0, h17)) h17) fun v18 h18 =>
 bnd (gD v9 false (aO v18 h18) h18) fun v19 h19 =>
 bnd (gD v9 false (aB 2 v19 h19) h19) fun v20 h20 =>
 bnd (gD v9 false (aA v20 h20) h20) fun v21 h21 =>
 bnd (gD v9 false (r 25 [v17, v21] h21) h21) fun v22 h22 =>
 cnd (bH (gD v9 false (aA v12 h22) h22) v13 && true) (
 bnd (gD v9 false (r 32 [v13, v22] h22) h22) fun v23 h23 =>
 bnd (gD v9 false (aD .neq v23 (.i .i64 (Int.ofNat 0)) h23) h23) fun v24 h24 =>
 bnd (aR v9 (.b true) v24 h24) fun v25 h25 =>
 aP v25 (
 bnd (r 54 [] h25) fun v26 h26 =>
 bnd (aC 0 v26 h26) fun v27 h27 =>
 bnd (aC 1 v26 h27) fun v28 h28 =>
 some (.t [v27, v28], h28)) (
 bnd (r 97 [x0] h25) fun v29 h29 =>
 bnd (aC 0 v29 h29) fun v30 h30 =>
 bnd (aC 1 v29 h30) fun v31 h31 =>
 bnd (gS .not v31 h31) fun v32 h32 =>
 aP v32 (
 bnd (r 54 [] h32) fun v33 h33 =>
 bnd (aC 0 v33 h33) fun v34 h34 =>
 bnd (aC 1 v33 h34) fun v35 h35 =>
 some (.t [v34, v35], h35)) (
 bnd (aO x0 h32) fun v36 h36 =>
 bnd (aB 1 v36 h36) fun v37 h37 =>
 bnd (aA v37 h37) fun v38 h38 =>
 bnd (aD .eql v38 (.i .i64 (Int.ofNat 51)) h38) fun v39 h39 =>
 aP v39 (
 bnd (aO x0 h39) fun v40 h40 =>
 bnd (aB 2 v40 h40) fun v41 h41 =>
 bnd (aA v41 h41) fun v42 h42 =>
 bnd (aO x0 h42) fun v43 h43 =>
 bnd (aB 3 v43 h43) fun v44 h44 =>
 bnd (aA v44 h44) fun v45 h45 =>
 bnd (aJ 1 v45 (.i .i64 (Int.ofNat 1)) h45) fun v46 h46 =>
 bnd (aA v46 h46) fun v47 h47 =>
 bnd (uT [v4, v42, v30, v47] h47) fun v48 h48 =>
 bnd (aO x0 h48) fun v49 h49 =>
 bnd (aB 3 v49 h49) fun v50 h50 =>
 bnd (aA v50 h50) fun v51 h51 =>
 bnd (aJ 1 v51 (.i .i64 (Int.ofNat 1)) h51) fun v52 h52 =>
 bnd (aA v52 h52) fun v53 h53 =>
 some (.t [v53, (.i .i64 (Int.ofNat 0))], h53)) (
 bnd (aO x0 h39) fun v54 h54 =>
 bnd (aB 2 v54 h54) fun v55 h55 =>
 bnd (aA v55 h55) fun v56 h56 =>
 bnd (zB [v4, v56, v30] h56) fun v57 h57 =>
 bnd (aC 0 v57 h57) fun v58 h58 =>
 bnd (aC 1 v57 h58) fun v59 h59 =>
 some (.t [v58, v59], h59)))))
noncomputable abbrev c61 : Code := cf Tryz.f61
noncomputable abbrev r61 : K := aQ CF Tryz.f61
noncomputable def D61 (r : RT) (n : Nat) (c : Code) (X : Nat → K) (k : K) : K := aM CF r 84 n c X r61 k
theorem dNf : D61 r n c61 x0 r61 = (K1 (s61 r n) 0) :=
 (by kernel_rfl)
theorem dJb : aF CF r n 61 args h = s61 r n (aS args 0) h :=
 (by kernel_rfl : aF CF r n 61 args h = D61 r n c61 x0 r61 (aI args) h).trans ((congrFun (congrFun (dNf r n) (aI args)) h).trans (by kernel_rfl))
noncomputable def s67 (r : RT) (n : Nat) (x0 x1 : DV) (h0 : Hp) : aH :=
 bnd (aO x0 h0) fun v1 h1 =>
 bnd (aB 0 v1 h1) fun v2 h2 =>
 bnd (aA v2 h2) fun v3 h3 =>
 bnd (isF [v3, x1] h3) fun v4 h4 =>
 bnd (gD v4 true (some (x0, h4)) h4) fun v5 h5 =>
 bnd (gD v4 true (aO v5 h5) h5) fun v6 h6 =>
 bnd (gD v4 true (aB 0 v6 h6) h6) fun v7 h7 =>
 bnd (gD v4 true (aA v7 h7) h7) fun v8 h8 =>
 bnd (gD v4 true (some (x1, h8)) h8) fun v9 h9 =>
 bnd (gD v4 true (lT [v8, v9] h9) h9) fun v10 h10 =>
 bnd (gD v4 true (some (x0, h10)) h10) fun v11 h11 =>
 bnd (gD v4 true (r 30 [v11, (aE 1)] h11) h11) fun v12 h12 =>
 bnd (gD v4 true (aD .eql v10 v12 h12) h12) fun v13 h13 =>
 bnd (aR v4 v13 (.b false) h13) fun v14 h14 =>
 bnd (gD v14 true (some (x0, h14)) h14) fun v15 h15 =>
 bnd (gD v14 true (aO v15 h15) h15) fun v16 h16 =>
 bnd (gD v14 true (aB 0 v16 h16) h16) fun v17 h17 =>
 bnd (gD v14 true (aA v17 h17) h17) fun v18 h18 =>
 bnd (gD v14 true (some (x1, h18)) h18) fun v19 h19 =>
 bnd (gD v14 true (fZ [v18, v19] h19) h19) fun v20 h20 =>
 bnd (gD v14 true (aD .eql v20 (aE 6) h20) h20) fun v21 h21 =>
 bnd (aR v14 v21 (.b false) h21) fun v22 h22 =>
 some (v22, h22)
noncomputable abbrev c67 : Code := cf Tryz.f67
noncomputable abbrev r67 : K := aQ CF Tryz.f67
noncomputable def D67 (r : RT) (n : Nat) (c : Code) (X : Nat → K) (k : K) : K := aM CF r 31 n c X r67 k
theorem dOu : D67 r n c67 x0 r67 = (K2 (s67 r n) 0 1) :=
 (by kernel_rfl)
theorem dFw : aF CF r n 67 args h = s67 r n (aS args 0) (aS args 1) h :=
 (by kernel_rfl : aF CF r n 67 args h = D67 r n c67 x0 r67 (aI args) h).trans ((congrFun (congrFun (dOu r n) (aI args)) h).trans (by kernel_rfl))
noncomputable def s71 (r : RT) (n : Nat) (x0 : DV) (h0 : Hp) : aH :=
 bnd (gN [x0] h0) fun v1 h1 =>
 bnd (aC 0 v1 h1) fun v2 h2 =>
 bnd (aC 1 v1 h2) fun v3 h3 =>
 some (v2, h3)
noncomputable abbrev c71 : Code := cf Tryz.f71
noncomputable abbrev r71 : K := aQ CF Tryz.f71
noncomputable def D71 (r : RT) (n : Nat) (c : Code) (X : Nat → K) (k : K) : K := aM CF r 11 n c X r71 k
theorem dLq : D71 r n c71 x0 r71 = (K1 (s71 r n) 0) :=
 (by kernel_rfl)
theorem dJd : aF CF r n 71 args h = s71 r n (aS args 0) h :=
 (by kernel_rfl : aF CF r n 71 args h = D71 r n c71 x0 r71 (aI args) h).trans ((congrFun (congrFun (dLq r n) (aI args)) h).trans (by kernel_rfl))
noncomputable def s73 (r : RT) (n : Nat) (x0 x1 x2 : DV) (h0 : Hp) : aH :=
 bnd (r 30 [x0, (aE 9)] h0) fun v1 h1 =>
 bnd (aL [(aE 0), (aE 0)] 2 [(0, 1, x1), (1, 1, x2)] h1) fun v2 h2 =>
 bnd (r 82 [x0, v1, (aE 0), v2] h2) fun v3 h3 =>
 bnd (aC 0 v3 h3) fun v4 h4 =>
 bnd (aC 1 v3 h4) fun v5 h5 =>
 some (.t [v4, v5], h5)
noncomputable abbrev c73 : Code := cf Tryz.f73
noncomputable abbrev r73 : K := aQ CF Tryz.f73
noncomputable def D73 (r : RT) (n : Nat) (c : Code) (X : Nat → K) (k : K) : K := aM CF r 17 n c X r73 k
theorem dMk : D73 r n c73 x0 r73 = (K3 (s73 r n) 0 1 2) :=
 (by kernel_rfl)
theorem cRp : aF CF r n 73 args h = s73 r n (aS args 0) (aS args 1) (aS args 2) h :=
 (by kernel_rfl : aF CF r n 73 args h = D73 r n c73 x0 r73 (aI args) h).trans ((congrFun (congrFun (dMk r n) (aI args)) h).trans (by kernel_rfl))
noncomputable def s75 (r : RT) (n : Nat) (x0 x1 x2 : DV) (h0 : Hp) : aH :=
 bnd (r 45 [x0, x1] h0) fun v1 h1 =>
 bnd (aD .eql v1 (aE 0) h1) fun v2 h2 =>
 aP v2 (
 some (.t [(aE 0), (aE 0), (.s []), (aE 24)], h2)) (
 bnd (r 99 [x2] h2) fun v3 h3 =>
 bnd (aC 0 v3 h3) fun v4 h4 =>
 bnd (aC 1 v3 h4) fun v5 h5 =>
 bnd (aC 2 v3 h5) fun v6 h6 =>
 bnd (bL jQ h6) fun v7 h7 =>
 bnd (aG 6 v7 v4 h7) fun _ h8 =>
 bnd (aD .neq v6 (aE 0) h8) fun v9 h9 =>
 aP v9 (
 some (.t [(aE 0), v5, (.s []), v6], h9)) (
 bnd (aK 6 v7 (resv 1 h9)) fun v10 h10 =>
 bnd (r 77 [x0, v1] h10) fun v11 h11 =>
 cnd (bH (aK 6 v7 h11) v10 && true) (
 bnd (r 100 [v10, v11] h11) fun v12 h12 =>
 bnd (aC 0 v12 h12) fun v13 h13 =>
 bnd (aC 1 v12 h13) fun v14 h14 =>
 bnd (aC 2 v12 h14) fun v15 h15 =>
 bnd (jW (bW 0 h9.next) [(.s []), (aE 0), (aE 0), (aE 0), .l0, .l0] h15) fun v16 h16 =>
 bnd (aG 6 v16 v13 h16) fun v17 h17 =>
 bnd (aD .neq v15 (aE 0) h17) fun v18 h18 =>
 aP v18 (
 some (.t [(aE 0), (aE 0), v14, v15], h18)) (
 bnd (aK 6 v16 h18) fun v19 h19 =>
 bnd (r 101 [x0, v1, v19] h19) fun v20 h20 =>
 bnd (aC 0 v20 h20) fun v21 h21 =>
 bnd (aC 1 v20 h21) fun v22 h22 =>
 bnd (aD .neq v22 (aE 0) h22) fun v23 h23 =>
 aP v23 (
 some (.t [(aE 0), (aE 0), (.s []), v22], h23)) (
 some (.t [v21, (aE 0), (.s []), (aE 0)], h23))))))
noncomputable abbrev c75 : Code := cf Tryz.f75
noncomputable abbrev r75 : K := aQ CF Tryz.f75
noncomputable def D75 (r : RT) (n : Nat) (c : Code) (X : Nat → K) (k : K) : K := aM CF r 56 n c X r75 k
theorem dMg : D75 r n c75 x0 r75 = (K3 (s75 r n) 0 1 2) :=
 (by kernel_rfl)
theorem dGh : aF CF r n 75 args h = s75 r n (aS args 0) (aS args 1) (aS args 2) h :=
 (by kernel_rfl : aF CF r n 75 args h = D75 r n c75 x0 r75 (aI args) h).trans ((congrFun (congrFun (dMg r n) (aI args)) h).trans (by kernel_rfl))
noncomputable def bY (r : RT) (n : Nat) (x5 : DV) (h0 : Hp) : aH :=
 some (x5, h0)
noncomputable def cS (r : RT) (n : Nat) (kk5 : dH) (x0 x1 x5 x6 : DV) (h0 : Hp) : aH :=
 bnd (aD .sub x6 (aE 1) h0) fun v1 h1 =>
  kk5 x0 x1 x5 v1 h1
noncomputable def dZ (r : RT) (n : Nat) (kk5 : dH) (x0 x1 x5 x6 x7 : DV) (h0 : Hp) : aH :=
 bnd (aZ 1 16 x7 x5 h0) fun v1 h1 =>
 bnd (r 35 [x0, x1] h1) fun v2 h2 =>
  cS r n kk5 x0 v2 v1 x6 h2
noncomputable def aCs (r : RT) (n : Nat) (kk5 : dH) (kk12 : TT8) (x0 x1 x5 x6 x7 x8 x34 x35 : DV) (h0 : Hp) : aH :=
 bnd (aD .lss x35 x34 h0) fun v1 h1 =>
 aP v1 (
 bnd (r 51 [x0, x8, x35] h1) fun v2 h2 =>
 bnd (r 33 [x0, v2] h2) fun v3 h3 =>
 bnd (aC 0 v3 h3) fun v4 h4 =>
 bnd (aC 1 v3 h4) fun v5 h5 =>
 bnd (aL [(.s [])] 1 [(0, 1, v4)] h5) fun v6 h6 =>
 bnd (aZ 1 16 x7 v6 h6) fun v7 h7 =>
 bnd (aD .add x35 (aE 1) h7) fun v8 h8 =>
      kk12 x0 x1 x5 x6 v7 x8 x34 v8 h8) (
      dZ r n kk5 x0 x1 x5 x6 x7 h1)
noncomputable def tC (r : RT) (n : Nat) (kk5 : dH) (m : Nat) : TT8 :=
 Nat.rec (motive := fun _ => TT8) (fun _ _ _ _ _ _ _ _ _ => none) (fun _ ih => aCs r n kk5 ih) m
noncomputable def bGj (r : RT) (n : Nat) (kk5 : dH) : TT8 := tC r n kk5 n
noncomputable def aOl (r : RT) (n : Nat) (kk5 : dH) (x0 x1 x5 x6 x7 x8 x34 x35 : DV) (h0 : Hp) : aH :=
 bGj r n kk5 x0 x1 x5 x6 x7 x8 x34 x35 h0
noncomputable def bRu (r : RT) (n : Nat) (kk5 : dH) (x0 x1 x5 x6 x7 x8 : DV) (h0 : Hp) : aH :=
 bnd (aO x0 h0) fun v1 h1 =>
 bnd (aB 0 v1 h1) fun v2 h2 =>
 bnd (aA v2 h2) fun v3 h3 =>
 bnd (fZ [v3, x8] h3) fun v4 h4 =>
  aOl r n kk5 x0 x1 x5 x6 x7 x8 v4 (aE 0) h4
noncomputable def bPj (r : RT) (n : Nat) (kk5 : dH) (x0 x1 x5 x6 x7 : DV) (h0 : Hp) : aH :=
 bnd (r 51 [x0, x1, (aE 3)] h0) fun v1 h1 =>
  bRu r n kk5 x0 x1 x5 x6 x7 v1 h1
noncomputable def bGm (r : RT) (n : Nat) (kk5 : dH) (x0 x1 x5 x6 : DV) (h0 : Hp) : aH :=
 bPj r n kk5 x0 x1 x5 x6 .l0 h0
noncomputable def bWn (r : RT) (n : Nat) (kk5 : dH) (x0 x1 x5 x6 : DV) (h0 : Hp) : aH :=
 bnd (aD .gtr x6 (aE 0) h0) fun v1 h1 =>
 bnd (gD v1 true (some (x0, h1)) h1) fun v2 h2 =>
 bnd (gD v1 true (some (x1, h2)) h2) fun v3 h3 =>
 bnd (gD v1 true (r 67 [v2, v3] h3) h3) fun v4 h4 =>
 bnd (aR v1 v4 (.b false) h4) fun v5 h5 =>
 aP v5 (
   bGm r n kk5 x0 x1 x5 x6 h5) (
   bY r n x5 h5)
noncomputable def aEu (r : RT) (n : Nat) (m : Nat) : dH :=
 Nat.rec (motive := fun _ => dH) (fun _ _ _ _ _ => none) (fun _ ih => bWn r n ih) m
noncomputable def cRn (r : RT) (n : Nat) : dH := aEu r n n
noncomputable def bUn (r : RT) (n : Nat) (x0 x1 x5 x6 : DV) (h0 : Hp) : aH :=
 cRn r n x0 x1 x5 x6 h0
noncomputable def bYe (r : RT) (n : Nat) (x0 x1 x5 : DV) (h0 : Hp) : aH :=
 bnd (aO x0 h0) fun v1 h1 =>
 bnd (aB 0 v1 h1) fun v2 h2 =>
 bnd (aA v2 h2) fun v3 h3 =>
 bnd (zR [v3] h3) fun v4 h4 =>
  bUn r n x0 x1 x5 v4 h4
noncomputable def bMl (r : RT) (n : Nat) (x0 x1 : DV) (h0 : Hp) : aH :=
 bYe r n x0 x1 .l0 h0
noncomputable def s77 (r : RT) (n : Nat) (x0 x1 : DV) (h0 : Hp) : aH :=
 bMl r n x0 x1 h0
noncomputable abbrev c77 : Code := cf Tryz.f77
noncomputable abbrev aXs : Code := cR c77
noncomputable abbrev aYt : Code := cR aXs
noncomputable abbrev dIb : Code := cR aYt
noncomputable abbrev aLz : Code := cL aYt
noncomputable abbrev bIc : Code := cR aLz
noncomputable abbrev aWw : Code := cL bIc
noncomputable abbrev nC : Code := cL aWw
noncomputable abbrev aUg : Code := cR nC
noncomputable abbrev dKe : Code := cR aUg
noncomputable abbrev aAq : Code := cL aUg
noncomputable abbrev aGg : Code := cL aAq
noncomputable abbrev aIh : Code := cR aGg
noncomputable abbrev aBc : Code := cR aIh
noncomputable abbrev cSe : Code := cR aBc
noncomputable abbrev xE : Code := cL aBc
noncomputable abbrev aOt : Code := cR xE
noncomputable abbrev aGl : Code := cL aOt
noncomputable abbrev mH : Code := cL aGl
noncomputable abbrev bKr : Code := cL xE
noncomputable abbrev bKd : Code := cL aIh
noncomputable abbrev cAq : Code := cL aGg
noncomputable abbrev bHx : Code := cL nC
noncomputable abbrev bRy : Code := cL aLz
noncomputable abbrev bQs : Code := cL aXs
noncomputable abbrev bYq : Code := cL c77
noncomputable abbrev r77 : K := aQ CF Tryz.f77
noncomputable def D77 (r : RT) (n : Nat) (c : Code) (X : Nat → K) (k : K) : K := aM CF r 59 n c X r77 k
theorem cUa : D77 r n dIb x0 r77 = (K1 (bY r n) 5) :=
 (by kernel_rfl)
theorem cUx (kk5 : dH) : D77 r n dKe (xs x0 0 (K1 (bY r n) 5)) (K4 kk5 0 1 5 6) = (K4 (cS r n kk5) 0 1 5 6) :=
 (by kernel_rfl)
theorem cMt (kk5 : dH) : D77 r n cSe (xs (xs x0 0 (K1 (bY r n) 5)) 1 (K4 (cS r n kk5) 0 1 5 6)) (K4 (cS r n kk5) 0 1 5 6) = (K5 (dZ r n kk5) 0 1 5 6 7) :=
 (by kernel_rfl)
theorem bZv (kk5 : dH) (kk12 : TT8) (q0 : TT1) (q1 : dH) (q2 : cD) : D77 r n mH (xs (xs (xs x0 0 (K1 q0 5)) 1 (K4 q1 0 1 5 6)) 2 (K5 q2 0 1 5 6 7)) (K8 kk12 0 1 5 6 7 8 34 35) = fun (env : aU) (h : Hp) =>
 bnd (aD .lss (env 35) (env 34) h) fun v1 h1 =>
 aP v1 (
 bnd (r 51 [(env 0), (env 8), (env 35)] h1) fun v2 h2 =>
 bnd (r 33 [(env 0), v2] h2) fun v3 h3 =>
 bnd (aC 0 v3 h3) fun v4 h4 =>
 bnd (aC 1 v3 h4) fun v5 h5 =>
 bnd (aL [(.s [])] 1 [(0, 1, v4)] h5) fun v6 h6 =>
 bnd (aZ 1 16 (env 7) v6 h6) fun v7 h7 =>
 bnd (aD .add (env 35) (aE 1) h7) fun v8 h8 =>
      kk12 (env 0) (env 1) (env 5) (env 6) v7 (env 8) (env 34) v8 h8) (
      q2 (env 0) (env 1) (env 5) (env 6) (env 7) h1) := by kernel_rfl
theorem bCq (kk5 : dH) (kk12 : TT8) : (fun (env : aU) (h : Hp) =>
 bnd (aD .lss (env 35) (env 34) h) fun v1 h1 =>
 aP v1 (
 bnd (r 51 [(env 0), (env 8), (env 35)] h1) fun v2 h2 =>
 bnd (r 33 [(env 0), v2] h2) fun v3 h3 =>
 bnd (aC 0 v3 h3) fun v4 h4 =>
 bnd (aC 1 v3 h4) fun v5 h5 =>
 bnd (aL [(.s [])] 1 [(0, 1, v4)] h5) fun v6 h6 =>
 bnd (aZ 1 16 (env 7) v6 h6) fun v7 h7 =>
 bnd (aD .add (env 35) (aE 1) h7) fun v8 h8 =>
      kk12 (env 0) (env 1) (env 5) (env 6) v7 (env 8) (env 34) v8 h8) (
      dZ r n kk5 (env 0) (env 1) (env 5) (env 6) (env 7) h1)) = (K8 (aCs r n kk5 kk12) 0 1 5 6 7 8 34 35) := by kernel_rfl
theorem bNd (kk5 : dH) (kk12 : TT8) : D77 r n mH (xs (xs (xs x0 0 (K1 (bY r n) 5)) 1 (K4 (cS r n kk5) 0 1 5 6)) 2 (K5 (dZ r n kk5) 0 1 5 6 7)) (K8 kk12 0 1 5 6 7 8 34 35) = (K8 (aCs r n kk5 kk12) 0 1 5 6 7 8 34 35) :=
 (bZv r n kk5 kk12 (bY r n) (cS r n kk5) (dZ r n kk5)).trans (bCq r n kk5 kk12)
theorem bHw (kk5 : dH) (m : Nat) : aN (fun kk => D77 r n mH (xs (xs (xs x0 0 (K1 (bY r n) 5)) 1 (K4 (cS r n kk5) 0 1 5 6)) 2 (K5 (dZ r n kk5) 0 1 5 6 7)) kk) m = (K8 (tC r n kk5 m) 0 1 5 6 7 8 34 35) := by
 induction m with
 | zero => exact (by kernel_rfl : aN (fun kk => D77 r n mH (xs (xs (xs x0 0 (K1 (bY r n) 5)) 1 (K4 (cS r n kk5) 0 1 5 6)) 2 (K5 (dZ r n kk5) 0 1 5 6 7)) kk) 0 = (K8 (tC r n kk5 0) 0 1 5 6 7 8 34 35))
 | succ m ih =>
  refine (by kernel_rfl : aN (fun kk => D77 r n mH (xs (xs (xs x0 0 (K1 (bY r n) 5)) 1 (K4 (cS r n kk5) 0 1 5 6)) 2 (K5 (dZ r n kk5) 0 1 5 6 7)) kk) (m + 1) = D77 r n mH (xs (xs (xs x0 0 (K1 (bY r n) 5)) 1 (K4 (cS r n kk5) 0 1 5 6)) 2 (K5 (dZ r n kk5) 0 1 5 6 7)) (aN (fun kk => D77 r n mH (xs (xs (xs x0 0 (K1 (bY r n) 5)) 1 (K4 (cS r n kk5) 0 1 5 6)) 2 (K5 (dZ r n kk5) 0 1 5 6 7)) kk) m)).trans ?_
  rw [ih]
  exact (bNd r n kk5 (tC r n kk5 m)).trans (by kernel_rfl)
theorem cCr (kk5 : dH) : D77 r n aGl (xs (xs (xs x0 0 (K1 (bY r n) 5)) 1 (K4 (cS r n kk5) 0 1 5 6)) 2 (K5 (dZ r n kk5) 0 1 5 6 7)) (K5 (dZ r n kk5) 0 1 5 6 7) = (K8 (bGj r n kk5) 0 1 5 6 7 8 34 35) :=
 (by kernel_rfl : D77 r n aGl (xs (xs (xs x0 0 (K1 (bY r n) 5)) 1 (K4 (cS r n kk5) 0 1 5 6)) 2 (K5 (dZ r n kk5) 0 1 5 6 7)) (K5 (dZ r n kk5) 0 1 5 6 7) = aN (fun kk => D77 r n mH (xs (xs (xs x0 0 (K1 (bY r n) 5)) 1 (K4 (cS r n kk5) 0 1 5 6)) 2 (K5 (dZ r n kk5) 0 1 5 6 7)) kk) n).trans ((bHw r n kk5 n).trans (by kernel_rfl))
theorem cKp (kk5 : dH) : D77 r n aOt (xs (xs x0 0 (K1 (bY r n) 5)) 1 (K4 (cS r n kk5) 0 1 5 6)) (K5 (dZ r n kk5) 0 1 5 6 7) = (K8 (aOl r n kk5) 0 1 5 6 7 8 34 35) :=
 (by kernel_rfl : D77 r n aOt (xs (xs x0 0 (K1 (bY r n) 5)) 1 (K4 (cS r n kk5) 0 1 5 6)) (K5 (dZ r n kk5) 0 1 5 6 7) = D77 r n aGl (xs (xs (xs x0 0 (K1 (bY r n) 5)) 1 (K4 (cS r n kk5) 0 1 5 6)) 2 (K5 (dZ r n kk5) 0 1 5 6 7)) (K5 (dZ r n kk5) 0 1 5 6 7)).trans
 ((cCr r n kk5).trans (by kernel_rfl))
theorem cPy (kk5 : dH) : D77 r n aBc (xs (xs x0 0 (K1 (bY r n) 5)) 1 (K4 (cS r n kk5) 0 1 5 6)) (K4 (cS r n kk5) 0 1 5 6) = D77 r n xE (xs (xs x0 0 (K1 (bY r n) 5)) 1 (K4 (cS r n kk5) 0 1 5 6)) (K5 (dZ r n kk5) 0 1 5 6 7) :=
 congrArg (fun k => D77 r n xE (xs (xs x0 0 (K1 (bY r n) 5)) 1 (K4 (cS r n kk5) 0 1 5 6)) k) (cMt r n kk5)
theorem cNc (kk5 : dH) : D77 r n xE (xs (xs x0 0 (K1 (bY r n) 5)) 1 (K4 (cS r n kk5) 0 1 5 6)) (K5 (dZ r n kk5) 0 1 5 6 7) = D77 r n bKr (xs (xs x0 0 (K1 (bY r n) 5)) 1 (K4 (cS r n kk5) 0 1 5 6)) (K8 (aOl r n kk5) 0 1 5 6 7 8 34 35) :=
 congrArg (fun k => D77 r n bKr (xs (xs x0 0 (K1 (bY r n) 5)) 1 (K4 (cS r n kk5) 0 1 5 6)) k) (cKp r n kk5)
theorem cSa (kk5 : dH) : D77 r n aBc (xs (xs x0 0 (K1 (bY r n) 5)) 1 (K4 (cS r n kk5) 0 1 5 6)) (K4 (cS r n kk5) 0 1 5 6) = (K6 (bRu r n kk5) 0 1 5 6 7 8) :=
 (cPy r n kk5).trans
 ((cNc r n kk5).trans
 ((by kernel_rfl)))
theorem cBw (kk5 : dH) : D77 r n aIh (xs (xs x0 0 (K1 (bY r n) 5)) 1 (K4 (cS r n kk5) 0 1 5 6)) (K4 (cS r n kk5) 0 1 5 6) = D77 r n bKd (xs (xs x0 0 (K1 (bY r n) 5)) 1 (K4 (cS r n kk5) 0 1 5 6)) (K6 (bRu r n kk5) 0 1 5 6 7 8) :=
 congrArg (fun k => D77 r n bKd (xs (xs x0 0 (K1 (bY r n) 5)) 1 (K4 (cS r n kk5) 0 1 5 6)) k) (cSa r n kk5)
theorem cYu (kk5 : dH) : D77 r n aIh (xs (xs x0 0 (K1 (bY r n) 5)) 1 (K4 (cS r n kk5) 0 1 5 6)) (K4 (cS r n kk5) 0 1 5 6) = (K5 (bPj r n kk5) 0 1 5 6 7) :=
 (cBw r n kk5).trans
 ((by kernel_rfl))
theorem cFl (kk5 : dH) : D77 r n aUg (xs x0 0 (K1 (bY r n) 5)) (K4 kk5 0 1 5 6) = D77 r n aAq (xs x0 0 (K1 (bY r n) 5)) (K4 (cS r n kk5) 0 1 5 6) :=
 congrArg (fun k => D77 r n aAq (xs x0 0 (K1 (bY r n) 5)) k) (cUx r n kk5)
theorem cNz (kk5 : dH) : D77 r n aGg (xs (xs x0 0 (K1 (bY r n) 5)) 1 (K4 (cS r n kk5) 0 1 5 6)) (K4 (cS r n kk5) 0 1 5 6) = D77 r n cAq (xs (xs x0 0 (K1 (bY r n) 5)) 1 (K4 (cS r n kk5) 0 1 5 6)) (K5 (bPj r n kk5) 0 1 5 6 7) :=
 congrArg (fun k => D77 r n cAq (xs (xs x0 0 (K1 (bY r n) 5)) 1 (K4 (cS r n kk5) 0 1 5 6)) k) (cYu r n kk5)
theorem cTf (kk5 : dH) : D77 r n aUg (xs x0 0 (K1 (bY r n) 5)) (K4 kk5 0 1 5 6) = (K4 (bGm r n kk5) 0 1 5 6) :=
 (cFl r n kk5).trans
 ((by kernel_rfl : D77 r n aAq (xs x0 0 (K1 (bY r n) 5)) (K4 (cS r n kk5) 0 1 5 6) = D77 r n aGg (xs (xs x0 0 (K1 (bY r n) 5)) 1 (K4 (cS r n kk5) 0 1 5 6)) (K4 (cS r n kk5) 0 1 5 6)).trans
 ((cNz r n kk5).trans
 ((by kernel_rfl))))
theorem cKh (kk5 : dH) : D77 r n nC (xs x0 0 (K1 (bY r n) 5)) (K4 kk5 0 1 5 6) = D77 r n bHx (xs x0 0 (K1 (bY r n) 5)) (K4 (bGm r n kk5) 0 1 5 6) :=
 congrArg (fun k => D77 r n bHx (xs x0 0 (K1 (bY r n) 5)) k) (cTf r n kk5)
theorem cLj (kk5 : dH) : D77 r n nC (xs x0 0 (K1 (bY r n) 5)) (K4 kk5 0 1 5 6) = (K4 (bWn r n kk5) 0 1 5 6) :=
 (cKh r n kk5).trans
 ((by kernel_rfl))
theorem cMr (m : Nat) : aN (fun kk => D77 r n nC (xs x0 0 (K1 (bY r n) 5)) kk) m = (K4 (aEu r n m) 0 1 5 6) := by
 induction m with
 | zero => exact (by kernel_rfl : aN (fun kk => D77 r n nC (xs x0 0 (K1 (bY r n) 5)) kk) 0 = (K4 (aEu r n 0) 0 1 5 6))
 | succ m ih =>
  refine (by kernel_rfl : aN (fun kk => D77 r n nC (xs x0 0 (K1 (bY r n) 5)) kk) (m + 1) = D77 r n nC (xs x0 0 (K1 (bY r n) 5)) (aN (fun kk => D77 r n nC (xs x0 0 (K1 (bY r n) 5)) kk) m)).trans ?_
  rw [ih]
  exact (cLj r n (aEu r n m)).trans (by kernel_rfl)
theorem cWv : D77 r n aWw (xs x0 0 (K1 (bY r n) 5)) (K1 (bY r n) 5) = (K4 (cRn r n) 0 1 5 6) :=
 (by kernel_rfl : D77 r n aWw (xs x0 0 (K1 (bY r n) 5)) (K1 (bY r n) 5) = aN (fun kk => D77 r n nC (xs x0 0 (K1 (bY r n) 5)) kk) n).trans ((cMr r n n).trans (by kernel_rfl))
theorem dBm : D77 r n bIc x0 (K1 (bY r n) 5) = (K4 (bUn r n) 0 1 5 6) :=
 (by kernel_rfl : D77 r n bIc x0 (K1 (bY r n) 5) = D77 r n aWw (xs x0 0 (K1 (bY r n) 5)) (K1 (bY r n) 5)).trans
 ((cWv r n).trans (by kernel_rfl))
theorem cJq : D77 r n aYt x0 r77 = D77 r n aLz x0 (K1 (bY r n) 5) :=
 congrArg (fun k => D77 r n aLz x0 k) (cUa r n)
theorem cMg : D77 r n aLz x0 (K1 (bY r n) 5) = D77 r n bRy x0 (K4 (bUn r n) 0 1 5 6) :=
 congrArg (fun k => D77 r n bRy x0 k) (dBm r n)
theorem cUf : D77 r n aYt x0 r77 = (K3 (bYe r n) 0 1 5) :=
 (cJq r n).trans
 ((cMg r n).trans
 ((by kernel_rfl)))
theorem cAx : D77 r n aXs x0 r77 = D77 r n bQs x0 (K3 (bYe r n) 0 1 5) :=
 congrArg (fun k => D77 r n bQs x0 k) (cUf r n)
theorem dAi : D77 r n aXs x0 r77 = (K2 (bMl r n) 0 1) :=
 (cAx r n).trans
 ((by kernel_rfl))
theorem cXw : D77 r n c77 x0 r77 = D77 r n bYq x0 (K2 (bMl r n) 0 1) :=
 congrArg (fun k => D77 r n bYq x0 k) (dAi r n)
theorem dPo : D77 r n c77 x0 r77 = (K2 (s77 r n) 0 1) :=
 (cXw r n).trans
 ((by kernel_rfl))
theorem dGu : aF CF r n 77 args h = s77 r n (aS args 0) (aS args 1) h :=
 (by kernel_rfl : aF CF r n 77 args h = D77 r n c77 x0 r77 (aI args) h).trans ((congrFun (congrFun (dPo r n) (aI args)) h).trans (by kernel_rfl))
noncomputable def gM (r : RT) (n : Nat) (x10 : DV) (h0 : Hp) : aH :=
 some (.t [x10, (aE 0)], h0)
noncomputable def qM (r : RT) (n : Nat) (kk6 : cD) (x0 x10 x29 x30 x31 : DV) (h0 : Hp) : aH :=
 bnd (aD .lss x31 x30 h0) fun v1 h1 =>
 aP v1 (
 bnd (aJ 1 x29 x31 h1) fun v2 h2 =>
 bnd (aA v2 h2) fun v3 h3 =>
 bnd (aO x0 h3) fun v4 h4 =>
 bnd (aB 0 v4 h4) fun v5 h5 =>
 bnd (aA v5 h5) fun v6 h6 =>
 bnd (uT [v6, x10, x31, v3] h6) fun v7 h7 =>
 bnd (aD .add x31 (aE 1) h7) fun v8 h8 =>
      kk6 x0 x10 x29 x30 v8 h8) (
      gM r n x10 h1)
noncomputable def nH (r : RT) (n : Nat) (m : Nat) : cD :=
 Nat.rec (motive := fun _ => cD) (fun _ _ _ _ _ _ => none) (fun _ ih => qM r n ih) m
noncomputable def bOt (r : RT) (n : Nat) : cD := nH r n n
noncomputable def aXl (r : RT) (n : Nat) (x0 x10 x29 x30 x31 : DV) (h0 : Hp) : aH :=
 bOt r n x0 x10 x29 x30 x31 h0
noncomputable def aWo (r : RT) (n : Nat) (x0 x3 x10 : DV) (h0 : Hp) : aH :=
 bnd (bV x3 h0) fun v1 h1 =>
  aXl r n x0 x10 x3 v1 (aE 0) h1
noncomputable def aXu (r : RT) (n : Nat) (x0 x3 x10 x11 : DV) (h0 : Hp) : aH :=
 bnd (aD .neq x11 (aE 0) h0) fun v1 h1 =>
 aP v1 (
 some (.t [(aE 0), x11], h1)) (
  aWo r n x0 x3 x10 h1)
noncomputable def aVb (r : RT) (n : Nat) (x0 x1 x2 x3 : DV) (h0 : Hp) : aH :=
 bnd (aO x0 h0) fun v1 h1 =>
 bnd (aB 0 v1 h1) fun v2 h2 =>
 bnd (aA v2 h2) fun v3 h3 =>
 bnd (bV x3 h3) fun v4 h4 =>
 bnd (iO [v3, x1, x2, v4] h4) fun v5 h5 =>
 bnd (aC 0 v5 h5) fun v6 h6 =>
 bnd (aC 1 v5 h6) fun v7 h7 =>
  aXu r n x0 x3 v6 v7 h7
noncomputable def s82 (r : RT) (n : Nat) (x0 x1 x2 x3 : DV) (h0 : Hp) : aH :=
 aVb r n x0 x1 x2 x3 h0
noncomputable abbrev c82 : Code := cf Tryz.f82
noncomputable abbrev bBo : Code := cR c82
noncomputable abbrev aXw : Code := cR bBo
noncomputable abbrev aWt : Code := cR aXw
noncomputable abbrev dKl : Code := cR aWt
noncomputable abbrev aLs : Code := cL aWt
noncomputable abbrev bYh : Code := cR aLs
noncomputable abbrev bBm : Code := cL bYh
noncomputable abbrev uN : Code := cL bBm
noncomputable abbrev cRh : Code := cL aLs
noncomputable abbrev bHt : Code := cL aXw
noncomputable abbrev bYn : Code := cL bBo
noncomputable abbrev bQk : Code := cL c82
noncomputable abbrev r82 : K := aQ CF Tryz.f82
noncomputable def D82 (r : RT) (n : Nat) (c : Code) (X : Nat → K) (k : K) : K := aM CF r 46 n c X r82 k
theorem dAt : D82 r n dKl x0 r82 = (K1 (gM r n) 10) :=
 (by kernel_rfl)
theorem cEy (kk6 : cD) : D82 r n uN (xs x0 0 (K1 (gM r n) 10)) (K5 kk6 0 10 29 30 31) = (K5 (qM r n kk6) 0 10 29 30 31) :=
 (by kernel_rfl)
theorem cIp (m : Nat) : aN (fun kk => D82 r n uN (xs x0 0 (K1 (gM r n) 10)) kk) m = (K5 (nH r n m) 0 10 29 30 31) := by
 induction m with
 | zero => exact (by kernel_rfl : aN (fun kk => D82 r n uN (xs x0 0 (K1 (gM r n) 10)) kk) 0 = (K5 (nH r n 0) 0 10 29 30 31))
 | succ m ih =>
  refine (by kernel_rfl : aN (fun kk => D82 r n uN (xs x0 0 (K1 (gM r n) 10)) kk) (m + 1) = D82 r n uN (xs x0 0 (K1 (gM r n) 10)) (aN (fun kk => D82 r n uN (xs x0 0 (K1 (gM r n) 10)) kk) m)).trans ?_
  rw [ih]
  exact (cEy r n (nH r n m)).trans (by kernel_rfl)
theorem cYn : D82 r n bBm (xs x0 0 (K1 (gM r n) 10)) (K1 (gM r n) 10) = (K5 (bOt r n) 0 10 29 30 31) :=
 (by kernel_rfl : D82 r n bBm (xs x0 0 (K1 (gM r n) 10)) (K1 (gM r n) 10) = aN (fun kk => D82 r n uN (xs x0 0 (K1 (gM r n) 10)) kk) n).trans ((cIp r n n).trans (by kernel_rfl))
theorem cWw : D82 r n bYh x0 (K1 (gM r n) 10) = (K5 (aXl r n) 0 10 29 30 31) :=
 (by kernel_rfl : D82 r n bYh x0 (K1 (gM r n) 10) = D82 r n bBm (xs x0 0 (K1 (gM r n) 10)) (K1 (gM r n) 10)).trans
 ((cYn r n).trans (by kernel_rfl))
theorem cPf : D82 r n aWt x0 r82 = D82 r n aLs x0 (K1 (gM r n) 10) :=
 congrArg (fun k => D82 r n aLs x0 k) (dAt r n)
theorem cLs : D82 r n aLs x0 (K1 (gM r n) 10) = D82 r n cRh x0 (K5 (aXl r n) 0 10 29 30 31) :=
 congrArg (fun k => D82 r n cRh x0 k) (cWw r n)
theorem dBq : D82 r n aWt x0 r82 = (K3 (aWo r n) 0 3 10) :=
 (cPf r n).trans
 ((cLs r n).trans
 ((by kernel_rfl)))
theorem cEf : D82 r n aXw x0 r82 = D82 r n bHt x0 (K3 (aWo r n) 0 3 10) :=
 congrArg (fun k => D82 r n bHt x0 k) (dBq r n)
theorem cRv : D82 r n aXw x0 r82 = (K4 (aXu r n) 0 3 10 11) :=
 (cEf r n).trans
 ((by kernel_rfl))
theorem cQe : D82 r n bBo x0 r82 = D82 r n bYn x0 (K4 (aXu r n) 0 3 10 11) :=
 congrArg (fun k => D82 r n bYn x0 k) (cRv r n)
theorem dCk : D82 r n bBo x0 r82 = (K4 (aVb r n) 0 1 2 3) :=
 (cQe r n).trans
 ((by kernel_rfl))
theorem dKa : D82 r n c82 x0 r82 = D82 r n bQk x0 (K4 (aVb r n) 0 1 2 3) :=
 congrArg (fun k => D82 r n bQk x0 k) (dCk r n)
theorem dLo : D82 r n c82 x0 r82 = (K4 (s82 r n) 0 1 2 3) :=
 (dKa r n).trans
 ((by kernel_rfl))
theorem cQg : aF CF r n 82 args h = s82 r n (aS args 0) (aS args 1) (aS args 2) (aS args 3) h :=
 (by kernel_rfl : aF CF r n 82 args h = D82 r n c82 x0 r82 (aI args) h).trans ((congrFun (congrFun (dLo r n) (aI args)) h).trans (by kernel_rfl))
noncomputable def fN (r : RT) (n : Nat) (x0 x1 x8 : DV) (h0 : Hp) : aH :=
 bnd (r 82 [x0, x1, (aE 2), x8] h0) fun v1 h1 =>
 bnd (aC 0 v1 h1) fun v2 h2 =>
 bnd (aC 1 v1 h2) fun v3 h3 =>
 some (.t [v2, v3], h3)
noncomputable def nP (r : RT) (n : Nat) (kk5 : fC) (x0 x1 x2 x8 x11 x12 : DV) (h0 : Hp) : aH :=
 bnd (aD .lss x12 x11 h0) fun v1 h1 =>
 aP v1 (
 bnd (fD x2 x12 h1) fun v2 h2 =>
 bnd (dW .i64 v2 h2) fun v3 h3 =>
 bnd (aL [(aE 0)] 1 [(0, 1, v3)] h3) fun v4 h4 =>
 bnd (aZ 1 8 x8 v4 h4) fun v5 h5 =>
 bnd (aD .add x12 (aE 1) h5) fun v6 h6 =>
      kk5 x0 x1 x2 v5 x11 v6 h6) (
      fN r n x0 x1 x8 h1)
noncomputable def nJ (r : RT) (n : Nat) (m : Nat) : fC :=
 Nat.rec (motive := fun _ => fC) (fun _ _ _ _ _ _ _ => none) (fun _ ih => nP r n ih) m
noncomputable def bTf (r : RT) (n : Nat) : fC := nJ r n n
noncomputable def bAl (r : RT) (n : Nat) (x0 x1 x2 x8 x11 x12 : DV) (h0 : Hp) : aH :=
 bTf r n x0 x1 x2 x8 x11 x12 h0
noncomputable def aXy (r : RT) (n : Nat) (x0 x1 x2 x8 : DV) (h0 : Hp) : aH :=
 bnd (dR x2 h0) fun v1 h1 =>
  bAl r n x0 x1 x2 x8 v1 (aE 0) h1
noncomputable def aWk (r : RT) (n : Nat) (x0 x1 x2 : DV) (h0 : Hp) : aH :=
 aXy r n x0 x1 x2 .l0 h0
noncomputable def s83 (r : RT) (n : Nat) (x0 x1 x2 : DV) (h0 : Hp) : aH :=
 aWk r n x0 x1 x2 h0
noncomputable abbrev c83 : Code := cf Tryz.f83
noncomputable abbrev bBn : Code := cR c83
noncomputable abbrev aYy : Code := cR bBn
noncomputable abbrev dLb : Code := cR aYy
noncomputable abbrev aKh : Code := cL aYy
noncomputable abbrev bZf : Code := cR aKh
noncomputable abbrev aWx : Code := cL bZf
noncomputable abbrev rM : Code := cL aWx
noncomputable abbrev cQh : Code := cL aKh
noncomputable abbrev cQy : Code := cL bBn
noncomputable abbrev bPz : Code := cL c83
noncomputable abbrev r83 : K := aQ CF Tryz.f83
noncomputable def D83 (r : RT) (n : Nat) (c : Code) (X : Nat → K) (k : K) : K := aM CF r 29 n c X r83 k
theorem cUi : D83 r n dLb x0 r83 = (K3 (fN r n) 0 1 8) :=
 (by kernel_rfl)
theorem cJl (kk5 : fC) (q0 : mV) : D83 r n rM (xs x0 0 (K3 q0 0 1 8)) (K6 kk5 0 1 2 8 11 12) = fun (env : aU) (h : Hp) =>
 bnd (aD .lss (env 12) (env 11) h) fun v1 h1 =>
 aP v1 (
 bnd (fD (env 2) (env 12) h1) fun v2 h2 =>
 bnd (dW .i64 v2 h2) fun v3 h3 =>
 bnd (aL [(aE 0)] 1 [(0, 1, v3)] h3) fun v4 h4 =>
 bnd (aZ 1 8 (env 8) v4 h4) fun v5 h5 =>
 bnd (aD .add (env 12) (aE 1) h5) fun v6 h6 =>
      kk5 (env 0) (env 1) (env 2) v5 (env 11) v6 h6) (
      q0 (env 0) (env 1) (env 8) h1) := by kernel_rfl
theorem bVx (kk5 : fC) : (fun (env : aU) (h : Hp) =>
 bnd (aD .lss (env 12) (env 11) h) fun v1 h1 =>
 aP v1 (
 bnd (fD (env 2) (env 12) h1) fun v2 h2 =>
 bnd (dW .i64 v2 h2) fun v3 h3 =>
 bnd (aL [(aE 0)] 1 [(0, 1, v3)] h3) fun v4 h4 =>
 bnd (aZ 1 8 (env 8) v4 h4) fun v5 h5 =>
 bnd (aD .add (env 12) (aE 1) h5) fun v6 h6 =>
      kk5 (env 0) (env 1) (env 2) v5 (env 11) v6 h6) (
      fN r n (env 0) (env 1) (env 8) h1)) = (K6 (nP r n kk5) 0 1 2 8 11 12) := by kernel_rfl
theorem cHs (kk5 : fC) : D83 r n rM (xs x0 0 (K3 (fN r n) 0 1 8)) (K6 kk5 0 1 2 8 11 12) = (K6 (nP r n kk5) 0 1 2 8 11 12) :=
 (cJl r n kk5 (fN r n)).trans (bVx r n kk5)
theorem cGl (m : Nat) : aN (fun kk => D83 r n rM (xs x0 0 (K3 (fN r n) 0 1 8)) kk) m = (K6 (nJ r n m) 0 1 2 8 11 12) := by
 induction m with
 | zero => exact (by kernel_rfl : aN (fun kk => D83 r n rM (xs x0 0 (K3 (fN r n) 0 1 8)) kk) 0 = (K6 (nJ r n 0) 0 1 2 8 11 12))
 | succ m ih =>
  refine (by kernel_rfl : aN (fun kk => D83 r n rM (xs x0 0 (K3 (fN r n) 0 1 8)) kk) (m + 1) = D83 r n rM (xs x0 0 (K3 (fN r n) 0 1 8)) (aN (fun kk => D83 r n rM (xs x0 0 (K3 (fN r n) 0 1 8)) kk) m)).trans ?_
  rw [ih]
  exact (cHs r n (nJ r n m)).trans (by kernel_rfl)
theorem dBe : D83 r n aWx (xs x0 0 (K3 (fN r n) 0 1 8)) (K3 (fN r n) 0 1 8) = (K6 (bTf r n) 0 1 2 8 11 12) :=
 (by kernel_rfl : D83 r n aWx (xs x0 0 (K3 (fN r n) 0 1 8)) (K3 (fN r n) 0 1 8) = aN (fun kk => D83 r n rM (xs x0 0 (K3 (fN r n) 0 1 8)) kk) n).trans ((cGl r n n).trans (by kernel_rfl))
theorem dCr : D83 r n bZf x0 (K3 (fN r n) 0 1 8) = (K6 (bAl r n) 0 1 2 8 11 12) :=
 (by kernel_rfl : D83 r n bZf x0 (K3 (fN r n) 0 1 8) = D83 r n aWx (xs x0 0 (K3 (fN r n) 0 1 8)) (K3 (fN r n) 0 1 8)).trans
 ((dBe r n).trans (by kernel_rfl))
theorem cBz : D83 r n aYy x0 r83 = D83 r n aKh x0 (K3 (fN r n) 0 1 8) :=
 congrArg (fun k => D83 r n aKh x0 k) (cUi r n)
theorem cDt : D83 r n aKh x0 (K3 (fN r n) 0 1 8) = D83 r n cQh x0 (K6 (bAl r n) 0 1 2 8 11 12) :=
 congrArg (fun k => D83 r n cQh x0 k) (dCr r n)
theorem cTt : D83 r n aYy x0 r83 = (K4 (aXy r n) 0 1 2 8) :=
 (cBz r n).trans
 ((cDt r n).trans
 ((by kernel_rfl)))
theorem cCv : D83 r n bBn x0 r83 = D83 r n cQy x0 (K4 (aXy r n) 0 1 2 8) :=
 congrArg (fun k => D83 r n cQy x0 k) (cTt r n)
theorem cZt : D83 r n bBn x0 r83 = (K3 (aWk r n) 0 1 2) :=
 (cCv r n).trans
 ((by kernel_rfl))
theorem dKs : D83 r n c83 x0 r83 = D83 r n bPz x0 (K3 (aWk r n) 0 1 2) :=
 congrArg (fun k => D83 r n bPz x0 k) (cZt r n)
theorem dPr : D83 r n c83 x0 r83 = (K3 (s83 r n) 0 1 2) :=
 (dKs r n).trans
 ((by kernel_rfl))
theorem cRe : aF CF r n 83 args h = s83 r n (aS args 0) (aS args 1) (aS args 2) h :=
 (by kernel_rfl : aF CF r n 83 args h = D83 r n c83 x0 r83 (aI args) h).trans ((congrFun (congrFun (dPr r n) (aI args)) h).trans (by kernel_rfl))
noncomputable def s84 (r : RT) (n : Nat) (x0 x1 : DV) (h0 : Hp) : aH :=
 bnd (aA x1 h0) fun v1 h1 =>
 bnd (aO v1 h1) fun v2 h2 =>
 bnd (aB 0 v2 h2) fun v3 h3 =>
 bnd (aA v3 h3) fun v4 h4 =>
 bnd (aEp [v4, x0] h4) fun v5 h5 =>
 bnd (gS .not v5 h5) fun v6 h6 =>
 some (v6, h6)
noncomputable abbrev c84 : Code := cf Tryz.f84
noncomputable abbrev r84 : K := aQ CF Tryz.f84
noncomputable def D84 (r : RT) (n : Nat) (c : Code) (X : Nat → K) (k : K) : K := aM CF r 11 n c X r84 k
theorem dMa : D84 r n c84 x0 r84 = (K2 (s84 r n) 0 1) :=
 (by kernel_rfl)
theorem cQz : aF CF r n 84 args h = s84 r n (aS args 0) (aS args 1) h :=
 (by kernel_rfl : aF CF r n 84 args h = D84 r n c84 x0 r84 (aI args) h).trans ((congrFun (congrFun (dMa r n) (aI args)) h).trans (by kernel_rfl))
noncomputable def gQ (r : RT) (n : Nat) (h0 : Hp) : aH :=
 some ((.i .i64 (Int.negSucc 0)), h0)
noncomputable def gI (r : RT) (n : Nat) (kk4 : dH) (x0 x1 x7 x8 : DV) (h0 : Hp) : aH :=
 bnd (aD .lss x8 x7 h0) fun v1 h1 =>
 aP v1 (
 bnd (aJ 1 x0 x8 h1) fun v2 h2 =>
 bnd (aA v2 h2) fun v3 h3 =>
 bnd (cV CF r x1 [v3] h3) fun v4 h4 =>
 aP v4 (
 some (x8, h4)) (
 bnd (aD .add x8 (aE 1) h4) fun v5 h5 =>
    kk4 x0 x1 x7 v5 h5)) (
      gQ r n h1)
noncomputable def iK (r : RT) (n : Nat) (m : Nat) : dH :=
 Nat.rec (motive := fun _ => dH) (fun _ _ _ _ _ => none) (fun _ ih => gI r n ih) m
noncomputable def aVe (r : RT) (n : Nat) : dH := iK r n n
noncomputable def aLp (r : RT) (n : Nat) (x0 x1 x7 x8 : DV) (h0 : Hp) : aH :=
 aVe r n x0 x1 x7 x8 h0
noncomputable def aMj (r : RT) (n : Nat) (x0 x1 : DV) (h0 : Hp) : aH :=
 bnd (bV x0 h0) fun v1 h1 =>
  aLp r n x0 x1 v1 (aE 0) h1
noncomputable def s89 (r : RT) (n : Nat) (x0 x1 : DV) (h0 : Hp) : aH :=
 aMj r n x0 x1 h0
noncomputable abbrev c89 : Code := cf Tryz.f89
noncomputable abbrev bAe : Code := cR c89
noncomputable abbrev dJc : Code := cR bAe
noncomputable abbrev aLy : Code := cL bAe
noncomputable abbrev cAm : Code := cR aLy
noncomputable abbrev bAu : Code := cL cAm
noncomputable abbrev wT : Code := cL bAu
noncomputable abbrev cRo : Code := cL aLy
noncomputable abbrev cQi : Code := cL c89
noncomputable abbrev r89 : K := aQ CF Tryz.f89
noncomputable def D89 (r : RT) (n : Nat) (c : Code) (X : Nat → K) (k : K) : K := aM CF r 19 n c X r89 k
theorem cYd : D89 r n dJc x0 r89 = (K0 (gQ r n)) :=
 (by kernel_rfl)
theorem cOu (kk4 : dH) : D89 r n wT (xs x0 0 (K0 (gQ r n))) (K4 kk4 0 1 7 8) = (K4 (gI r n kk4) 0 1 7 8) :=
 (by kernel_rfl)
theorem cBn (m : Nat) : aN (fun kk => D89 r n wT (xs x0 0 (K0 (gQ r n))) kk) m = (K4 (iK r n m) 0 1 7 8) := by
 induction m with
 | zero => exact (by kernel_rfl : aN (fun kk => D89 r n wT (xs x0 0 (K0 (gQ r n))) kk) 0 = (K4 (iK r n 0) 0 1 7 8))
 | succ m ih =>
  refine (by kernel_rfl : aN (fun kk => D89 r n wT (xs x0 0 (K0 (gQ r n))) kk) (m + 1) = D89 r n wT (xs x0 0 (K0 (gQ r n))) (aN (fun kk => D89 r n wT (xs x0 0 (K0 (gQ r n))) kk) m)).trans ?_
  rw [ih]
  exact (cOu r n (iK r n m)).trans (by kernel_rfl)
theorem dAl : D89 r n bAu (xs x0 0 (K0 (gQ r n))) (K0 (gQ r n)) = (K4 (aVe r n) 0 1 7 8) :=
 (by kernel_rfl : D89 r n bAu (xs x0 0 (K0 (gQ r n))) (K0 (gQ r n)) = aN (fun kk => D89 r n wT (xs x0 0 (K0 (gQ r n))) kk) n).trans ((cBn r n n).trans (by kernel_rfl))
theorem cUs : D89 r n cAm x0 (K0 (gQ r n)) = (K4 (aLp r n) 0 1 7 8) :=
 (by kernel_rfl : D89 r n cAm x0 (K0 (gQ r n)) = D89 r n bAu (xs x0 0 (K0 (gQ r n))) (K0 (gQ r n))).trans
 ((dAl r n).trans (by kernel_rfl))
theorem cKo : D89 r n bAe x0 r89 = D89 r n aLy x0 (K0 (gQ r n)) :=
 congrArg (fun k => D89 r n aLy x0 k) (cYd r n)
theorem cNl : D89 r n aLy x0 (K0 (gQ r n)) = D89 r n cRo x0 (K4 (aLp r n) 0 1 7 8) :=
 congrArg (fun k => D89 r n cRo x0 k) (cUs r n)
theorem cSy : D89 r n bAe x0 r89 = (K2 (aMj r n) 0 1) :=
 (cKo r n).trans
 ((cNl r n).trans
 ((by kernel_rfl)))
theorem dKy : D89 r n c89 x0 r89 = D89 r n cQi x0 (K2 (aMj r n) 0 1) :=
 congrArg (fun k => D89 r n cQi x0 k) (cSy r n)
theorem dLy : D89 r n c89 x0 r89 = (K2 (s89 r n) 0 1) :=
 (dKy r n).trans
 ((by kernel_rfl))
theorem bOl : aF CF r n 89 args h = s89 r n (aS args 0) (aS args 1) h :=
 (by kernel_rfl : aF CF r n 89 args h = D89 r n c89 x0 r89 (aI args) h).trans ((congrFun (congrFun (dLy r n) (aI args)) h).trans (by kernel_rfl))
end Go.Dd

