/- A part of the proof: N O CH RF1 RF2 RF3 RF4 RF5 RF6 RF7 SM SN RS RG MF Qh Q0 Q1 Q2: each text has a comment of its own. -/
import Derived.Test.YtcepbgoefnfnmaaGreatDoorRa0
import Derived.LoopN
import Derived.Scope
import Derived.OrdersIn
import Derived.LoopNIn
import Derived.LoopIn
import Derived.RangeFuncIn
import Derived.RangeFuncCalls
import Derived.RangeFuncLeaves
import Derived.Test.YtcepbgoefnfnmaaGreatDoorProg
import Derived.KernelRfl
set_option linter.unusedVariables false
set_option linter.unusedSimpArgs false
set_option linter.constructorNameAsVariable false
set_option maxRecDepth 100000
namespace Go.Dd
open Go.RowKit (Below)
section
variable {C : Cfg} {G : Gd} {rec : FuncId → List DV → Hp → aG} {ops : Array Oper} {nt : Nat} {p0 : Pos}
theorem sK {listed : Array Bool} {i : Nat} : i ∈ Region.ready .any ops listed ↔ i < ops.size ∧ listed.getD i true = false ∧ ∃ o, ops[i]? = some o ∧ ∀ e ∈ o.after, Region.binds .any e = true → listed.getD e.on false = true := by
 unfold Region.ready
 rw [List.mem_filter]
 simp only [List.mem_range, Bool.and_eq_true, Bool.not_eq_eq_eq_not, Bool.not_true]
 constructor
 ·rintro ⟨h1, h2, h3⟩
  refine ⟨h1, h2, ops[i], by simp [h1], fun e he hb => ?_⟩
  simp only [h1, getElem?_pos, Option.map_some, Option.getD_some] at h3
  have := (Array.all_eq_true_iff_forall_mem.1 h3) e he
  simpa [hb] using this
 ·rintro ⟨h1, h2, o, ho, h3⟩
  refine ⟨h1, h2, ?_⟩
  simp only [ho, Option.map_some, Option.getD_some]
  refine Array.all_eq_true_iff_forall_mem.2 fun e he => ?_
  cases hb : Region.binds .any e with
  | false => simp
  | true => simp [h3 e he hb]
noncomputable def idp (C : Cfg) (ops : Array Oper) (p0 : Pos) (p : Nat) : Pos := cH (cD C.P (ops.toList.take p)) p0
structure Tr1 (C : Cfg) (rec : FuncId → List DV → Hp → aG) (ops : Array Oper) (nt : Nat) (p0 : Pos) (E : Nat → bF) (Hh : Nat → Hp) (V : Nat → DV) : Prop where
 ok : fS C.P ops = true
 st : ∀ p o, ops[p]? = some o → StepT C rec ops (Region.before ops) nt (idp C ops p0 p) E Hh V 0 [(none, Hh 0)] p o
theorem Tr1.same {E : Nat → bF} {Hh : Nat → Hp} {V : Nat → DV} (T : Tr1 C rec ops nt p0 E Hh V) {p : Nat} {o : Oper} (ho : ops[p]? = some o) (hc : bW C.P o.op ≠ .acts) (hm : bW C.P o.op ≠ .makes) : Hh (p + 1) = Hh p := by
 have hs := (T.st p o ho).step hm
 cases hcl : bW C.P o.op with
 | pure => exact (sG hcl _ _ _ hs).1
 | reads => exact pB hcl hs
 | makes => exact absurd hcl hm
 | acts => exact absurd hcl hc
def cUi (C : Cfg) (ops : Array Oper) (q : Nat) : Prop := q = 0 ∨ ∃ j oj, ops[j]? = some oj ∧ bW C.P oj.op = .acts ∧ q = j + 1
theorem qC {m : Array Nat} {i q : Nat} {Pv : Hp → Prop} {Hh : Nat → Hp} {tl : List (Option Nat × Hp)} : ∀ d, q ≤ d → sP m i Pv (jF C ops Hh 0 d ++ tl) →
  (∀ j oj, ops[j]? = some oj → bW C.P oj.op = .acts → q ≤ j → j < d → ¬ gQ m j i = true) → sP m i Pv (jF C ops Hh 0 q ++ tl)
 | 0, hq, hc, _ => by have : q = 0 := by omega
                      subst this; exact hc
 | d + 1, hq, hc, hno => by
  by_cases e : q = d + 1
  ·subst e; exact hc
  ·have hq' : q ≤ d := by omega
   simp only [jF, Nat.zero_add] at hc
   cases ha : kU C ops d with
   | false =>
    rw [ha] at hc
    simp only [Bool.false_eq_true, if_false, List.nil_append] at hc
    exact qC d hq' hc fun j oj h1 h2 h3 h4 => hno j oj h1 h2 h3 (by omega)
   | true =>
    rw [ha] at hc
    simp only [if_true, List.cons_append, List.nil_append] at hc
    obtain ⟨_, h2⟩ := hc
    have ⟨oj, hoj, hcj⟩ : ∃ oj, ops[d]? = some oj ∧ bW C.P oj.op = .acts := by
     unfold kU at ha
     split at ha
     ·rename_i o ho; exact ⟨o, ho, by simpa using ha⟩
     ·cases ha
    rcases h2 with h2 | h2
    ·exact absurd h2 (hno d oj hoj hcj hq' (by omega))
    ·exact qC d hq' h2 fun j oj h1 h2 h3 h4 => hno j oj h1 h2 h3 (by omega)
theorem Tr1.value {E : Nat → bF} {Hh : Nat → Hp} {V : Nat → DV} (T : Tr1 C rec ops nt p0 E Hh V) {listed : Array Bool} {i q : Nat} {o : Oper} (ho : ops[i]? = some o) (hc : bW C.P o.op ≠ .acts) (hm : bW C.P o.op ≠ .makes)
  (hq : cUi C ops q) (hgap : ∀ j oj, ops[j]? = some oj → bW C.P oj.op = .acts → (j < q ↔ S listed j))
  (hni : ¬ S listed i) (hdown : ∀ j x, gQ (Region.before ops) j x = true → S listed x → S listed j) (hpre : ∀ j, gQ (Region.before ops) j i = true → S listed j) :
  bK C rec ops o (E i) (Hh q) = some (V i, Hh q) := by
 have hst := T.st i o ho
 cases hcl : bW C.P o.op with
 | acts => exact absurd hcl hc
 | makes => exact absurd hcl hm
 | pure => exact (sG hcl _ _ _ (hst.step hm)).2 _
 | reads =>
  rcases Nat.lt_or_ge i q with h | h
  ·rcases hq with rfl | ⟨j, oj, hj, haj, rfl⟩
   ·omega
   ·have hSj : S listed j := (hgap j oj hj haj).1 (by omega)
    have hij : i ≠ j := fun e => by subst e; exact hni hSj
    rcases (T.st j oj hj).acts haj i o (Nat.zero_le _) (by omega) ho hcl with h3 | h3
    ·exact absurd (hdown i j h3 hSj) hni
    ·exact tN hcl h3
  ·have h1 := hst.reads hcl
   rw [Nat.sub_zero] at h1
   have h2 := qC (q := q) i h h1 fun j oj hj haj hqj hji hord => by
    have := (hgap j oj hj haj).2 (hpre j hord)
    omega
   rcases hq with rfl | ⟨j, oj, hj, haj, rfl⟩
   ·exact h2.1
   ·simp only [jF, Nat.zero_add, (bCl hj).2 haj, if_true, List.cons_append, List.nil_append] at h2
    exact h2.1
theorem cIx {listed : Array Bool} {i j : Nat} (hi : i < listed.size) : S (listed.setIfInBounds i true) j ↔ (j = i ∨ S listed j) := by
 unfold S
 by_cases e : j = i
 ·subst e; simp [hi]
 ·simp [Array.getElem?_setIfInBounds_ne (Ne.symm e), e]
theorem tD {listed : Array Bool} {i : Nat} (hi : i < listed.size) : listed.getD i true = listed.getD i false := by
 simp [hi]
theorem cKz {V : Nat → DV} {env : bF} {listed : Array Bool} {i : Nat} {o : Oper} (ho : ops[i]? = some o) (hi : i < listed.size) (hni : ¬ S listed i) (t : Nat)
  (hlast : ∀ j oj, i < j → ops[j]? = some oj → oj.dst = some t → o.dst = some t → ¬ S listed j) :
  ∀ p, i < p → TS ops V env (listed.setIfInBounds i true) p t = if o.dst = some t then V i else TS ops V env listed p t := by
 have hbefore : ∀ p, p ≤ i → TS ops V env (listed.setIfInBounds i true) p = TS ops V env listed p := by
  intro p
  induction p with
  | zero => intro _; rfl
  | succ p ih =>
   intro h
   have e : (listed.setIfInBounds i true).getD p false = listed.getD p false := by simp [Array.getElem?_setIfInBounds_ne (show i ≠ p by omega)]
   simp only [TS, ih (by omega), e]
 intro p
 induction p with
 | zero => intro h; omega
 | succ p ih =>
  intro h
  by_cases hpi : p = i
  ·subst hpi
   have e1 : (listed.setIfInBounds p true).getD p false = true := by simp [hi]
   have e2 : ¬ listed.getD p false = true := hni
   simp only [TS, ho, hbefore p (Nat.le_refl _), e1, if_true, mA]
   rw [if_neg e2]
  ·have ih' := ih (by omega)
   have e : (listed.setIfInBounds i true).getD p false = listed.getD p false := by simp [Array.getElem?_setIfInBounds_ne (Ne.symm hpi)]
   cases hop : ops[p]? with
   | none => simp only [TS, hop]; exact ih'
   | some op =>
    simp only [TS, hop, e]
    split
    ·rename_i hl
     rw [mA, mA, ih']
     by_cases hd : op.dst = some t
     ·rw [if_pos hd, if_pos hd]
      by_cases hod : o.dst = some t
      ·exact absurd hl (hlast p op (by omega) hop hd hod)
      ·rw [if_neg hod]
     ·rw [if_neg hd, if_neg hd]
    ·exact ih'
def jB (C : Cfg) (ops : Array Oper) (listed : Array Bool) (q i : Nat) : Prop := ∃ o, ops[i]? = some o ∧ bW C.P o.op = .makes ∧ S listed i ∧ q ≤ i
def GX (G : Gd) (N : Nat) (C : Cfg) (ops : Array Oper) (listed : Array Bool) (R : Nat → Nat) (q : Nat) : Gd := ⟨G.B, fun k => G.X k ∨ ∃ i, jB C ops listed q i ∧ R i = k, N, G.W, G.ok⟩
structure Made (G : Gd) (C : Cfg) (ops : Array Oper) (p0 : Pos) (Hh : Nat → Hp) (ρ : Ren) (w : World) (R : Nat → Nat) (i : Nat) : Prop where
 name : ρ (idp C ops p0 i) = some ⟨R i, 0, 0, none⟩
 low : G.B ≤ R i
 ex : ¬ G.X (R i)
 row : ∃ (x0 : Obj) (ob : Ob), w.heap[R i]? = some x0 ∧ MO ρ ob x0 ∧ Hh (i + 1) = ⟨(Hh i).next, Tr.set ob (idp C ops p0 i) (Hh i).bl⟩
theorem aIx {E : Nat → bF} {Hh : Nat → Hp} {V : Nat → DV} (T : Tr1 C rec ops nt p0 E Hh V) {listed : Array Bool} {R : Nat → Nat} {N q : Nat} {ρ : Ren} {w : World}
  (hmade : ∀ i, jB C ops listed q i → Made G C ops p0 Hh ρ w R i) (hdist : ∀ i i', jB C ops listed q i → jB C ops listed q i' → R i = R i' → i = i') :
  ∀ p, q ≤ p → p ≤ ops.size → (∀ j oj, ops[j]? = some oj → q ≤ j → j < p → bW C.P oj.op ≠ .acts ∧ (bW C.P oj.op = .makes → S listed j)) →
  HR (GX G N C ops listed R q) ρ (Hh q) w → HR (GX G N C ops listed R p) ρ (Hh p) w := by
 intro p
 induction p with
 | zero => intro h1 _ _ H; have : q = 0 := by omega
           subst this; exact H
 | succ p ih =>
  intro h1 h2 hr H
  by_cases e : q = p + 1
  ·subst e; exact H
  ·have H' := ih (by omega) (by omega) (fun j oj hj hq hjp => hr j oj hj hq (by omega)) H
   obtain ⟨o, ho⟩ : ∃ o, ops[p]? = some o := ⟨ops[p], by simp [show p < ops.size by omega]⟩
   obtain ⟨ha, hm⟩ := hr p o ho (by omega) (by omega)
   have hsub : ∀ k, (GX G N C ops listed R (p + 1)).X k → (GX G N C ops listed R p).X k := by
    rintro k (hk | ⟨i, ⟨oi, h3, h4, h5, h6⟩, h7⟩)
    ·exact .inl hk
    ·exact .inr ⟨i, ⟨oi, h3, h4, h5, by omega⟩, h7⟩
   by_cases hmk : bW C.P o.op = .makes
   ·have hE : jB C ops listed q p := ⟨o, ho, hmk, hm hmk, by omega⟩
    have hM := hmade p hE
    obtain ⟨x0, ob, r1, r2, r3⟩ := hM.row
    rw [r3]
    refine dMa (G := GX G N C ops listed R (p + 1)) H' rfl hsub (Nat.le_refl _) rfl hM.name r1 r2 hM.low ?_ (.inr ⟨p, ⟨o, ho, hmk, hm hmk, Nat.le_refl _⟩, rfl⟩)
    rintro (hk | ⟨i, ⟨oi, h3, h4, h5, h6⟩, h7⟩)
    ·exact hM.ex hk
    ·have := hdist i p ⟨oi, h3, h4, h5, by omega⟩ hE h7
     omega
   ·rw [T.same ho ha hmk]
    exact H'.weak rfl hsub (Nat.le_refl _) rfl
def Inv (DD : List Deferred) (C : Cfg) (G : Gd) (ops : Array Oper) (nt : Nat) (p0 : Pos) (N : Nat) (E : Nat → bF) (Hh : Nat → Hp) (V : Nat → DV) (ρ : Ren) (w0 : World) (listed : Array Bool) (a : Act) (w : World) : Prop :=
 listed.size = ops.size ∧ (∀ j x, gQ (Region.before ops) j x = true → S listed x → S listed j) ∧
 ∃ q, q ≤ ops.size ∧ cUi C ops q ∧ (∀ j oj, ops[j]? = some oj → bW C.P oj.op = .acts → (j < q ↔ S listed j)) ∧
 ∃ (ρ' : Ren) (R : Nat → Nat), Ex G ρ ρ' ∧ HR (GX G N C ops listed R q) ρ' (Hh q) w ∧ EnvR ρ' (TS ops V (E 0) listed ops.size) a ∧ Kp G w0 w ∧ nt ≤ a.tmps.size ∧ a.defers = DD ∧
  (∀ i o, ops[i]? = some o → bW C.P o.op = .makes → ¬ S listed i → ρ' (idp C ops p0 i) = none) ∧
  (∀ i, jB C ops listed q i → Made G C ops p0 Hh ρ' w R i) ∧ (∀ i i', jB C ops listed q i → jB C ops listed q i' → R i = R i' → i = i')
theorem bKd {i : Nat} {o : Oper} (ho : ops[i]? = some o) (hm : bW C.P o.op = .makes) : (idp C ops p0 i).toNat < p0.toNat + cD C.P ops.toList := by
 unfold idp
 rw [eF]
 have hlt : i < ops.toList.length := by
  rcases Nat.lt_or_ge i ops.toList.length with h | h
  ·exact h
  ·simp at h; simp [Array.getElem?_eq_none h] at ho
 have key : ∀ (l : List Oper) (i : Nat), l[i]? = some o → cD C.P (l.take i) < cD C.P l := by
  intro l
  induction l with
  | nil => intro i h; simp at h
  | cons x l ih =>
   intro i h
   cases i with
   | zero => simp at h; subst h; simp [cD, hm]; omega
   | succ i => simp at h; have := ih i h; simp only [List.take_succ_cons, cD]; omega
 have := key ops.toList i (by simpa using ho)
 omega
theorem cQt {i i' : Nat} {o o' : Oper} (ho : ops[i]? = some o) (hm : bW C.P o.op = .makes) (ho' : ops[i']? = some o') (hm' : bW C.P o'.op = .makes) (hne : i ≠ i') : idp C ops p0 i ≠ idp C ops p0 i' := by
 have key : ∀ (l : List Oper) (i j : Nat) (o : Oper), l[i]? = some o → bW C.P o.op = .makes → i < j → cD C.P (l.take i) < cD C.P (l.take j) := by
  intro l
  induction l with
  | nil => intro i j o h; simp at h
  | cons x l ih =>
   intro i j o h hm hij
   cases j with
   | zero => omega
   | succ j =>
    cases i with
    | zero => simp at h; subst h; simp only [List.take_succ_cons, cD, hm, List.take_zero]; omega
    | succ i => simp at h; have := ih i j o h hm (by omega); simp only [List.take_succ_cons, cD]; omega
 intro e
 have e' := congrArg Pos.toNat e
 unfold idp at e'
 rw [eF, eF] at e'
 rcases Nat.lt_or_ge i i' with h | h
 ·have := key ops.toList i i' o (by simpa using ho) hm h; omega
 ·have := key ops.toList i' i o' (by simpa using ho') hm' (by omega); omega
theorem bFy {DD : List Deferred} (K : OkC C rec) {N : Nat} {E : Nat → bF} {Hh : Nat → Hp} {V : Nat → DV} (T : Tr1 C rec ops nt p0 E Hh V) (hN : N = p0.toNat + cD C.P ops.toList) (hGN : G.N ≤ p0.toNat) {ρ : Ren} {w0 : World} {Q : Exit → Act → World → Prop}
  (hQ : ∀ ρ' a' w', Ex G ρ ρ' → HR G ρ' (Hh ops.size) w' → EnvR ρ' (E ops.size) a' → Kp G w0 w' → nt ≤ a'.tmps.size → a'.defers = DD → Q .normal a' w') :
  ∀ (fuel : Nat) (listed : Array Bool) (a : Act) (w : World), Inv DD C G ops nt p0 N E Hh V ρ w0 listed a w → ((List.range ops.size).filter fun i => !listed.getD i false).length ≤ fuel → wpAny C.P .any ops Q fuel listed a w := by
 have hlt : ∀ p, p < ops.size → ∃ o, ops[p]? = some o := fun p hp => ⟨ops[p], by simp [hp]⟩
 have hin : ∀ (j : Nat) oj, ops[j]? = some oj → j < ops.size := fun j oj hj => by
  rcases Nat.lt_or_ge j ops.size with h | h
  ·exact h
  ·simp [Array.getElem?_eq_none h] at hj
 have hend : ∀ listed a w, Inv DD C G ops nt p0 N E Hh V ρ w0 listed a w → (∀ i, i < ops.size → S listed i) → Q .normal a w := by
  rintro listed a w ⟨hsz, hdown, q, hq, hcand, hgap, ρ', R, h1, h2, h3, h4, h5, h6, h7, h8, h9⟩ hall
  have hH := aIx (G := G) T h8 h9 ops.size hq (Nat.le_refl _) (fun j oj hj hqj hjn => ⟨fun ha => by
   have := (hgap j oj hj ha).2 (hall j hjn)
   omega, fun _ => hall j hjn⟩) h2
  have hE : ∀ t, TS ops V (E 0) listed ops.size t = E ops.size t := fun t =>
   bSi (E := E) rfl (fun p o hp ho => (T.st p o ho).env) (fun p hp => hlt p hp) (fun j o hj _ _ => hall j hj) ops.size (Nat.le_refl _)
  refine hQ ρ' a w h1 (hH.weak rfl (fun k hk => .inl hk) (by show G.N ≤ N; omega) rfl) (fun t => ?_) h4 h5 h6
  rw [← hE t]
  exact h3 t
 have hready : ∀ listed, listed.size = ops.size → Region.ready .any ops listed = [] → ∀ i, i < ops.size → S listed i := by
  intro listed hsz hr i
  induction i using Nat.strongRecOn with
  | _ i ih =>
   intro hi
   obtain ⟨o, ho⟩ := hlt i hi
   by_cases hs : S listed i
   ·exact hs
   ·exfalso
    have hmem : i ∈ Region.ready .any ops listed := by
     rw [sK]
     refine ⟨hi, ?_, o, ho, fun e he hb => ?_⟩
     ·rw [tD (by omega)]
      unfold S at hs
      simpa using hs
     ·have := (dU T.ok ho).1 e he hb
      exact ih e.on this (by omega)
    rw [hr] at hmem
    cases hmem
 intro fuel
 induction fuel with
 | zero =>
  intro listed a w hI hfuel
  have hall : ∀ i, i < ops.size → S listed i := by
   intro i hi
   by_cases hs : S listed i
   ·exact hs
   ·exfalso
    have : i ∈ (List.range ops.size).filter fun i => !listed.getD i false := by
     rw [List.mem_filter]
     refine ⟨by simpa using hi, ?_⟩
     unfold S at hs
     simpa using hs
    have := List.length_pos_of_mem this
    omega
  refine ⟨?_, hend listed a w hI hall⟩
  cases hr : Region.ready .any ops listed with
  | nil => rfl
  | cons x xs =>
   have hx : x ∈ Region.ready .any ops listed := by rw [hr]; simp
   rw [sK] at hx
   have := hall x hx.1
   rw [tD (by rw [hI.1]; exact hx.1)] at hx
   unfold S at this
   rw [this] at hx
   cases hx.2.1
 | succ fuel ih =>
  intro listed a w hI hfuel
  refine ⟨fun hr => hend listed a w hI (hready listed hI.1 hr), fun i hi => ?_⟩
  obtain ⟨hsz, hdown, q, hq, hcand, hgap, ρ', R, h1, h2, h3, h4, h5, h6, h7, h8, h9⟩ := hI
  rw [sK] at hi
  obtain ⟨hisz, hni, o, ho, hpre0⟩ := hi
  rw [tD (by omega)] at hni
  have hnS : ¬ S listed i := by unfold S; rw [hni]; simp
  have hpre : ∀ j, gQ (Region.before ops) j i = true → S listed j := by
   intro j hj
   obtain ⟨e, he, hb, h | h⟩ := aKk ho hj
   ·rw [← h]; exact hpre0 e he hb
   ·exact hdown j e.on h (hpre0 e he hb)
  have hst := T.st i o ho
  have hlook : ∀ t ∈ o.looksAt ops, TS ops V (E 0) listed ops.size t = E i t := by
   intro t ht
   rw [cBu (i := i) (fun j oj hij hj hd hS => ?_) ops.size (by omega)]
   ·exact bSi (E := E) rfl (fun p op hp hop => (T.st p op hop).env) (fun p hp => hlt p (by omega)) (fun j oj hj hoj hd => by
     rcases (dU T.ok ho).2.2 j oj hj hoj with h | ⟨h, _⟩
     ·exact hpre j h
     ·exact absurd ht ((Oper.apart_spec h).1 t hd)) i (Nat.le_refl _)
   ·rcases Nat.eq_or_lt_of_le hij with e | e
    ·subst e; exact hnS hS
    ·rcases (dU T.ok hj).2.2 i o e ho with h | ⟨h, _⟩
     ·exact hnS (hdown i j h hS)
     ·exact absurd ht ((Oper.apart_spec h).2.2 t hd)
  have hmkq : ∀ j oj, ops[j]? = some oj → bW C.P oj.op = .makes → j < q → S listed j := by
   intro j oj hj hmj hjq
   rcases hcand with rfl | ⟨l, ol, hl, hal, rfl⟩
   ·omega
   ·have hSl : S listed l := (hgap l ol hl hal).1 (by omega)
    have hjl : j ≠ l := fun e => by subst e; rw [hl] at hj; cases hj; rw [hal] at hmj; cases hmj
    rcases (dU T.ok hl).2.2 j oj (by omega) hj with h | ⟨_, h⟩
    ·exact hdown j l h hSl
    ·exact absurd ⟨.inr hmj, hal⟩ h
  have hdown' : ∀ j x, gQ (Region.before ops) j x = true → S (listed.setIfInBounds i true) x → S (listed.setIfInBounds i true) j := by
   intro j x hjx hx
   rw [cIx (by omega)] at hx ⊢
   rcases hx with rfl | hx
   ·exact .inr (hpre j hjx)
   ·exact .inr (hdown j x hjx hx)
  have hTS : ∀ (ρ2 : Ren) (v2 : Value), Ext ρ' ρ2 → VR ρ2 (V i) v2 → EnvR ρ2 (TS ops V (E 0) (listed.setIfInBounds i true) ops.size) (a.put o.dst v2) := by
   intro ρ2 v2 e1 e2 t
   rw [cKz ho (by omega) hnS t (fun j oj hij hj hd hod hS => by
    rcases (dU T.ok hj).2.2 i o hij ho with h | ⟨h, _⟩
    ·exact hnS (hdown i j h hS)
    ·exact (Oper.apart_spec h).2.1 t hod hd) ops.size (by omega)]
   have := EnvR.put h3 e1 e2 hst.fits h5 t
   rwa [mA] at this
  have hcount : ((List.range ops.size).filter fun j => !(listed.setIfInBounds i true).getD j false).length ≤ fuel := by
   have hmem : i ∈ (List.range ops.size).filter fun i => !listed.getD i false := by
    rw [List.mem_filter]
    exact ⟨by simpa using hisz, by simp [hni]⟩
   have hle : ((List.range ops.size).filter fun j => !(listed.setIfInBounds i true).getD j false).length < ((List.range ops.size).filter fun j => !listed.getD j false).length := by
    have hsub : ((List.range ops.size).filter fun j => !(listed.setIfInBounds i true).getD j false) = ((List.range ops.size).filter fun j => !listed.getD j false).filter (fun j => j != i) := by
     rw [List.filter_filter]
     apply List.filter_congr
     intro j hj
     by_cases e : j = i
     ·subst e; simp [show j < listed.size by omega]
     ·simp [Array.getElem?_setIfInBounds_ne (Ne.symm e), e]
    rw [hsub]
    exact List.length_filter_lt_length_iff_exists.2 ⟨i, hmem, by simp⟩
   omega
  have hS' : ∀ j, S (listed.setIfInBounds i true) j ↔ (j = i ∨ S listed j) := fun j => cIx (by omega)
  by_cases hmk : bW C.P o.op = .makes
  ·
   have hqi : q ≤ i := by
    rcases Nat.lt_or_ge i q with h | h
    ·exact absurd (hmkq i o ho hmk h) hnS
    ·exact h
   have hg := (dU T.ok ho).2.1 hmk
   have hbn := h7 i o ho hmk hnS
   have hst1 := hst.made hmk
   have hext : Ext ρ' (nT ρ' (idp C ops p0 i) ⟨w.heap.size, 0, 0, none⟩) := by
    intro x L hx
    by_cases e : x = idp C ops p0 i
    ·subst e; rw [hbn] at hx; cases hx
    ·rw [aU _ _ e]; exact hx
   have hE0 : dX C o (idp C ops p0 i) (TS ops V (E 0) listed ops.size) (Hh i) = some (V i, Hh (i + 1)) := by
    rw [← hst1]
    refine aAt fun x hx => aBi fun t ht => hlook t ?_
    unfold Oper.looksAt
    refine List.mem_append_left _ (List.mem_filterMap.2 ⟨x, by simpa using hx, ?_⟩)
    rw [ht]
   obtain ⟨ob, x0, v', m1, m2, m3, m4⟩ := cSc (w := w) h3 hE0 hbn
   have hidlt := bKd (p0 := p0) ho hmk
   have H2 := h2.early hbn (by have := h2.nx; simp only [GX] at this; omega) x0
   unfold wpOp
   simp only [ho]
   rw [if_pos (by simp [Region.wanted, hg])]
   refine .inl ?_
   unfold Oper.wp
   rw [m1]
   show wpAny C.P .any ops Q fuel (listed.setIfInBounds i true) (a.put o.dst v') (w.alloc x0)
   have hEarly : ∀ j, jB C ops (listed.setIfInBounds i true) q j → j = i ∨ jB C ops listed q j := by
    rintro j ⟨oj, e1, e2, e3, e4⟩
    rcases (hS' j).1 e3 with e | e
    ·exact .inl e
    ·exact .inr ⟨oj, e1, e2, e, e4⟩
   have hRlt : ∀ j, jB C ops listed q j → R j < w.heap.size := fun j hj => h2.sz.2 _ (.inr ⟨j, hj, rfl⟩)
   have hjne : ∀ j, jB C ops listed q j → j ≠ i := by
    rintro j ⟨oj, e1, e2, e3, e4⟩ e
    subst e; exact hnS e3
   refine ih _ _ _ ⟨by simpa using hsz, hdown', q, hq, hcand, fun j oj hj haj => ?_, nT ρ' (idp C ops p0 i) ⟨w.heap.size, 0, 0, none⟩, fun j => if j = i then w.heap.size else R j, ?_, ?_, hTS _ _ hext m4, ?_, by rw [qP]; exact h5, by rw [mQ]; exact h6, ?_, ?_, ?_⟩ hcount
   ·rw [hS' j, hgap j oj hj haj]
    constructor
    ·exact .inr
    ·rintro (h | h)
     ·subst h; rw [ho] at hj; cases hj; rw [hmk] at haj; cases haj
     ·exact h
   ·refine h1.trans ⟨hext, fun b L hb => ?_⟩
    by_cases e : b = idp C ops p0 i
    ·right
     rw [e]
     unfold idp
     rw [eF]
     omega
    ·rw [aU _ _ e] at hb; exact .inl hb
   ·refine H2.weak rfl ?_ (Nat.le_refl _) rfl
    rintro k (hk | ⟨j, hj, hjk⟩)
    ·exact .inl (.inl hk)
    ·rcases hEarly j hj with rfl | hj'
     ·right; simpa using hjk.symm
     ·left; right
      refine ⟨j, hj', ?_⟩
      simpa [hjne j hj'] using hjk
   ·exact h4.trans (gB (G := G) ⟨h2.sz.1, fun k hk => h2.sz.2 k (.inl hk)⟩ _)
   ·intro j oj hj hmj hSj
    have hji : j ≠ i := fun e => hSj ((hS' j).2 (.inl e))
    rw [aU _ _ (cQt hj hmj ho hmk hji)]
    exact h7 j oj hj hmj fun h => hSj ((hS' j).2 (.inr h))
   ·intro j hj
    rcases hEarly j hj with rfl | hj'
    ·refine ⟨by simp [bR], by simp; exact h2.sz.1, ?_, x0, ob, ?_, m2.mono hext, m3⟩
     ·simp only [if_true]
      intro hx
      have := h2.sz.2 _ (.inl hx)
      omega
     ·simp only [if_true]
      show (w.heap.push _)[w.heap.size]? = _
      simp
    ·have hM := h8 j hj'
     obtain ⟨x1, ob1, r1, r2, r3⟩ := hM.row
     have hji := hjne j hj'
     refine ⟨?_, by simp [hji]; exact hM.low, by simp [hji]; exact hM.ex, x1, ob1, ?_, r2.mono hext, r3⟩
     ·simp only [hji, if_false]; exact hext _ _ hM.name
     ·simp only [hji, if_false]
      rw [Below.heap_alloc _ _ _ (hRlt j hj')]
      exact r1
   ·intro j j' hj hj' he
    rcases hEarly j hj with rfl | hj1
    ·rcases hEarly j' hj' with rfl | hj1'
     ·rfl
     ·simp only [if_true, hjne j' hj1', if_false] at he
      have := hRlt j' hj1'
      omega
    ·rcases hEarly j' hj' with rfl | hj1'
     ·simp only [if_true, hjne j hj1, if_false] at he
      have := hRlt j hj1
      omega
     ·simp only [hjne j hj1, hjne j' hj1', if_false] at he
      exact h9 j j' hj1 hj1' he
  ·
   have hstep : ∃ q1 q2, q ≤ q1 ∧ q1 ≤ ops.size ∧ q2 ≤ ops.size ∧ q1 ≤ q2 ∧ cUi C ops q2 ∧ HR (GX G N C ops listed R q1) ρ' (Hh q1) w ∧
     bK C rec ops o (TS ops V (E 0) listed ops.size) (Hh q1) = some (V i, Hh q2) ∧
     (∀ j oj, ops[j]? = some oj → bW C.P oj.op = .acts → (j < q2 ↔ S (listed.setIfInBounds i true) j)) ∧
     (∀ j, jB C ops (listed.setIfInBounds i true) q2 j → jB C ops listed q1 j) := by
    rw [show bK C rec ops o (TS ops V (E 0) listed ops.size) = bK C rec ops o (E i) from funext fun h => aLl hlook]
    by_cases ha : bW C.P o.op = .acts
    ·have hqi : q ≤ i := by
      rcases Nat.lt_or_ge i q with h | h
      ·exact absurd ((hgap i o ho ha).1 h) hnS
      ·exact h
     refine ⟨i, i + 1, hqi, by omega, by omega, by omega, .inr ⟨i, o, ho, ha, rfl⟩, ?_, hst.step hmk, fun j oj hj haj => ?_, ?_⟩
     ·refine aIx (G := G) T h8 h9 i hqi (by omega) (fun j oj hj hqj hji => ⟨fun haj => ?_, fun hmj => ?_⟩) h2
      ·rcases (dU T.ok ho).2.2 j oj hji hj with h | ⟨_, h⟩
       ·have := (hgap j oj hj haj).2 (hpre j h); omega
       ·exact absurd ⟨.inl haj, ha⟩ h
      ·rcases (dU T.ok ho).2.2 j oj hji hj with h | ⟨_, h⟩
       ·exact hpre j h
       ·exact absurd ⟨.inr hmj, ha⟩ h
     ·rw [hS' j]
      constructor
      ·intro hlt'
       by_cases e : j = i
       ·exact .inl e
       ·right
        rcases (dU T.ok ho).2.2 j oj (by omega) hj with h | ⟨_, h⟩
        ·exact hpre j h
        ·exact absurd ⟨.inl haj, ha⟩ h
      ·rintro (h | h)
       ·omega
       ·rcases Nat.lt_or_ge i j with hij | hij
        ·rcases (dU T.ok hj).2.2 i o hij ho with h' | ⟨_, h'⟩
         ·exact absurd (hdown i j h' h) hnS
         ·exact absurd ⟨.inl ha, haj⟩ h'
        ·omega
     ·rintro j ⟨oj, e1, e2, e3, e4⟩
      rcases (hS' j).1 e3 with e | e
      ·omega
      ·exact ⟨oj, e1, e2, e, by omega⟩
    ·refine ⟨q, q, Nat.le_refl _, hq, hq, Nat.le_refl _, hcand, h2, T.value ho ha hmk hcand hgap hnS hdown hpre, fun j oj hj haj => ?_, ?_⟩
     ·rw [hS' j, hgap j oj hj haj]
      constructor
      ·exact .inr
      ·rintro (h | h)
       ·subst h; rw [ho] at hj; cases hj; exact absurd haj ha
       ·exact h
     ·rintro j ⟨oj, e1, e2, e3, e4⟩
      rcases (hS' j).1 e3 with e | e
      ·subst e; rw [ho] at e1; cases e1; exact absurd e2 hmk
      ·exact ⟨oj, e1, e2, e, e4⟩
   obtain ⟨q1, q2, k1, k2, k2', k12, k3, k4, k5, k6, k7⟩ := hstep
   refine aEv (aDg K k4 h3 k5) rfl ho k4 fun ρ2 w2 v2 e1 e2 e3 e4 => ?_
   have hEq : ∀ j, jB C ops listed q1 j → jB C ops listed q j := by
    rintro j ⟨oj, f1, f2, f3, f4⟩
    exact ⟨oj, f1, f2, f3, by omega⟩
   refine ih _ _ _ ⟨by simpa using hsz, hdown', q2, k2', k3, k6, ρ2, R, ?_, ?_, hTS _ _ e1.ext e2, ?_, by rw [qP]; exact h5, by rw [mQ]; exact h6, ?_, ?_, ?_⟩ hcount
   ·refine h1.trans ⟨e1.ext, fun b L hb => (e1.new b L hb).imp id fun h => ?_⟩
    simp only [GX] at h
    omega
   ·refine e3.weak rfl ?_ (Nat.le_refl _) rfl
    rintro k (hk | ⟨j, hj, hjk⟩)
    ·exact .inl hk
    ·exact .inr ⟨j, k7 j hj, hjk⟩
   ·exact h4.trans ⟨e4.low, fun k hk => e4.ex k (.inl hk)⟩
   ·intro j oj hj hmj hSj
    have hn := h7 j oj hj hmj fun h => hSj ((hS' j).2 (.inr h))
    cases hr : ρ2 (idp C ops p0 j) with
    | none => rfl
    | some L =>
     rcases e1.new _ _ hr with h | h
     ·rw [hn] at h; cases h
     ·have := bKd (p0 := p0) hj hmj
      simp only [GX] at h
      omega
   ·intro j hj
    have hj1 := k7 j hj
    have hM := h8 j (hEq j hj1)
    obtain ⟨x1, ob1, r1, r2, r3⟩ := hM.row
    exact ⟨e1.ext _ _ hM.name, hM.low, hM.ex, x1, ob1, by rw [e4.ex _ (.inr ⟨j, hj1, rfl⟩)]; exact r1, r2.mono e1.ext, r3⟩
   ·intro j j' hj hj' he
    exact h9 j j' (hEq j (k7 j hj)) (hEq j' (k7 j' hj')) he
theorem bKj {DD : List Deferred} (K : OkC C rec) {k : Dd.K} {r : DV × Hp} {env : bF} {h : Hp} {ρ : Ren} {a : Act} {w : World} {Q : Exit → Act → World → Prop}
  (hok : fS C.P ops = true) (hp : jI C rec nt ops k env h = some r) (H : HR G ρ h w) (he : EnvR ρ env a) (hnt : nt ≤ a.tmps.size) (hd : a.defers = DD)
  (hQ : ∀ ρ' env' h' a' w', Ex G ρ ρ' → HR G ρ' h' w' → EnvR ρ' env' a' → Kp G w w' → nt ≤ a'.tmps.size → a'.defers = DD → k env' h' = some r → Q .normal a' w') :
  wpAny C.P .any ops Q ops.size (Array.replicate ops.size false) a { w with drawn := w.drawn + 1 } := by
 obtain ⟨E, Hh, V, e1, e2, e3, e4⟩ := tV (p0 := h.next) ops.toList 0 0 false [] _ env _ r hp (by simp) (fun _ => ⟨_, _, rfl⟩)
 simp only [Nat.zero_add, Array.length_toList, Nat.sub_zero] at e3 e4
 have T : Tr1 C rec ops nt h.next E Hh V := ⟨hok, fun p o ho => by
  have := (e4 p o (Nat.zero_le _) (by
   rcases Nat.lt_or_ge p ops.size with h | h
   ·exact h
   ·simp [Array.getElem?_eq_none h] at ho) ho).1
  rw [← e2] at this
  exact this⟩
 obtain ⟨n1, n2⟩ := aBu (cD C.P ops.toList) h
 have hNN : (resv (cD C.P ops.toList) h).next.toNat = h.next.toNat + cD C.P ops.toList := by rw [n1, eF]
 refine (bFy (G := G) K T rfl H.nx (ρ := ρ) (w0 := w) (fun ρ' a' w' h1 h2 h3 h4 h5 h6 => hQ ρ' _ _ a' w' h1 h2 h3 h4 h5 h6 e3) ops.size _ a _ ?_ ?_)
 ·have hno : ∀ j, ¬ S (Array.replicate ops.size false) j := by
   intro j hj
   unfold S at hj
   simp [Array.getElem?_replicate] at hj
   split at hj <;> simp at hj
  have hnoE : ∀ j, ¬ jB C ops (Array.replicate ops.size false) 0 j := by
   rintro j ⟨oj, _, _, h3, _⟩
   exact hno j h3
  refine ⟨by simp, fun j x _ hx => absurd hx (hno x), 0, Nat.zero_le _, .inl rfl, fun j oj hj ha => ⟨fun h => by omega, fun h => absurd h (hno j)⟩, ρ, fun _ => 0, Ex.refl G ρ, ?_, ?_, ?_, hnt, hd, ?_, fun j hj => absurd hj (hnoE j), fun j j' hj => absurd hj (hnoE j)⟩
  ·rw [e2]
   have := (H.reserve (cD C.P ops.toList)).congr (w' := { w with drawn := w.drawn + 1 }) rfl
   rw [hNN] at this
   refine this.weak rfl ?_ (Nat.le_refl _) rfl
   rintro k (hk | ⟨j, hj, _⟩)
   ·exact hk
   ·exact absurd hj (hnoE j)
  ·have hT : ∀ p, TS ops V (E 0) (Array.replicate ops.size false) p = E 0 := by
    intro p
    induction p with
    | zero => rfl
    | succ p ih =>
     simp only [TS, ih]
     split
     ·rename_i o ho
      rw [if_neg (show ¬ (Array.replicate ops.size false).getD p false = true from hno p)]
     ·rfl
   intro t
   rw [hT, e1]
   exact he t
  ·exact (Kp.refl G w).drew
  ·intro j oj hj hmj _
   cases hr : ρ (idp C ops h.next j) with
   | none => rfl
   | some L =>
    have h1 := H.lt _ _ hr
    unfold idp at h1
    rw [eF] at h1
    omega
 ·have := List.length_filter_le (fun i => !(Array.replicate ops.size false).getD i false) (List.range ops.size)
  simpa using this
theorem aUh {DD : List Deferred} (K : OkC C rec) (hm : C.P.follows .mixedOrders = true) {id : Nat} {k : Dd.K} {r : DV × Hp} {env : bF} {h : Hp} {ρ : Ren} {a : Act} {w : World} {Q : Exit → Act → World → Prop}
  (hok : fS C.P ops = true) (hp : jI C rec nt ops k env h = some r) (H : HR G ρ h w) (he : EnvR ρ env a) (hnt : nt ≤ a.tmps.size) (hd : a.defers = DD)
  (hQ : ∀ ρ' env' h' a' w', Ex G ρ ρ' → HR G ρ' h' w' → EnvR ρ' env' a' → Kp G w w' → nt ≤ a'.tmps.size → a'.defers = DD → k env' h' = some r → Q .normal a' w') :
  (Code.region id ops true).wp C.P Q a w :=
 wp_region_any hm (bKj K hok hp H he hnt hd hQ)
end
end Go.Dd

namespace Go.Dd
open Go.RowKit (Below)
section
variable {C : Cfg} {G : Gd} {rec : FuncId → List DV → Hp → aG} {nt n : Nat}
def St (DD : List Deferred) (G : Gd) (nt : Nat) (ρ : Ren) (w0 : World) (k : K) (r : DV × Hp) (a : Act) (w : World) : Prop :=
 ∃ ρ' env h, Ex G ρ ρ' ∧ HR G ρ' h w ∧ EnvR ρ' env a ∧ Kp G w0 w ∧ nt ≤ a.tmps.size ∧ a.defers = DD ∧ k env h = some r
def QQ (DD : List Deferred) (G : Gd) (nt : Nat) (ρ : Ren) (w0 : World) (X : Nat → K) (kr k : K) (r : DV × Hp) : Exit → Act → World → Prop
 | .normal, a, w => St DD G nt ρ w0 k r a w
 | .exit id, a, w => St DD G nt ρ w0 (X id) r a w
 | .ret, a, w => St DD G nt ρ w0 kr r a w
 | _, _, _ => False
theorem cGn {DD : List Deferred} (K : OkC C rec) (hm : C.P.follows .mixedOrders = true) {ρ : Ren} {w0 : World} {r : DV × Hp} : ∀ (c : Code) (X : Nat → Dd.K) (kr k : Dd.K) (a : Act) (w : World),
  St DD G nt ρ w0 (aP C rec nt n c X kr k) r a w → c.wp C.P (QQ DD G nt ρ w0 X kr k r) a w := by
 intro c
 induction c with
 | skip => intro X kr k a w h; exact wp_skip h
 | region id ops dr =>
  intro X kr k a w h
  obtain ⟨ρ', env, hp, h1, h2, h3, h4, h5, h6, h7⟩ := h
  change (Bool.rec (motive := fun _ => Dd.K) (kA C rec nt ops ops.toList k) (Bool.rec (motive := fun _ => Dd.K) dN (jI C rec nt ops k) (fS C.P ops)) dr) env hp = some r at h7
  cases dr with
  | true =>
   dsimp only at h7
   cases hok : fS C.P ops with
   | false => rw [hok] at h7; cases h7
   | true =>
    rw [hok] at h7
    exact aUh K hm hok h7 h2 h3 h5 h6 fun ρ2 env2 h2' a2 w2 e1 e2 e3 e4 e5 e6 e7 => ⟨ρ2, env2, h2', h1.trans e1, e2, e3, h4.trans e4, e5, e6, e7⟩
  | false =>
   simp only [cond_false] at h7
   obtain ⟨env', h', hr, hk⟩ := xP ops.toList k env hp r h7
   refine wp_region ?_
   have := aQc (Q := QQ DD G nt ρ w0 X kr k r) K ops.toList 0 ρ' env hp a w (by simp) hr h2 h3 h5 h6 fun ρ2 a2 w2 e1 e2 e3 e4 e5 e6 => ⟨ρ2, env', h', h1.trans e1, e2, e3, h4.trans e4, e5, e6, hk⟩
   rw [List.range_eq_range']
   simpa using this
 | seq x y ihx ihy =>
  intro X kr k a w h
  refine wp_seq (wp_mono (ihx X kr (aP C rec nt n y X kr k) a w h) fun e a' w' hq => ?_)
  cases e with
  | normal => exact ihy X kr k a' w' hq
  | exit id => exact hq
  | ret => exact hq
  | goto l => exact hq
  | panic ch => exact hq
  | outgrown => exact hq
 | cond c x y ihx ihy =>
  intro X kr k a w h
  obtain ⟨ρ', env, hp, h1, h2, h3, h4, h5, h6, h7⟩ := h
  change aX (opr env c) (aP C rec nt n x X kr k env hp) (aP C rec nt n y X kr k env hp) = some r at h7
  have hc := bG h3 c
  unfold aX at h7
  split at h7 <;> (try (cases h7; done))
  ·rename_i hcb
   rw [hcb] at hc
   generalize hcv : a.eval c = cv at hc
   cases hc
   exact wp_cond_true hcv (ihx X kr k a w ⟨ρ', env, hp, h1, h2, h3, h4, h5, h6, h7⟩)
  ·rename_i hcb
   rw [hcb] at hc
   generalize hcv : a.eval c = cv at hc
   cases hc
   exact wp_cond_false hcv (ihy X kr k a w ⟨ρ', env, hp, h1, h2, h3, h4, h5, h6, h7⟩)
 | block id x ih =>
  intro X kr k a w h
  refine wp_block (wp_mono (ih (fun j => bif Nat.beq j id then k else X j) kr k a w h) fun e a' w' hq => ?_)
  cases e with
  | normal => exact hq
  | exit id' =>
   simp only [QQ] at hq
   simp only [Exit.inBlock, QQ]
   split
   ·rename_i e
    subst e
    have hb : Nat.beq id' id' = true := Nat.beq_refl id'
    rw [hb] at hq
    exact hq
   ·rename_i e
    have : Nat.beq id' id = false := by
     cases hb : Nat.beq id' id with
     | false => rfl
     | true => exact absurd (Nat.eq_of_beq_eq_true hb) e
    rw [this] at hq
    exact hq
  | ret => exact hq
  | goto l => exact hq
  | panic ch => exact hq
  | outgrown => exact hq
 | loop x ih =>
  intro X kr k a w h
  have key : ∀ (m : Nat) (a : Act) (w : World), St DD G nt ρ w0 (aO (fun kk => aP C rec nt n x X kr kk) m) r a w → Code.rounds C.P x (QQ DD G nt ρ w0 X kr k r) m a w := by
   intro m
   induction m with
   | zero =>
    rintro a w ⟨ρ', env, hp, h1, h2, h3, h4, h5, h6, h7⟩
    cases h7
   | succ m ihm =>
    intro a w hs
    rw [rounds_succ]
    refine wp_mono (ih X kr (aO (fun kk => aP C rec nt n x X kr kk) m) a w hs) fun e a' w' hq => ?_
    cases e with
    | normal => exact ihm a' w' hq
    | exit id => exact hq
    | ret => exact hq
    | goto l => exact hq
    | panic ch => exact hq
    | outgrown => exact hq
  exact wp_loop_rounds n (key n a w h)
 | rangeFunc f ps x y ihx ihy =>
  rintro X kr k a w ⟨ρ', env, hp, h1, h2, h3, h4, h5, h6, h7⟩
  cases h7
 | exit id => intro X kr k a w h; exact wp_exit h
 | scope x ih =>
  intro X kr k a w h
  refine wp_scope_straight (wp_mono (ih X kr k a w h) fun e a' w' hq => ?_)
  cases e with
  | goto l => exact hq
  | normal => exact hq
  | exit id => exact hq
  | ret => exact hq
  | panic ch => exact hq
  | outgrown => exact hq
 | label l => intro X kr k a w h; exact wp_label h
 | goto l =>
  rintro X kr k a w ⟨ρ', env, hp, h1, h2, h3, h4, h5, h6, h7⟩
  cases h7
 | ret => intro X kr k a w h; exact wp_ret h
 | refuse why =>
  rintro X kr k a w ⟨ρ', env, hp, h1, h2, h3, h4, h5, h6, h7⟩
  cases h7
def aId (tmps : Array Value) (rv : ResultVar) : Sem Value :=
 match rv with
 | .tmp t => pure (tmps.getD t undef)
 | .cell q t => do loadVar t (← asAddr (tmps.getD q undef))
theorem wV (fn : Func) (tmps : Array Value) : results fn tmps = (do
  let vs ← fn.results.mapM (aId tmps)
  pure (if h : vs.size = 1 then vs[0] else .tuple vs)) := by
 unfold results
 congr 2
theorem bKs {ρ : Ren} {w : World} {h : Hp} {x : DV} {x' : Value} {t : TypeId} {k : DV → aG} {r : DV × Hp} (H : HR G ρ h w) (hx : VR ρ x x') (hr : aBq C t x h k = some r) :
  ∃ v v', (do loadVar t (← asAddr x') : Sem Value).run C.P w = .ok v' w ∧ VR ρ v v' ∧ k v = some r := by
 unfold aBq at hr
 split at hr <;> (try (cases hr; done))
 rename_i d i ht hi
 obtain ⟨v, h', hl, hk⟩ := dM hr
 have hconv : ∀ b o, x = .p b o → (Instr.loadAt t x') = (do loadVar t (← asAddr x')) := by
  rintro b o rfl
  cases hx
  simp [Instr.loadAt, Instr.sureAddr, asAddr]
 cases hd : jP d with
 | true =>
  rw [hd] at hl
  simp only [cond_true] at hl
  unfold aN at hl
  split at hl <;> (try (cases hl; done))
  rename_i b o
  split at hl <;> (try (cases hl; done))
  rename_i cs hc
  simp only [bC, bO] at hl
  obtain ⟨rfl, _⟩ := hl
  cases hx with
  | p _ _ L hL =>
   obtain ⟨c1, c2, _, vs, c4, c5, c6⟩ := fG H hc hL
   have hrun := dG (P := C.P) vs rfl c6
   rw [c5] at hrun
   refine ⟨_, .agg vs.toArray, ?_, .a cs vs.toArray (by simpa using c4), hk⟩
   simp only [asAddr, Sem.run_bind, Sem.run_pure, Result.andThen_ok, loadVar, rA ht, hd, if_true, rS hi, hrun]
 | false =>
  rw [hd] at hl
  simp only [cond_false] at hl
  unfold aA at hl
  split at hl <;> (try (cases hl; done))
  rename_i b o
  split at hl <;> (try (cases hl; done))
  rename_i u' hc
  simp only [bC, bO] at hl
  obtain ⟨rfl, _⟩ := hl
  cases hx with
  | p _ _ L hL =>
   unfold cellD rowOf at hc
   split at hc <;> (try (cases hc; done))
   rename_i l hl
   split at hl <;> (try (cases hl; done))
   rename_i kd l0 hb
   simp only [bC] at hl
   subst hl
   split at hc <;> (try (cases hc; done))
   rename_i u0 hu
   split at hc <;> (try (cases hc; done))
   rename_i ho
   simp only [bC] at hc
   subst hc
   obtain ⟨v', h5, h6⟩ := H.cell b kd l0 L o u0 hb hL hu ho
   refine ⟨_, v', ?_, h6, hk⟩
   simp only [asAddr, Sem.run_bind, Sem.run_pure, Result.andThen_ok, loadVar, rA ht, hd, Bool.false_eq_true, if_false, run_load, h5]
theorem zO {ρ : Ren} {w : World} {h : Hp} {env : bF} {a : Act} (H : HR G ρ h w) (he : EnvR ρ env a) {r : DV × Hp} : ∀ (l : List ResultVar) (k : List DV → aG), aZb C env h l k = some r →
  ∃ vs vs', (l.mapM (aId a.tmps)).run C.P w = .ok vs' w ∧ VRs ρ vs vs' ∧ k vs = some r
 | [], k, hr => ⟨[], [], by simp, .nil, hr⟩
 | .tmp t :: l, k, hr => by
  obtain ⟨vs, vs', h1, h2, h3⟩ := zO H he l (fun vs => k (env t :: vs)) hr
  refine ⟨env t :: vs, a.tmps.getD t undef :: vs', ?_, .cons _ _ _ _ (he t) h2, h3⟩
  simp only [List.mapM_cons, Sem.run_bind, aId, Result.andThen_ok, h1, Sem.run_pure]
 | .cell q t :: l, k, hr => by
  obtain ⟨v, v', h1, h2, h3⟩ := bKs (x' := a.tmps.getD q undef) H (he q) hr
  obtain ⟨vs, vs', h4, h5, h6⟩ := zO H he l (fun vs => k (v :: vs)) h3
  refine ⟨v :: vs, v' :: vs', ?_, .cons _ _ _ _ h2 h5, h6⟩
  simp only [List.mapM_cons, Sem.run_bind, aId] at h1 ⊢
  simp only [h1, Result.andThen_ok, h4, Sem.run_pure]
theorem aXq {ρ : Ren} {w : World} {h h1 : Hp} {env : bF} {a : Act} (H : HR G ρ h w) (he : EnvR ρ env a) {fn : Func} {v : DV} (hr : aS C fn env h = some (v, h1)) :
  h1 = h ∧ ∃ v', (results fn a.tmps).run C.P w = .ok v' w ∧ VR ρ v v' := by
 obtain ⟨us, vs', h2, h3, hk⟩ := zO H he _ _ hr
 unfold bQp at hk
 split at hk
 ·rename_i u
  simp only [bC, bO] at hk
  obtain ⟨rfl, rfl⟩ := hk
  cases h3 with
  | cons _ v' _ l' hv hn =>
   cases hn
   refine ⟨rfl, v', ?_, hv⟩
   rw [wV, Array.mapM_eq_mapM_toList]
   simp only [Sem.run_bind, Sem.run_map, h2, Result.andThen_ok, Sem.run_pure]
   simp
 ·rename_i hne
  simp only [bC, bO] at hk
  obtain ⟨rfl, rfl⟩ := hk
  have hl := h3.length
  have hne1 : vs'.length ≠ 1 := by
   intro e
   rw [e] at hl
   match us, hl with
   | [x], _ => exact hne x rfl
  refine ⟨rfl, .tuple vs'.toArray, ?_, .t _ _ (by simpa using h3)⟩
  rw [wV, Array.mapM_eq_mapM_toList]
  simp only [Sem.run_bind, Sem.run_map, h2, Result.andThen_ok, Sem.run_pure]
  rw [dif_neg (by simpa using hne1)]
structure POk (P : Program) : Prop where
 mixed : P.follows .mixedOrders = true
 names : ∀ (f : Nat) (fn : Func), P.funcs[f]? = some fn → (fn.name == "runtime.NumGoroutine") = false
theorem qY (K : OkC C rec) (hP : POk C.P) (n : Nat) (f : FuncId) : mZ C.P G f (aE C rec n f) := by
 intro args h v h1 hr ρ w args' H hargs
 unfold aE at hr
 split at hr <;> (try (cases hr; done))
 rename_i fn hf
 split at hr <;> (try (cases hr; done))
 rename_i c hb
 refine .inl ⟨?_, ?_⟩
 ·unfold callFunc
  have hn : ¬ fn.name = "runtime.NumGoroutine" := by simpa using hP.names f fn hf
  simp [hf, hn, hb]
 ·refine calls_of_wp hf hb ?_
  have he : EnvR ρ (aH args) { tmps := args' ++ Array.replicate (fn.ntmps - args'.size) undef, defers := [] } := by
   intro t
   unfold aH
   have hlen := hargs.length
   simp only [Array.length_toList] at hlen
   by_cases ht : t < args.length
   ·have hg : args[t]? = some args[t] := by simp [ht]
    obtain ⟨v', h2, h3⟩ := hargs.get t _ hg
    simp only [Array.getElem?_toList] at h2
    rw [show args.getD t aR = args[t] by simp [List.getD, hg]]
    have : (args' ++ Array.replicate (fn.ntmps - args'.size) undef).getD t undef = v' := by
     simp [Array.getElem?_append_left (show t < args'.size by omega), h2]
    rw [this]
    exact h3
   ·have hg : args.getD t aR = aR := by simp [List.getD, List.getElem?_eq_none (Nat.le_of_not_lt ht)]
    rw [hg]
    have : (args' ++ Array.replicate (fn.ntmps - args'.size) undef).getD t undef = undef := by
     rw [Array.getD_eq_getD_getElem?, Array.getElem?_append_right (by omega)]
     simp only [Array.getElem?_replicate]
     split <;> rfl
    rw [this]
    exact .t [] #[] .nil
  have hst : St [] G fn.ntmps ρ w (aP C rec fn.ntmps n c (fun _ => dN) (aS C fn) (aS C fn)) (v, h1) { tmps := args' ++ Array.replicate (fn.ntmps - args'.size) undef, defers := [] } w :=
   ⟨ρ, aH args, h, Ex.refl G ρ, H, he, Kp.refl G w, by simp; omega, rfl, hr⟩
  refine wp_mono (cGn K hP.mixed c _ _ _ _ _ hst) fun e a' w' hq => ?_
  have hfin : St [] G fn.ntmps ρ w (aS C fn) (v, h1) a' w' → a'.defers = [] ∧ ∃ v', (results fn a'.tmps).run C.P w' = .ok v' w' ∧ mT G ρ w v h1 (.returned v') w' := by
   rintro ⟨ρ', env, h', e1, e2, e3, e4, e5, e6, e7⟩
   obtain ⟨rfl, v', r1, r2⟩ := aXq e2 e3 e7
   exact ⟨e6, v', r1, ρ', v', rfl, e1, r2, e2, e4⟩
  cases e with
  | normal => exact hfin hq
  | ret => exact hfin hq
  | exit id =>
   obtain ⟨ρ', env, h', e1, e2, e3, e4, e5, e6, e7⟩ := hq
   cases e7
  | goto l => exact hq.elim
  | panic ch => exact hq.elim
  | outgrown => exact hq.elim
theorem bQz (hP : POk C.P) (hI : ∀ G g F, C.I g = some F → mZ C.P G g F) : ∀ (n : Nat) (G : Gd) (f : FuncId), mZ C.P G f (fnD C n f)
 | 0, G, f => fun args h v h1 hr => by cases hr
 | n + 1, G, f => qY (rec := fnD C n) ⟨hI, fun G g => bQz hP hI n G g⟩ hP n f
end
end Go.Dd

namespace Go.Dd
open Go.RowKit (Below)
section
variable {C : Cfg} {G : Gd} {rec : FuncId → List DV → Hp → aG} {nt : Nat}
def oY (h : Hp) : Prop := ∀ b o, h.bl.get b = some o → b.toNat < h.next.toNat
theorem HR.isFresh {ρ : Ren} {h : Hp} {w : World} (H : HR G ρ h w) : oY h := fun b o hb => by
 obtain ⟨L, hL⟩ := H.dom b o hb
 exact H.lt b L hL
def aKz (C : Cfg) (rec : FuncId → List DV → Hp → aG) (nt : Nat) (ops : Array Oper) (mT : bF → Hp → Prop) : Nat → Array Bool → bF → Hp → Prop
 | 0, listed, env, h => Region.ready .any ops listed = [] ∧ mT env h
 | f + 1, listed, env, h => (Region.ready .any ops listed = [] → mT env h) ∧
   ∀ i ∈ Region.ready .any ops listed, ∃ o v h', ops[i]? = some o ∧ dD nt o.dst = true ∧ bK C rec ops o env h = some (v, h') ∧
    aKz C rec nt ops mT f (listed.setIfInBounds i true) (bP env o.dst v) h'
theorem bHu (K : OkC C rec) {ops : Array Oper} {mT : bF → Hp → Prop} {Q : Exit → Act → World → Prop} : ∀ (fuel : Nat) (listed : Array Bool) (ρ : Ren) (env : bF) (h : Hp) (a : Act) (w : World),
  aKz C rec nt ops mT fuel listed env h → HR G ρ h w → EnvR ρ env a → nt ≤ a.tmps.size → a.defers = [] →
  (∀ ρ' env' h' a' w', mT env' h' → Ex G ρ ρ' → HR G ρ' h' w' → EnvR ρ' env' a' → Kp G w w' → nt ≤ a'.tmps.size → a'.defers = [] → Q .normal a' w') →
  wpAny C.P .any ops Q fuel listed a w
 | 0, listed, ρ, env, h, a, w, hp, H, he, hnt, hd, hQ => ⟨hp.1, hQ ρ env h a w hp.2 (Ex.refl G ρ) H he (Kp.refl G w) hnt hd⟩
 | f + 1, listed, ρ, env, h, a, w, hp, H, he, hnt, hd, hQ => by
  refine ⟨fun hr => hQ ρ env h a w (hp.1 hr) (Ex.refl G ρ) H he (Kp.refl G w) hnt hd, fun i hi => ?_⟩
  obtain ⟨o, v, h', ho, hf, hs, hn⟩ := hp.2 i hi
  refine aEv (aDg K H he hs) rfl ho H fun ρ' w' v' h2 h3 h4 h5 => ?_
  exact bHu K f _ ρ' _ h' _ w' hn h4 (he.put h2.ext h3 hf hnt) (by rw [qP]; exact hnt) (by rw [mQ]; exact hd)
   fun ρ2 env2 hh a2 w2 e0 e1 e2 e3 e4 e5 e6 => hQ ρ2 env2 hh a2 w2 e0 (h2.trans e1) e2 e3 (h5.trans e4) e5 e6
def sN (C : Cfg) (rec : FuncId → List DV → Hp → aG) (nt : Nat) : Code → (Nat → bF → Hp → Prop) → (bF → Hp → Prop) → (bF → Hp → Prop) → bF → Hp → Prop
 | .skip, _, _, N => N
 | .region _ ops dr, _, _, N => fun env h => if dr then (aKz C rec nt ops (fun e h => oY h → N e h) ops.size (Array.replicate ops.size false) env h ∨
    (fS C.P ops = true ∧ ∃ k r, jI C rec nt ops k env h = some r ∧ ∀ env' h', k env' h' = some r → oY h' → N env' h'))
   else ∃ env' h', aIk C rec nt ops ops.toList env h env' h' ∧ (oY h' → N env' h')
 | .seq a b, X, R, N => sN C rec nt a X R (sN C rec nt b X R N)
 | .cond c a b, X, R, N => fun env h => (opr env c = .b true ∧ sN C rec nt a X R N env h) ∨ (opr env c = .b false ∧ sN C rec nt b X R N env h)
 | .block id a, X, R, N => sN C rec nt a (fun j => if j = id then N else X j) R N
 | .exit id, X, _, _ => X id
 | .scope a, X, R, N => sN C rec nt a X R N
 | .ret, _, R, _ => R
 | _, _, _, _ => fun _ _ => False
def StP (G : Gd) (nt : Nat) (ρ : Ren) (w0 : World) (N : bF → Hp → Prop) (a : Act) (w : World) : Prop :=
 ∃ ρ' env h, Ex G ρ ρ' ∧ HR G ρ' h w ∧ EnvR ρ' env a ∧ Kp G w0 w ∧ nt ≤ a.tmps.size ∧ a.defers = [] ∧ N env h
def QP (G : Gd) (nt : Nat) (ρ : Ren) (w0 : World) (X : Nat → bF → Hp → Prop) (R N : bF → Hp → Prop) : Exit → Act → World → Prop
 | .normal, a, w => StP G nt ρ w0 N a w
 | .exit id, a, w => StP G nt ρ w0 (X id) a w
 | .ret, a, w => StP G nt ρ w0 R a w
 | _, _, _ => False
theorem bMi (K : OkC C rec) (hm : C.P.follows .mixedOrders = true) {ρ : Ren} {w0 : World} : ∀ (c : Code) (X : Nat → bF → Hp → Prop) (R N : bF → Hp → Prop) (a : Act) (w : World),
  StP G nt ρ w0 (sN C rec nt c X R N) a w → c.wp C.P (QP G nt ρ w0 X R N) a w := by
 intro c
 induction c with
 | skip => intro X R N a w h; exact wp_skip h
 | region id ops dr =>
  intro X R N a w h
  obtain ⟨ρ', env, hp, h1, h2, h3, h4, h5, h6, h7⟩ := h
  cases dr with
  | true =>
   simp only [sN, if_true] at h7
   rcases h7 with h7 | ⟨hok, k, r, h7, h8⟩
   ·refine wp_region_any hm (bHu K ops.size _ ρ' env hp a _ h7 (h2.congr rfl) h3 h5 h6 fun ρ2 env2 h2' a2 w2 e0 e1 e2 e3 e4 e5 e6 => ?_)
    exact ⟨ρ2, env2, h2', h1.trans e1, e2, e3, (h4.trans ((Kp.refl G w).drew)).trans e4, e5, e6, e0 e2.isFresh⟩
   ·exact aUh K hm hok h7 h2 h3 h5 h6 fun ρ2 env2 h2' a2 w2 e1 e2 e3 e4 e5 e6 e7 => ⟨ρ2, env2, h2', h1.trans e1, e2, e3, h4.trans e4, e5, e6, h8 _ _ e7 e2.isFresh⟩
  | false =>
   simp only [sN, Bool.false_eq_true, if_false] at h7
   obtain ⟨env', h', hr, hk⟩ := h7
   refine wp_region ?_
   have := aQc (Q := QP G nt ρ w0 X R N) K ops.toList 0 ρ' env hp a w (by simp) hr h2 h3 h5 h6 fun ρ2 a2 w2 e1 e2 e3 e4 e5 e6 => ⟨ρ2, env', h', h1.trans e1, e2, e3, h4.trans e4, e5, e6, hk e2.isFresh⟩
   rw [List.range_eq_range']
   simpa using this
 | seq x y ihx ihy =>
  intro X R N a w h
  refine wp_seq (wp_mono (ihx X R (sN C rec nt y X R N) a w h) fun e a' w' hq => ?_)
  cases e with
  | normal => exact ihy X R N a' w' hq
  | exit id => exact hq
  | ret => exact hq
  | goto l => exact hq
  | panic ch => exact hq
  | outgrown => exact hq
 | cond c x y ihx ihy =>
  intro X R N a w h
  obtain ⟨ρ', env, hp, h1, h2, h3, h4, h5, h6, h7⟩ := h
  have hc := bG h3 c
  rcases h7 with ⟨hcb, h7⟩ | ⟨hcb, h7⟩
  ·rw [hcb] at hc
   generalize hcv : a.eval c = cv at hc
   cases hc
   exact wp_cond_true hcv (ihx X R N a w ⟨ρ', env, hp, h1, h2, h3, h4, h5, h6, h7⟩)
  ·rw [hcb] at hc
   generalize hcv : a.eval c = cv at hc
   cases hc
   exact wp_cond_false hcv (ihy X R N a w ⟨ρ', env, hp, h1, h2, h3, h4, h5, h6, h7⟩)
 | block id x ih =>
  intro X R N a w h
  refine wp_block (wp_mono (ih (fun j => if j = id then N else X j) R N a w h) fun e a' w' hq => ?_)
  cases e with
  | normal => exact hq
  | exit id' =>
   simp only [QP] at hq
   simp only [Exit.inBlock]
   split
   ·rename_i e
    rw [if_pos e] at hq
    exact hq
   ·rename_i e
    rw [if_neg e] at hq
    exact hq
  | ret => exact hq
  | goto l => exact hq
  | panic ch => exact hq
  | outgrown => exact hq
 | loop x ih => rintro X R N a w ⟨ρ', env, hp, h1, h2, h3, h4, h5, h6, h7⟩; exact h7.elim
 | rangeFunc f ps x y ihx ihy => rintro X R N a w ⟨ρ', env, hp, h1, h2, h3, h4, h5, h6, h7⟩; exact h7.elim
 | exit id => intro X R N a w h; exact wp_exit h
 | scope x ih =>
  intro X R N a w h
  refine wp_scope_straight (wp_mono (ih X R N a w h) fun e a' w' hq => ?_)
  cases e with
  | goto l => exact hq
  | normal => exact hq
  | exit id => exact hq
  | ret => exact hq
  | panic ch => exact hq
  | outgrown => exact hq
 | label l => rintro X R N a w ⟨ρ', env, hp, h1, h2, h3, h4, h5, h6, h7⟩; exact h7.elim
 | goto l => rintro X R N a w ⟨ρ', env, hp, h1, h2, h3, h4, h5, h6, h7⟩; exact h7.elim
 | ret => intro X R N a w h; exact wp_ret h
 | refuse why => rintro X R N a w ⟨ρ', env, hp, h1, h2, h3, h4, h5, h6, h7⟩; exact h7.elim
def Le (h2 h1 : Hp) : Prop := ∀ G ρ w, HR G ρ h2 w → HR G ρ h1 w
theorem cUs (K : OkC C rec) (hP : POk C.P) {f : FuncId} {fn : Func} {c : Code} (hf : C.P.funcs[f]? = some fn) (hb : fn.body = some c) {F : List DV → Hp → aG}
  (hF : ∀ args h v h1, F args h = some (v, h1) → oY h → sN C rec fn.ntmps c (fun _ _ _ => False) (fun env h' => ∃ h2, aS C fn env h' = some (v, h2) ∧ Le h2 h1)
   (fun env h' => ∃ h2, aS C fn env h' = some (v, h2) ∧ Le h2 h1) (aH args) h) : mZ C.P G f F := by
 intro args h v h1 hr ρ w args' H hargs
 refine .inl ⟨?_, ?_⟩
 ·unfold callFunc
  have hn : ¬ fn.name = "runtime.NumGoroutine" := by simpa using hP.names f fn hf
  simp [hf, hn, hb]
 ·refine calls_of_wp hf hb ?_
  have he : EnvR ρ (aH args) { tmps := args' ++ Array.replicate (fn.ntmps - args'.size) undef, defers := [] } := by
   intro t
   unfold aH
   have hlen := hargs.length
   simp only [Array.length_toList] at hlen
   by_cases ht : t < args.length
   ·have hg : args[t]? = some args[t] := by simp [ht]
    obtain ⟨v', h2, h3⟩ := hargs.get t _ hg
    simp only [Array.getElem?_toList] at h2
    rw [show args.getD t aR = args[t] by simp [List.getD, hg]]
    have : (args' ++ Array.replicate (fn.ntmps - args'.size) undef).getD t undef = v' := by
     simp [Array.getElem?_append_left (show t < args'.size by omega), h2]
    rw [this]
    exact h3
   ·have hg : args.getD t aR = aR := by simp [List.getD, List.getElem?_eq_none (Nat.le_of_not_lt ht)]
    rw [hg]
    have : (args' ++ Array.replicate (fn.ntmps - args'.size) undef).getD t undef = undef := by
     rw [Array.getD_eq_getD_getElem?, Array.getElem?_append_right (by omega)]
     simp only [Array.getElem?_replicate]
     split <;> rfl
    rw [this]
    exact .t [] #[] .nil
  have hst : StP G fn.ntmps ρ w _ { tmps := args' ++ Array.replicate (fn.ntmps - args'.size) undef, defers := [] } w :=
   ⟨ρ, aH args, h, Ex.refl G ρ, H, he, Kp.refl G w, by simp; omega, rfl, hF args h v h1 hr H.isFresh⟩
  refine wp_mono (bMi K hP.mixed c _ _ _ _ _ hst) fun e a' w' hq => ?_
  have hfin : StP G fn.ntmps ρ w (fun env h' => ∃ h2, aS C fn env h' = some (v, h2) ∧ Le h2 h1) a' w' → a'.defers = [] ∧ ∃ v', (results fn a'.tmps).run C.P w' = .ok v' w' ∧ mT G ρ w v h1 (.returned v') w' := by
   rintro ⟨ρ', env, h', e1, e2, e3, e4, e5, e6, h2, e7, e8⟩
   obtain ⟨rfl, v', r1, r2⟩ := aXq e2 e3 e7
   exact ⟨e6, v', r1, ρ', v', rfl, e1, r2, e8 _ _ _ e2, e4⟩
  cases e with
  | normal => exact hfin hq
  | ret => exact hfin hq
  | exit id => obtain ⟨ρ', env, h', e1, e2, e3, e4, e5, e6, e7⟩ := hq; exact e7.elim
  | goto l => exact hq.elim
  | panic ch => exact hq.elim
  | outgrown => exact hq.elim
end
end Go.Dd

namespace Go.Dd
open Go.RowKit (Below)
section
variable {ro : Option Nat} {n : Nat} {P : Program} {Q : Exit → Act → World → Prop}
end
section
variable {C : Cfg} {G : Gd} {rec : FuncId → List DV → Hp → aG} {nt n : Nat}
end
end Go.Dd

namespace Go.Dd
open Go.RowKit (Below)
section
variable {G G' : Gd} {ρ : Ren} {h : Hp} {w : World}
end
end Go.Dd

namespace Go.Dd
open Go.RowKit (Below)
structure ItC where
 gf : FuncId
 nt : Nat
 pre : Code
 b0 : Nat
 test : Code
 b1 : Nat
 rid : Nat
 front : List Oper
 y : Oper
 back : List Oper
 after : Code
 post : Code
 step : Code
 yd : Tmp
 yt : Tmp
 yx : Tmp
def ItC.ops (I : ItC) : Array Oper := (I.front ++ I.y :: I.back).toArray
def aJc : Nat → K := fun _ => dN
def ylB (v : DV) (b : Pos) : Bool := match v with
 | .yl b' => b' == b
 | _ => false
section
variable (C : Cfg) (rec : FuncId → List DV → Hp → aG) (n : Nat) (I : ItC)
noncomputable def aJa (b : Bool) (kr k : K) (e1 : bF) : Hp → aG := fun h =>
 cnd (dD I.nt (some I.yd)) (kA C rec I.nt I.ops I.back (aP C rec I.nt n I.after aJc kr k) (bP e1 (some I.yd) (.b b)) h)
noncomputable def aPt (nt : Nat) (p : Tmp) (x y : Code) (env : bF) (X : Nat → K) (kr kk : K) : K := fun e1 h1 =>
 cnd (dD nt (some p)) (aP C rec nt n x aJc dN (aP C rec nt n y
   (fun i _ h2 => aJa C rec n I false (fun _ h3 => X i env h3) dN e1 h2)
   (fun _ h2 => aJa C rec n I false (fun _ h3 => kr env h3) dN e1 h2)
   (fun _ h2 => aJa C rec n I true dN (aP C rec I.nt n I.post aJc dN (aP C rec I.nt n I.step aJc dN kk)) e1 h2))
  (bP env (some p) (e1 I.yx)) h1)
noncomputable def aCv (nt : Nat) (g : Operand) (p : Tmp) (x y : Code) (X : Nat → K) (kr k : K) : K := fun env h =>
 match opr env g with
 | .f gf [] cap => cnd (Nat.beq gf I.gf) (aP C rec I.nt n I.pre aJc dN
   (aO (fun kk => aP C rec I.nt n I.test (fun j => bif Nat.beq j I.b0 then (fun _ h => k env h) else dN) dN
    (kA C rec I.nt I.ops I.front (fun e1 h1 => cnd (ylB (e1 I.yt) h.next) (aPt C rec n I nt p x y env X kr kk e1 h1)))) n)
   (aH (.yl h.next :: cap)) (resv 2 h))
 | _ => none
end
section
variable {C : Cfg} {G : Gd} {rec : FuncId → List DV → Hp → aG} {n : Nat} {I : ItC} {N : Nat}
end
end Go.Dd

namespace Go.Dd
open Go.RowKit (Below)
section
variable {C : Cfg} {G : Gd} {rec : FuncId → List DV → Hp → aG} {n : Nat} {I : ItC} {N : Nat}
section
variable {ρ : Ren} {w0 : World} {D l : Nat} {nt : Nat} {p : Tmp} {x y : Code} {f0 : FuncId} {a0 : Act} {env : bF} {X : Nat → Dd.K} {kr k : Dd.K} {r : DV × Hp} {b : Pos}
end
end
end Go.Dd

namespace Go.Dd
open Go.RowKit (Below)
section
variable {C : Cfg} {G : Gd} {rec : FuncId → List DV → Hp → aG} {n : Nat} {I : ItC} {N : Nat}
variable {ρ : Ren} {w0 : World} {D l : Nat} {nt : Nat} {p : Tmp} {x y : Code} {f0 : FuncId} {a0 : Act} {env : bF} {X : Nat → Dd.K} {kr k : Dd.K} {r : DV × Hp} {b : Pos}
end
end Go.Dd

namespace Go.Dd
open Go.RowKit (Below)
section
variable {C : Cfg} {G : Gd} {rec : FuncId → List DV → Hp → aG} {n : Nat} {I : ItC} {N : Nat}
end
end Go.Dd

namespace Go.Dd
open Go.RowKit (Below)
noncomputable def dJr (ps : Array Tmp) (k : Tmp → K) : K := match ps.toList with
 | [p] => k p
 | _ => dN
section
variable (C : Cfg) (rec : FuncId → List DV → Hp → aG) (nt n : Nat) (I : ItC)
noncomputable def bPm (c : Code) : (Nat → K) → K → K → K :=
 Code.rec (motive := fun _ => (Nat → K) → K → K → K)
  (fun _ _ k => k)
  (fun _ ops dr _ _ k => Bool.rec (motive := fun _ => K) (kA C rec nt ops ops.toList k) (Bool.rec (motive := fun _ => K) dN (jI C rec nt ops k) (fS C.P ops)) dr)
  (fun _ _ iha ihb X kr k => iha X kr (ihb X kr k))
  (fun c _ _ iha ihb X kr k => fun env h => aX (opr env c) (iha X kr k env h) (ihb X kr k env h))
  (fun id _ ih X kr k => ih (fun j => bif Nat.beq j id then k else X j) kr k)
  (fun _ ih X kr _ => aO (fun kk => ih X kr kk) n)
  (fun g ps x y _ _ X kr k => dJr ps fun p => aCv C rec n I nt g p x y X kr k)
  (fun id X _ _ => X id)
  (fun _ _ _ _ _ => dN)
  (fun _ _ _ _ => dN)
  (fun _ _ _ _ => dN)
  (fun _ kr _ => kr)
  (fun _ _ _ _ => dN) c
noncomputable def nZ (f : FuncId) (args : List DV) (h : Hp) : aG :=
 match C.P.funcs[f]? with
 | some fn => match fn.body with
  | some c => bPm C rec fn.ntmps n I c (fun _ => dN) (aS C fn) (aS C fn) (aH args) h
  | none => none
 | none => none
end
section
variable {C : Cfg} {G : Gd} {rec : FuncId → List DV → Hp → aG} {nt n : Nat} {I : ItC}
end
end Go.Dd

namespace Go.Dd
noncomputable section
def WT.get (t : WT) : Nat → Int :=
 WT.rec (motive := fun _ => Nat → Int) (fun _ => .ofNat 0)
  (fun _ v _ ihl ihr k => bif Nat.beq k 0 then v else bif Nat.beq (Nat.mod k 2) 1 then ihl (Nat.div k 2) else ihr (Nat.div (Nat.sub k 1) 2)) t
def dKz (x : Int) (fuel : Nat) : Nat → WT → WT :=
 Nat.rec (motive := fun _ => Nat → WT → WT) (fun _ t => t)
  (fun _ ih k t => WT.rec (motive := fun _ => WT)
   (bif Nat.beq k 0 then .n .e x .e else bif Nat.beq (Nat.mod k 2) 1 then .n (ih (Nat.div k 2) .e) (.ofNat 0) .e else .n .e (.ofNat 0) (ih (Nat.div (Nat.sub k 1) 2) .e))
   (fun l v r _ _ => bif Nat.beq k 0 then .n l x r else bif Nat.beq (Nat.mod k 2) 1 then .n (ih (Nat.div k 2) l) v r else .n l v (ih (Nat.div (Nat.sub k 1) 2) r)) t) fuel
def WT.set (t : WT) (k : Nat) (x : Int) : WT := dKz x 24 k t
theorem WT.get_e (k : Nat) : WT.e.get k = 0 := rfl
theorem dKv (l : WT) (v : Int) (r : WT) (k : Nat) : (WT.n l v r).get k = if k = 0 then v else if k % 2 = 1 then l.get (k / 2) else r.get ((k - 1) / 2) := by
 show (bif Nat.beq k 0 then v else bif Nat.beq (Nat.mod k 2) 1 then l.get (Nat.div k 2) else r.get (Nat.div (Nat.sub k 1) 2)) = _
 cases h0 : Nat.beq k 0 with
 | true => have := Nat.eq_of_beq_eq_true h0; subst this; rfl
 | false =>
  have n0 : k ≠ 0 := by intro e; subst e; cases h0
  rw [if_neg n0]
  cases h1 : Nat.beq (Nat.mod k 2) 1 with
  | true => have : k % 2 = 1 := Nat.eq_of_beq_eq_true h1; rw [if_pos this]; rfl
  | false =>
   have n1 : k % 2 ≠ 1 := by intro e; have e' : Nat.mod k 2 = 1 := e; rw [e'] at h1; cases h1
   rw [if_neg n1]; rfl
theorem dLo (x : Int) (f k : Nat) (t : WT) : dKz x (f + 1) k t = match t with
  | .e => if k = 0 then .n .e x .e else if k % 2 = 1 then .n (dKz x f (k / 2) .e) 0 .e else .n .e 0 (dKz x f ((k - 1) / 2) .e)
  | .n l v r => if k = 0 then .n l x r else if k % 2 = 1 then .n (dKz x f (k / 2) l) v r else .n l v (dKz x f ((k - 1) / 2) r) := by
 have hb : ∀ {α : Type} (a b c : α), (bif Nat.beq k 0 then a else bif Nat.beq (Nat.mod k 2) 1 then b else c) = if k = 0 then a else if k % 2 = 1 then b else c := by
  intro α a b c
  cases h0 : Nat.beq k 0 with
  | true => have := Nat.eq_of_beq_eq_true h0; subst this; rfl
  | false =>
   have n0 : k ≠ 0 := by intro e; subst e; cases h0
   rw [if_neg n0]
   cases h1 : Nat.beq (Nat.mod k 2) 1 with
   | true => have : k % 2 = 1 := Nat.eq_of_beq_eq_true h1; rw [if_pos this]; rfl
   | false =>
    have n1 : k % 2 ≠ 1 := by intro e; have e' : Nat.mod k 2 = 1 := e; rw [e'] at h1; cases h1
    rw [if_neg n1]; rfl
 cases t with
 | e => exact hb _ _ _
 | n l v r => exact hb _ _ _
theorem dLe (x : Int) : ∀ (f k : Nat) (t : WT) (j : Nat), k + 1 < 2 ^ f → (dKz x f k t).get j = if j = k then x else t.get j
 | 0, k, t, j, h => by simp at h
 | f + 1, k, t, j, h => by
  have h2 : 2 ^ (f + 1) = 2 * 2 ^ f := by rw [Nat.pow_succ]; omega
  have ih := fun k t j (h : k + 1 < 2 ^ f) => dLe x f k t j h
  rw [dLo]
  cases t with
  | e =>
   simp only
   split
   ·subst_vars
    rw [dKv]
    split
    ·rfl
    ·simp [WT.get_e]
   ·split
    ·rw [dKv]
     split
     ·subst_vars; rw [if_neg (by omega)]; rfl
     ·split
      ·rw [ih _ _ _ (by omega), WT.get_e, WT.get_e]
       by_cases hj : j = k
       ·rw [if_pos hj, if_pos (by omega)]
       ·rw [if_neg hj, if_neg (by omega)]
      ·rw [WT.get_e, if_neg (by omega)]; rfl
    ·rw [dKv]
     split
     ·subst_vars; rw [if_neg (by omega)]; rfl
     ·split
      ·rw [WT.get_e, if_neg (by omega)]; rfl
      ·rw [ih _ _ _ (by omega), WT.get_e, WT.get_e]
       by_cases hj : j = k
       ·rw [if_pos hj, if_pos (by omega)]
       ·rw [if_neg hj, if_neg (by omega)]
  | n l v r =>
   simp only
   split
   ·subst_vars
    rw [dKv, dKv]
    split
    ·rfl
    ·rfl
   ·split
    ·rw [dKv, dKv]
     split
     ·subst_vars; rw [if_neg (by omega)]
     ·split
      ·rw [ih _ _ _ (by omega)]
       by_cases hj : j = k
       ·rw [if_pos hj, if_pos (by omega)]
       ·rw [if_neg hj, if_neg (by omega)]
      ·rw [if_neg (by omega)]
    ·rw [dKv, dKv]
     split
     ·subst_vars; rw [if_neg (by omega)]
     ·split
      ·rw [if_neg (by omega)]
      ·rw [ih _ _ _ (by omega)]
       by_cases hj : j = k
       ·rw [if_pos hj, if_pos (by omega)]
       ·rw [if_neg hj, if_neg (by omega)]
theorem WT.get_set (t : WT) (k : Nat) (x : Int) (j : Nat) (h : k < 16000000) : (t.set k x).get j = if j = k then x else t.get j :=
 dLe x 24 k t j (by omega)
def iJ (n : Nat) (t : WT) : List DV := (List.range n).map fun i => .i .i64 (t.get i)
def vK (g : Bool) : Ob → Ob → Prop
 | .big n t, o => if g then o = .big n t else o = .row .ex (iJ n t)
 | .mi t, o => if g then o = .mi t else ∃ es, o = .mp es ∧ ∀ a : Int, dL (.int .i64) (.i .i64 a) es = some (if 0 ≤ a ∧ t.get a.toNat ≠ 0 then some (.b true) else none)
 | o, o' => o' = o
structure Sim (g : Bool) (h h' : Hp) : Prop where
 next : h'.next = h.next
 get : ∀ b o, h.bl.get b = some o → ∃ o', h'.bl.get b = some o' ∧ vK g o o'
def SimR (g : Bool) (r r' : aG) : Prop := ∀ v h, r = some (v, h) → ∃ h', r' = some (v, h') ∧ Sim g h h'
def SimP (g : Bool) (p p' : Hp → aG) : Prop := ∀ h h', Sim g h h' → SimR g (p h) (p' h')
variable {h h' : Hp} {g : Bool}
theorem Sim.row (S : Sim g h h') {b : Pos} {k : Kind} {l : List DV} (hb : h.bl.get b = some (.row k l)) : h'.bl.get b = some (.row k l) := by
 obtain ⟨o', h1, h2⟩ := S.get b _ hb
 rw [h1, show o' = .row k l from h2]
theorem Sim.it (S : Sim g h h') {b : Pos} {s : List Nat} {p : Nat} (hb : h.bl.get b = some (.it s p)) : h'.bl.get b = some (.it s p) := by
 obtain ⟨o', h1, h2⟩ := S.get b _ hb
 rw [h1, show o' = .it s p from h2]
theorem Sim.mp (S : Sim g h h') {b : Pos} {es : List (DV × DV)} (hb : h.bl.get b = some (.mp es)) : h'.bl.get b = some (.mp es) := by
 obtain ⟨o', h1, h2⟩ := S.get b _ hb
 rw [h1, show o' = .mp es from h2]
theorem Sim.set (S : Sim g h h') {o o' : Ob} (hr : vK g o o') (b n : Pos) : Sim g ⟨n, Tr.set o b h.bl⟩ ⟨n, Tr.set o' b h'.bl⟩ := by
 refine ⟨rfl, fun x ob hx => ?_⟩
 by_cases e : x = b
 ·subst e
  simp only [dKc, bC] at hx ⊢
  subst hx
  exact ⟨o', rfl, hr⟩
 ·simp only [dKb _ _ _ _ e] at hx ⊢
  exact S.get x ob hx
theorem Sim.setR (S : Sim g h h') (k : Kind) (l : List DV) (b n : Pos) : Sim g ⟨n, Tr.set (.row k l) b h.bl⟩ ⟨n, Tr.set (.row k l) b h'.bl⟩ := S.set (show vK g (.row k l) (.row k l) from rfl) b n
theorem Sim.setM (S : Sim g h h') (es : List (DV × DV)) (b n : Pos) : Sim g ⟨n, Tr.set (.mp es) b h.bl⟩ ⟨n, Tr.set (.mp es) b h'.bl⟩ := S.set (show vK g (.mp es) (.mp es) from rfl) b n
theorem Sim.setI (S : Sim g h h') (s : List Nat) (p : Nat) (b n : Pos) : Sim g ⟨n, Tr.set (.it s p) b h.bl⟩ ⟨n, Tr.set (.it s p) b h'.bl⟩ := S.set (show vK g (.it s p) (.it s p) from rfl) b n
theorem Sim.new (S : Sim g h h') {o o' : Ob} (hr : vK g o o') : Sim g ⟨h.next.succ, Tr.set o h.next h.bl⟩ ⟨h'.next.succ, Tr.set o' h'.next h'.bl⟩ := by
 rw [S.next]; exact S.set hr _ _
theorem SimR.none (r : aG) : SimR g none r := fun v h e => by cases e
theorem SimR.some (S : Sim g h h') (v : DV) : SimR g (some (v, h)) (some (v, h')) := fun u k e => by
 simp only [bC, bO] at e
 obtain ⟨rfl, rfl⟩ := e
 exact ⟨h', rfl, S⟩
theorem dKf {F : Hp → aG} (hF : PureP F) : SimP g F F := fun h h' S v k e => by
 obtain ⟨rfl, h2⟩ := hF h v k e
 exact ⟨h', h2 h', S⟩
theorem Sim.rowOf (S : Sim g h h') {b : Pos} {l : List DV} (hb : rowOf b h = some l) : rowOf b h' = some l := by
 unfold Dd.rowOf at hb ⊢
 split at hb <;> (try (cases hb; done))
 rename_i k l0 h0
 rw [S.row h0]; exact hb
theorem Sim.cellsAt (S : Sim g h h') {b : Pos} {o n : Nat} {cs : List DV} (hb : cellsAt b o n h = some cs) : cellsAt b o n h' = some cs := by
 unfold Dd.cellsAt at hb ⊢
 split at hb <;> (try (cases hb; done))
 rename_i l h0
 rw [S.rowOf h0]; exact hb
theorem Sim.cellD (S : Sim g h h') {b : Pos} {o : Nat} {v : DV} (hb : cellD b o h = some v) : cellD b o h' = some v := by
 unfold Dd.cellD at hb ⊢
 split at hb <;> (try (cases hb; done))
 rename_i l h0
 rw [S.rowOf h0]; exact hb
theorem Sim.storeAt (S : Sim g h h') {b : Pos} {o : Nat} {vs : List DV} {k : Hp} (hb : cV b o vs h = some k) : ∃ k', cV b o vs h' = some k' ∧ Sim g k k' := by
 unfold cV at hb ⊢
 split at hb <;> (try (cases hb; done))
 rename_i kd l h0
 rw [S.row h0]
 dsimp only
 split at hb <;> (try (cases hb; done))
 rename_i hw
 rw [if_pos hw]
 split at hb <;> (try (cases hb; done))
 rename_i l' hp
 simp only [bC] at hb
 subst hb
 try simp only [hp]
 exact ⟨_, rfl, by rw [S.next]; exact S.set (show vK g (.row kd l') (.row kd l') from rfl) _ _⟩
theorem aCn (cs : List DV) : SimP g (cF cs) (cF cs) := fun h h' S v k e => by
 simp only [cF, bC, bO] at e ⊢
 obtain ⟨rfl, rfl⟩ := e
 exact ⟨_, ⟨by rw [S.next], rfl⟩, S.new rfl⟩
theorem aBg (b : Pos) (cs : List DV) : SimP g (mO b cs) (mO b cs) := fun h h' S v k e => by
 simp only [mO, bC, bO] at e ⊢
 obtain ⟨rfl, rfl⟩ := e
 exact ⟨_, ⟨rfl, rfl⟩, by rw [S.next]; first | exact S.setR _ _ _ _ | exact S.setM _ _ _ | exact S.setI _ _ _ _⟩
theorem cDs (x : DV) : SimP g (cB x) (cB x) := by
 unfold cB
 cases cT x with
 | none => exact fun h h' S => SimR.none _
 | some cs => exact aCn cs
theorem aZy (b : Pos) (x : DV) : SimP g (aAj b x) (aAj b x) := by
 unfold aAj
 cases cT x with
 | none => exact fun h h' S => SimR.none _
 | some cs => exact aBg b cs
theorem lR (x : DV) : SimP g (aA x) (aA x) := fun h h' S v k e => by
 unfold aA at e ⊢
 split at e <;> (try (cases e; done))
 split at e <;> (try (cases e; done))
 rename_i hc
 simp only [bC, bO] at e
 obtain ⟨rfl, rfl⟩ := e
 simp only [S.cellD hc]
 exact ⟨_, rfl, S⟩
theorem lN (n : Nat) (x : DV) : SimP g (aN n x) (aN n x) := fun h h' S v k e => by
 unfold aN at e ⊢
 split at e <;> (try (cases e; done))
 split at e <;> (try (cases e; done))
 rename_i hc
 simp only [bC, bO] at e
 obtain ⟨rfl, rfl⟩ := e
 simp only [S.cellsAt hc]
 exact ⟨_, rfl, S⟩
theorem lU (n : Nat) (x y : DV) : SimP g (aI n x y) (aI n x y) := fun h h' S v k e => by
 unfold aI at e ⊢
 split at e <;> (try (cases e; done))
 rename_i b o cs hc
 try rw [hc]
 try dsimp only
 split at e <;> (try (cases e; done))
 rename_i hn
 rw [if_pos hn]
 split at e <;> (try (cases e; done))
 rename_i k0 hs
 simp only [bC, bO] at e
 obtain ⟨rfl, rfl⟩ := e
 obtain ⟨k', h1, h2⟩ := S.storeAt hs
 try simp only [h1]
 exact ⟨_, rfl, h2⟩
theorem bAg (size : Nat) (x : DV) (lo hi : Option DV) : SimP g (dC size x lo hi) (dC size x lo hi) := fun h h' S v k e => by
 unfold dC at e ⊢
 split at e <;> (try (cases e; done))
 ·split at e <;> (try (cases e; done))
  rename_i en he
  try simp only [he]
  split at e <;> (try (cases e; done))
  rename_i s hs
  try simp only [hs]
  split at e <;> (try (cases e; done))
  ·rename_i l0 hb
   rw [S.row hb]
   simp only [bC, bO] at e
   obtain ⟨rfl, rfl⟩ := e
   exact ⟨_, rfl, S⟩
  ·rename_i l0 hb
   rw [S.row hb]
   simp only [bC, bO] at e
   obtain ⟨rfl, rfl⟩ := e
   exact ⟨_, rfl, S⟩
  ·rename_i k0 l0 n1 n2 hb
   rw [S.row hb]
   cases k0 with
   | ro => exact absurd rfl n1
   | ex => exact absurd rfl n2
   | gr es =>
    dsimp only
    split at e
    ·rename_i hcs
     simp only [bC, bO] at e
     obtain ⟨rfl, rfl⟩ := e
     rw [if_pos hcs]
     exact ⟨_, rfl, S⟩
    ·rename_i hcs
     simp only [bC, bO] at e
     obtain ⟨rfl, rfl⟩ := e
     rw [if_neg hcs]
     exact ⟨_, rfl, S⟩
   | sp =>
    dsimp only
    split at e
    ·rename_i hcs
     simp only [bC, bO] at e
     obtain ⟨rfl, rfl⟩ := e
     rw [if_pos hcs]
     exact ⟨_, rfl, S⟩
    ·rename_i hcs
     simp only [bC, bO] at e
     obtain ⟨rfl, rfl⟩ := e
     rw [if_neg hcs]
     exact ⟨_, rfl, S⟩
 all_goals
  split at e <;> (try (cases e; done))
  rename_i en he
  try simp only [he]
  split at e <;> (try (cases e; done))
  rename_i s hs
  try simp only [hs]
  simp only [bC, bO] at e
  obtain ⟨rfl, rfl⟩ := e
  exact ⟨_, rfl, S⟩
theorem aNu (x : DV) (lo : Option DV) (hi mx : DV) : SimP g (oM x lo hi mx) (oM x lo hi mx) := fun h h' S v k e => by
 unfold oM at e ⊢
 split at e <;> (try (cases e; done))
 all_goals
  split at e <;> (try (cases e; done))
 ·rename_i m e1
  try simp only [e1]
  split at e <;> (try (cases e; done))
  rename_i n e2
  try simp only [e2]
  simp only [bC, bO] at e
  obtain ⟨rfl, rfl⟩ := e
  exact ⟨_, rfl, S⟩
 ·rename_i m e1
  try simp only [e1]
  split at e <;> (try (cases e; done))
  rename_i n e2
  try simp only [e2]
  simp only [bC, bO] at e
  obtain ⟨rfl, rfl⟩ := e
  exact ⟨_, rfl, S⟩
 ·rename_i n1 n2 e1 e2
  try simp only [e1, e2]
  simp only [bC, bO] at e
  obtain ⟨rfl, rfl⟩ := e
  exact ⟨_, rfl, S⟩
 ·rename_i n1 n2 e1 e2
  try simp only [e1, e2]
  simp only [bC, bO] at e
  obtain ⟨rfl, rfl⟩ := e
  exact ⟨_, rfl, S⟩
theorem bBk (x : DV) : SimP g (dR x) (dR x) := fun h h' S v k e => by
 unfold dR at e ⊢
 split at e <;> (try (cases e; done))
 ·simp only [bC, bO] at e
  obtain ⟨rfl, rfl⟩ := e
  exact ⟨_, rfl, S⟩
 ·split at e <;> (try (cases e; done))
  rename_i cs hc
  simp only [S.cellsAt hc]
  split at e <;> (try (cases e; done))
  rename_i l hl
  try simp only [hl]
  simp only [bC, bO] at e
  obtain ⟨rfl, rfl⟩ := e
  exact ⟨_, rfl, S⟩
theorem zQ (z : List DV) (n : Nat) (ps : List (Nat × Nat × DV)) : SimP g (aJ z n ps) (aJ z n ps) := fun h h' S v k e => by
 unfold aJ at e ⊢
 split at e <;> (try (cases e; done))
 rename_i cs hf
 try simp only [hf]
 simp only [bC, bO] at e ⊢
 obtain ⟨rfl, rfl⟩ := e
 exact ⟨_, ⟨by rw [S.next], rfl⟩, S.new rfl⟩
theorem sY (b : Pos) (z : List DV) (n : Nat) (ps : List (Nat × Nat × DV)) : SimP g (bY b z n ps) (bY b z n ps) := fun h h' S v k e => by
 unfold bY at e ⊢
 split at e <;> (try (cases e; done))
 rename_i cs hf
 try simp only [hf]
 simp only [bC, bO] at e ⊢
 obtain ⟨rfl, rfl⟩ := e
 exact ⟨_, ⟨rfl, rfl⟩, by rw [S.next]; first | exact S.setR _ _ _ _ | exact S.setM _ _ _ | exact S.setI _ _ _ _⟩
theorem aKw : SimP g eE eE := fun h h' S v k e => by
 simp only [eE, bC, bO] at e ⊢
 obtain ⟨rfl, rfl⟩ := e
 exact ⟨_, ⟨by rw [S.next], rfl⟩, S.new rfl⟩
theorem Sim.entries (S : Sim g h h') {x : DV} {es : List (DV × DV)} (he : gE x h = some es) : gE x h' = some es := by
 unfold gE at he ⊢
 split at he <;> (try (cases he; done))
 ·exact he
 ·split at he <;> (try (cases he; done))
  rename_i hb
  rw [S.mp hb]; exact he
theorem aRm (d : TypeDesc) (z : DV) (ok : Bool) (x key : DV) : SimP g (dS d z ok x key) (dS d z ok x key) := fun h h' S v k e => by
 unfold dS at e ⊢
 split at e <;> (try (cases e; done))
 rename_i es he
 simp only [S.entries he]
 split at e <;> (try (cases e; done))
 all_goals
  rename_i hf
  try simp only [hf]
  simp only [bC, bO] at e
  obtain ⟨rfl, rfl⟩ := e
  exact ⟨_, rfl, S⟩
theorem aNn (d : TypeDesc) (x key y : DV) : SimP g (gP d x key y) (gP d x key y) := fun h h' S v k e => by
 unfold gP at e ⊢
 split at e <;> (try (cases e; done))
 split at e <;> (try (cases e; done))
 rename_i b _ es hb
 rw [S.mp hb]
 dsimp only
 split at e <;> (try (cases e; done))
 rename_i hf
 try simp only [hf]
 simp only [bC, bO] at e
 obtain ⟨rfl, rfl⟩ := e
 exact ⟨_, rfl, by rw [S.next]; first | exact S.setR _ _ _ _ | exact S.setM _ _ _ | exact S.setI _ _ _ _⟩
theorem aGb (d : TypeDesc) (z x key : DV) : SimP g (gG d z x key) (gG d z x key) := fun h h' S v k e => by
 unfold gG at e ⊢
 split at e <;> (try (cases e; done))
 split at e <;> (try (cases e; done))
 rename_i b _ es hb
 rw [S.mp hb]
 dsimp only
 split at e <;> (try (cases e; done))
 all_goals
  rename_i hf
  try simp only [hf]
  simp only [bC, bO] at e
  obtain ⟨rfl, rfl⟩ := e
  exact ⟨_, rfl, by rw [S.next]; first | exact S.setR _ _ _ _ | exact S.setM _ _ _ | exact S.setI _ _ _ _⟩
theorem zY (x s y : DV) : SimP g (eD x s y) (eD x s y) := fun h h' S v k e => by
 unfold eD at e ⊢
 split at e <;> (try (cases e; done))
 split at e <;> (try (cases e; done))
 rename_i es hb
 rw [S.mp hb]
 dsimp only
 split at e <;> (try (cases e; done))
 rename_i hf
 try simp only [hf]
 simp only [bC, bO] at e
 obtain ⟨rfl, rfl⟩ := e
 exact ⟨_, rfl, by rw [S.next]; first | exact S.setR _ _ _ _ | exact S.setM _ _ _ | exact S.setI _ _ _ _⟩
theorem aAs (size bytes : Nat) (z : List DV) (n c : DV) : SimP g (cJ size bytes z n c) (cJ size bytes z n c) := fun h h' S v k e => by
 unfold cJ at e ⊢
 split at e <;> (try (cases e; done))
 split at e <;> (try (cases e; done))
 rename_i hc
 rw [if_pos hc]
 simp only [bC, bO] at e ⊢
 obtain ⟨rfl, rfl⟩ := e
 exact ⟨_, ⟨by rw [S.next], rfl⟩, S.new rfl⟩
theorem bAf (z : List DV) (x : DV) : SimP g (kR z x) (kR z x) := fun h h' S v k e => by
 unfold kR at e ⊢
 split at e <;> (try (cases e; done))
 ·simp only [bC, bO] at e
  obtain ⟨rfl, rfl⟩ := e
  exact ⟨_, rfl, S⟩
 ·simp only [bC, bO] at e
  obtain ⟨rfl, rfl⟩ := e
  exact ⟨_, rfl, S⟩
 ·split at e
  ·rename_i hn
   simp only [bC, bO] at e
   obtain ⟨rfl, rfl⟩ := e
   simp only [hn, if_true]
   exact ⟨_, rfl, S⟩
  ·rename_i hn
   rw [if_neg hn]
   split at e <;> (try (cases e; done))
   rename_i k0 hs
   simp only [bC, bO] at e
   obtain ⟨rfl, rfl⟩ := e
   obtain ⟨k', h1, h2⟩ := S.storeAt hs
   try simp only [h1]
   exact ⟨_, rfl, h2⟩
theorem Sim.src (S : Sim g h h') {size : Nat} {x : DV} {r : Nat × List DV} (hs : rB size x h = some r) : rB size x h' = some r := by
 unfold rB at hs ⊢
 split at hs <;> (try (cases hs; done))
 ·exact hs
 ·exact hs
 ·split at hs <;> (try (cases hs; done))
  rename_i hc
  simp only [S.cellsAt hc]; exact hs
 ·split at hs <;> (try (cases hs; done))
  rename_i hc
  simp only [S.cellsAt hc]; exact hs
 ·exact hs
theorem aPf (size bytes : Nat) (s x : DV) : SimP g (bB size bytes s x) (bB size bytes s x) := fun h h' S v k e => by
 unfold bB at e ⊢
 split at e <;> (try (cases e; done))
 rename_i n new hs
 simp only [S.src hs]
 split at e <;> (try (cases e; done))
 ·split at e
  ·rename_i hn
   rw [if_pos hn]
   simp only [bC, bO] at e
   obtain ⟨rfl, rfl⟩ := e
   exact ⟨_, rfl, S⟩
  ·rename_i hn
   rw [if_neg hn]
   split at e <;> (try (cases e; done))
   rename_i hr
   rw [if_pos hr]
   simp only [bC, bO] at e ⊢
   obtain ⟨rfl, rfl⟩ := e
   exact ⟨_, ⟨by rw [S.next], rfl⟩, S.new rfl⟩
 ·split at e <;> (try (cases e; done))
  rename_i hn
  rw [if_pos hn]
  simp only [bC, bO] at e
  obtain ⟨rfl, rfl⟩ := e
  exact ⟨_, rfl, S⟩
 ·rename_i b o len cap
  split at e
  ·rename_i hle
   rw [if_pos hle]
   split at e <;> (try (cases e; done))
   rename_i k0 hst
   simp only [bC, bO] at e
   obtain ⟨rfl, rfl⟩ := e
   obtain ⟨k', h1, h2⟩ := S.storeAt hst
   try simp only [h1]
   exact ⟨_, rfl, h2⟩
  ·rename_i hle
   rw [if_neg hle]
   split at e <;> (try (cases e; done))
   rename_i k0 l old hb hold
   rw [S.row hb, S.cellsAt hold]
   dsimp only
   split at e <;> (try (cases e; done))
   rename_i hroom
   rw [if_pos hroom]
   split at e <;> (try (cases e; done))
   ·simp only [bC, bO] at e ⊢
    obtain ⟨rfl, rfl⟩ := e
    exact ⟨_, ⟨by rw [S.next], rfl⟩, S.new rfl⟩
   ·simp only [bC, bO] at e ⊢
    obtain ⟨rfl, rfl⟩ := e
    exact ⟨_, ⟨by rw [S.next], rfl⟩, S.new rfl⟩
   ·split at e <;> (try (cases e; done))
    rename_i hes
    rw [if_pos hes]
    simp only [bC, bO] at e ⊢
    obtain ⟨rfl, rfl⟩ := e
    refine ⟨_, ⟨by rw [S.next], rfl⟩, ?_⟩
    have S1 : Sim g ⟨h.next, Tr.set (.row .sp (bU o l)) b h.bl⟩ ⟨h'.next, Tr.set (.row .sp (bU o l)) b h'.bl⟩ := by
     rw [S.next]; exact S.set (show vK g (.row .sp (bU o l)) (.row .sp (bU o l)) from rfl) _ _
    exact S1.new rfl
 ·rename_i b o len cap
  split at e
  ·rename_i hn
   rw [if_pos hn]
   split at e <;> (try (cases e; done))
   rename_i hc
   rw [if_pos hc]
   simp only [bC, bO] at e
   obtain ⟨rfl, rfl⟩ := e
   exact ⟨_, rfl, S⟩
  ·rename_i hn
   rw [if_neg hn]
   split at e <;> (try (cases e; done))
   rename_i hc
   rw [if_neg hc]
   split at e <;> (try (cases e; done))
   rename_i old hold
   simp only [S.cellsAt hold]
   split at e <;> (try (cases e; done))
   rename_i hr
   rw [if_pos hr]
   simp only [bC, bO] at e ⊢
   obtain ⟨rfl, rfl⟩ := e
   exact ⟨_, ⟨by rw [S.next], rfl⟩, S.new rfl⟩
theorem bCp (x : DV) : SimP g (sD x) (sD x) := fun h h' S v k e => by
 unfold sD at e ⊢
 split at e <;> (try (cases e; done))
 simp only [bC, bO] at e ⊢
 obtain ⟨rfl, rfl⟩ := e
 exact ⟨_, ⟨by rw [S.next], rfl⟩, S.new rfl⟩
theorem bTe (x : DV) : SimP g (aBw x) (aBw x) := fun h h' S v k e => by
 unfold aBw at e ⊢
 split at e <;> (try (cases e; done))
 split at e <;> (try (cases e; done))
 rename_i b _ l pos hb
 rw [S.it hb]
 dsimp only
 split at e
 ·rename_i c hc
  try simp only [hc]
  split at e <;> (try (cases e; done))
  rename_i hlt
  rw [if_pos hlt]
  simp only [bC, bO] at e ⊢
  obtain ⟨rfl, rfl⟩ := e
  exact ⟨_, ⟨rfl, rfl⟩, by rw [S.next]; first | exact S.setR _ _ _ _ | exact S.setM _ _ _ | exact S.setI _ _ _ _⟩
 ·rename_i hc
  try simp only [hc]
  simp only [bC, bO] at e ⊢
  obtain ⟨rfl, rfl⟩ := e
  exact ⟨_, ⟨rfl, rfl⟩, S⟩
end
end Go.Dd

namespace Go.Dd
theorem SimP.none {gg : Bool} (p : Hp → aG) : SimP gg (fun _ => Option.none) p := fun h h' S => SimR.none _
theorem SimP.val {gg : Bool} (v : DV) : SimP gg (fun h => some (v, h)) (fun h => some (v, h)) := fun h h' S => SimR.some S v
section
variable {gg : Bool} {P : Program} {I2 I1 : FuncId → Option (List DV → Hp → aG)} {rec2 rec1 : FuncId → List DV → Hp → aG}
theorem aJp (b : Builtin) (ts : List TypeId) (args : List DV) : SimP gg (kP ⟨P, I2⟩ b ts args) (kP ⟨P, I1⟩ b ts args) := by
 unfold kP
 cases b <;> try exact SimP.none _
 case len =>
  match ts, args with
  | [t], [x] =>
   dsimp only
   cases P.underlying t with
   | none => exact SimP.none _
   | some d => cases d <;> first | exact SimP.none _ | exact dKf (aBe x) | exact dKf (nS x)
  | [], _ => exact SimP.none _
  | [_], [] => exact SimP.none _
  | [_], _ :: _ :: _ => exact SimP.none _
  | _ :: _ :: _, _ => exact SimP.none _
 case min =>
  show SimP gg (sF args) (sF args)
  unfold sF
  match args with
  | [x, y] => exact dKf (aMa x y)
  | [] => exact SimP.none _
  | [_] => exact SimP.none _
  | _ :: _ :: _ :: _ => exact SimP.none _
 case max =>
  show SimP gg (sU args) (sU args)
  unfold sU
  match args with
  | [x, y] => exact dKf (aKx x y)
  | [] => exact SimP.none _
  | [_] => exact SimP.none _
  | _ :: _ :: _ :: _ => exact SimP.none _
 case clear =>
  match ts, args with
  | [t], [x] =>
   dsimp only
   cases P.underlying t with
   | none => exact SimP.none _
   | some d =>
    cases d <;> try exact SimP.none _
    rename_i e
    dsimp only
    cases P.info? e with
    | none => exact SimP.none _
    | some i =>
     dsimp only
     cases i.zero with
     | none => exact SimP.none _
     | some z =>
      dsimp only
      by_cases h0 : 0 < z.cells.size
      ·simp only [h0, if_true]; exact bAf _ _
      ·simp only [h0, if_false]; exact SimP.none _
  | [], _ => exact SimP.none _
  | [_], [] => exact SimP.none _
  | [_], _ :: _ :: _ => exact SimP.none _
  | _ :: _ :: _, _ => exact SimP.none _
 case append =>
  match ts, args with
  | [t, u], [s, x] =>
   dsimp only
   have hmain : ∀ e, SimP gg (fun h => match P.info? e with
     | some i => match i.zero with
      | some z => if 0 < i.size ∧ 0 < i.bytes ∧ z.cells.size = i.size then bB i.size i.bytes s x h else none
      | none => none
     | none => none) (fun h => match P.info? e with
     | some i => match i.zero with
      | some z => if 0 < i.size ∧ 0 < i.bytes ∧ z.cells.size = i.size then bB i.size i.bytes s x h else none
      | none => none
     | none => none) := by
    intro e
    cases P.info? e with
    | none => exact SimP.none _
    | some i =>
     dsimp only
     cases i.zero with
     | none => exact SimP.none _
     | some z =>
      dsimp only
      split
      ·exact aPf _ _ _ _
      ·exact SimP.none _
   cases P.underlying t with
   | none => exact SimP.none _
   | some d =>
    cases d <;> try exact SimP.none _
    rename_i e
    cases P.underlying u with
    | none => exact SimP.none _
    | some d2 => cases d2 <;> first | exact SimP.none _ | exact hmain e
  | [], _ => exact SimP.none _
  | [_], _ => exact SimP.none _
  | [_, _], [] => exact SimP.none _
  | [_, _], [_] => exact SimP.none _
  | [_, _], _ :: _ :: _ :: _ => exact SimP.none _
  | _ :: _ :: _ :: _, _ => exact SimP.none _
theorem aAz (HC : ∀ g args, SimP gg (bT ⟨P, I2⟩ rec2 g args) (bT ⟨P, I1⟩ rec1 g args)) (o : Oper) (env : bF) : SimP gg (jT ⟨P, I2⟩ rec2 o env) (jT ⟨P, I1⟩ rec1 o env) := by
 obtain ⟨dst, op, ty, pos, after, guard⟩ := o
 unfold jT
 cases op <;> (try dsimp only) <;> try exact SimP.none _
 case move x => exact SimP.val _
 case assign x => exact SimP.val _
 case pick c x y => exact dKf (aAy _ _ _)
 case alloc t =>
  cases P.info? t with
  | none => exact SimP.none _
  | some i =>
   try dsimp only
   cases i.zero with
   | none => exact SimP.none _
   | some z => exact aCn _
 case box t x => exact cDs _
 case build t ps =>
  cases P.underlying t with
  | none => exact SimP.none _
  | some d =>
   cases d <;> (try dsimp only) <;> try exact SimP.none _
   case array n e =>
    cases P.info? t with
    | none => exact SimP.none _
    | some i =>
     try dsimp only
     split
     ·exact dKf (mP _ _)
     ·exact SimP.none _
   rename_i fs
   cases P.info? t with
   | none => exact SimP.none _
   | some i =>
    try dsimp only
    cases i.zero with
    | none => exact SimP.none _
    | some z =>
     try dsimp only
     generalize fs.toList.mapM (fun f => (P.info? f.type).map fun fi => (f.offset, fi.size)) = pl
     cases pl with
     | none => exact SimP.none _
     | some pl =>
      try dsimp only
      generalize ps.toList.mapM (fun (q : Nat × Operand) => (pl[q.1]?).map fun s => (s.1, s.2, opr env q.2)) = l
      cases l with
      | none => exact SimP.none _
      | some l => exact dKf (mP _ _)
 case buildSlice t n ps =>
  cases P.underlying t with
  | none => exact SimP.none _
  | some d =>
   cases d <;> (try dsimp only) <;> try exact SimP.none _
   rename_i e
   cases P.info? e with
   | none => exact SimP.none _
   | some i =>
    try dsimp only
    cases i.zero with
    | none => exact SimP.none _
    | some z =>
     try dsimp only
     split
     ·exact zQ _ _ _
     ·exact SimP.none _
 case load t x =>
  cases P.underlying t with
  | none => exact SimP.none _
  | some d =>
   cases P.info? t with
   | none => exact SimP.none _
   | some i =>
    try dsimp only
    cases jP d with
    | true => exact lN _ _
    | false => exact lR _
 case store t x y =>
  cases P.info? t with
  | none => exact SimP.none _
  | some i => exact lU _ _ _
 case nilCheck x => exact dKf (aMm _)
 case binOp op t x y yt =>
  cases P.underlying t with
  | none => exact SimP.none _
  | some d => cases d <;> first | exact dKf (aKm _ _ _ _) | exact dKf (aLi _ _ _ _)
 case unOp op t x => exact dKf (aVu _ _)
 case convert src dst x =>
  cases P.underlying src with
  | none => exact SimP.none _
  | some d =>
   cases P.underlying dst with
   | none => cases d <;> exact SimP.none _
   | some d2 =>
    cases d2 <;> cases d <;> (try dsimp only) <;> first | exact SimP.none _ | exact dKf (qB _ _) | exact dKf (pE _) | skip
    all_goals
     rename_i e
     cases P.underlying e with
     | none => exact SimP.none _
     | some d3 =>
      cases d3 <;> (try dsimp only) <;> try exact SimP.none _
      rename_i k
      cases k <;> first | exact SimP.none _ | exact bBk _
 case makeFunc fn first cap =>
  cases fn <;> first | exact SimP.none _ | exact SimP.val _
 case slice t x lo hi mx =>
  cases P.underlying t with
  | none => exact SimP.none _
  | some d =>
   cases mx with
   | none =>
    cases d <;> (try dsimp only) <;> first | exact SimP.none _ | exact dKf (nC _ _ _) | skip
    rename_i e
    cases P.info? e with
    | none => exact SimP.none _
    | some i => exact bAg _ _ _ _
   | some m =>
    cases d <;> (try dsimp only) <;> try exact SimP.none _
    rename_i e
    cases P.info? e with
    | none => exact SimP.none _
    | some i =>
     cases hi with
     | none => exact SimP.none _
     | some hv => exact aNu _ _ _ _
 case fieldAddr t x f =>
  cases P.underlying t with
  | none => exact SimP.none _
  | some d =>
   cases d <;> (try dsimp only) <;> try exact SimP.none _
   rename_i fs
   cases fs[f]? with
   | none => exact SimP.none _
   | some fl =>
    try dsimp only
    cases P.info? fl.type with
    | none => exact SimP.none _
    | some i =>
     try dsimp only
     split
     ·exact SimP.none _
     ·exact dKf (xF _ _)
 case field t x f =>
  cases P.underlying t with
  | none => exact SimP.none _
  | some d =>
   cases d <;> (try dsimp only) <;> try exact SimP.none _
   rename_i fs
   cases fs[f]? with
   | none => exact SimP.none _
   | some fl =>
    try dsimp only
    cases P.underlying fl.type with
    | none => exact SimP.none _
    | some d2 =>
     cases P.info? fl.type with
     | none => exact SimP.none _
     | some i =>
      try dsimp only
      cases jP d2 with
      | true => exact dKf (zA _ _ _)
      | false => exact dKf (wI _ _)
 case indexAddr t x ix =>
  cases P.underlying t with
  | none => exact SimP.none _
  | some d =>
   cases d <;> (try dsimp only) <;> try exact SimP.none _
   ·rename_i e
    cases P.info? e with
    | none => exact SimP.none _
    | some i => exact dKf (nP _ _ _)
   ·rename_i n e
    cases P.info? e with
    | none => exact SimP.none _
    | some i => exact dKf (pA _ _ _ _)
 case index t x ix =>
  cases P.underlying t with
  | none => exact SimP.none _
  | some d => cases d <;> first | exact SimP.none _ | exact dKf (tG _ _)
 case extract x i => exact dKf (qR _ _)
 case range t x =>
  cases P.underlying t with
  | none => exact SimP.none _
  | some d => cases d <;> first | exact SimP.none _ | exact bCp _
 case next x str =>
  cases str with
  | true => simp only [if_true]; exact bTe _
  | false => simp only [Bool.false_eq_true, if_false]; exact SimP.none _
 case makeMap t r => cases r <;> first | exact SimP.none _ | exact aKw
 case lookup t x k ok =>
  cases P.underlying t with
  | none => exact SimP.none _
  | some d =>
   cases d <;> (try dsimp only) <;> try exact SimP.none _
   rename_i kt et
   cases P.underlying kt with
   | none => exact SimP.none _
   | some d2 =>
    cases P.info? et with
    | none => exact SimP.none _
    | some i =>
     try dsimp only
     cases i.zero with
     | none => exact SimP.none _
     | some z =>
      try dsimp only
      cases kK d2 with
      | true => exact aRm _ _ _ _ _
      | false => exact SimP.none _
 case mapUpdate t m k x =>
  cases P.underlying t with
  | none => exact SimP.none _
  | some d =>
   cases d <;> (try dsimp only) <;> try exact SimP.none _
   rename_i kt et
   cases P.underlying kt with
   | none => exact SimP.none _
   | some d2 =>
    try dsimp only
    cases kK d2 with
    | true => exact aNn _ _ _ _
    | false => exact SimP.none _
 case mapEntry t m k =>
  cases P.underlying t with
  | none => exact SimP.none _
  | some d =>
   cases d <;> (try dsimp only) <;> try exact SimP.none _
   rename_i kt et
   cases P.underlying kt with
   | none => exact SimP.none _
   | some d2 =>
    cases P.info? et with
    | none => exact SimP.none _
    | some i =>
     try dsimp only
     cases i.zero with
     | none => exact SimP.none _
     | some z =>
      try dsimp only
      cases kK d2 with
      | true => exact aGb _ _ _ _
      | false => exact SimP.none _
 case entryStore t m s x => exact zY _ _ _
 case makeSlice t n c =>
  cases P.underlying t with
  | none => exact SimP.none _
  | some d =>
   cases d <;> (try dsimp only) <;> try exact SimP.none _
   rename_i e
   cases P.info? e with
   | none => exact SimP.none _
   | some i =>
    try dsimp only
    cases i.zero with
    | none => exact SimP.none _
    | some z =>
     try dsimp only
     split
     ·exact aAs _ _ _ _ _
     ·exact SimP.none _
 case call c =>
  obtain ⟨callee, args, ats⟩ := c
  cases callee with
  | value f =>
   try dsimp only
   unfold jS
   cases opr env f <;> first | exact SimP.none _ | exact HC _ _
  | invoke r m => exact SimP.none _
  | builtin b => exact aJp _ _ _
theorem lP (HC : ∀ g args, SimP gg (bT ⟨P, I2⟩ rec2 g args) (bT ⟨P, I1⟩ rec1 g args)) (all : Array Oper) (o : Oper) (env : bF) :
  SimP gg (bK ⟨P, I2⟩ rec2 all o env) (bK ⟨P, I1⟩ rec1 all o env) := by
 unfold bK
 cases o.guard with
 | none => exact aAz HC o env
 | some g =>
  obtain ⟨j, want⟩ := g
  dsimp only
  unfold gD
  cases aWb all j env <;> try exact SimP.none _
  ·rename_i x
   dsimp only
   split
   ·exact aAz HC o env
   ·exact SimP.val _
  ·rename_i vs
   cases vs with
   | nil => exact SimP.val _
   | cons a b => exact SimP.none _
def SimK (gg : Bool) (k k' : K) : Prop := ∀ env, SimP gg (k env) (k' env)
theorem dKj {r r' : aG} {k k' : DV → Hp → aG} (h : SimR gg r r') (hk : ∀ v, SimP gg (k v) (k' v)) : SimR gg (bnd r k) (bnd r' k') := by
 intro v h1 e
 obtain ⟨u, h0, e1, e2⟩ := dM e
 obtain ⟨h0', f1, S⟩ := h u h0 e1
 obtain ⟨h1', g1, S1⟩ := hk u h0 h0' S v h1 e2
 exact ⟨h1', by rw [f1]; exact g1, S1⟩
theorem dLa {b b' : Bool} {r r' : aG} (hb : b = true → b' = true) (h : SimR gg r r') : SimR gg (cnd b r) (cnd b' r') := by
 cases b with
 | false => exact fun v k e => by cases e
 | true => rw [hb rfl]; exact h
theorem qE (HC : ∀ g args, SimP gg (bT ⟨P, I2⟩ rec2 g args) (bT ⟨P, I1⟩ rec1 g args)) (nt : Nat) (all : Array Oper) {k k' : K} (hk : SimK gg k k') :
  ∀ l : List Oper, SimK gg (kA ⟨P, I2⟩ rec2 nt all l k) (kA ⟨P, I1⟩ rec1 nt all l k')
 | [] => hk
 | o :: l => fun env h h' S => by
  change SimR gg (cnd (dD nt o.dst) (bnd (bK ⟨P, I2⟩ rec2 all o env h) fun v h1 => kA ⟨P, I2⟩ rec2 nt all l k (bP env o.dst v) h1))
   (cnd (dD nt o.dst) (bnd (bK ⟨P, I1⟩ rec1 all o env h') fun v h1 => kA ⟨P, I1⟩ rec1 nt all l k' (bP env o.dst v) h1))
  exact dLa id (dKj (lP HC all o env h h' S) fun v => qE HC nt all hk l _)
theorem aAl {gg : Bool} (b : Pos) : SimP gg (kI b) (kI b) := by
 intro h h' S v k e
 simp only [kI, bC, bO] at e ⊢
 obtain ⟨rfl, rfl⟩ := e
 exact ⟨_, ⟨rfl, rfl⟩, by rw [S.next]; first | exact S.setR _ _ _ _ | exact S.setM _ _ _ | exact S.setI _ _ _ _⟩
theorem cLs (o : Oper) (b : Pos) (env : bF) : SimP gg (dX ⟨P, I2⟩ o b env) (dX ⟨P, I1⟩ o b env) := by
 obtain ⟨dst, op, ty, pos, after, guard⟩ := o
 unfold dX
 cases op <;> (try dsimp only) <;> try exact SimP.none _
 case alloc t =>
  cases P.info? t with
  | none => exact SimP.none _
  | some i =>
   dsimp only
   cases i.zero with
   | none => exact SimP.none _
   | some z => exact aBg _ _
 case makeMap t r => cases r with
  | none => exact aAl _
  | some _ => exact SimP.none _
 case box t x => exact aZy _ _
 case buildSlice t n ps =>
  cases P.underlying t with
  | none => exact SimP.none _
  | some d =>
   cases d <;> (try dsimp only) <;> try exact SimP.none _
   rename_i e
   cases P.info? e with
   | none => exact SimP.none _
   | some i =>
    dsimp only
    cases i.zero with
    | none => exact SimP.none _
    | some z =>
     dsimp only
     split
     ·exact sY _ _ _ _
     ·exact SimP.none _
theorem SimR.same {r r' : aG} (h : SimR gg r r') {v : DV} (hs : bQ r v = true) : bQ r' v = true := by
 unfold bQ at hs ⊢
 split at hs
 ·rename_i x k
  obtain ⟨k', e, _⟩ := h x k rfl
  rw [e]; exact hs
 ·cases hs
inductive SimHs (gg : Bool) : List (Option Nat × Hp) → List (Option Nat × Hp) → Prop
 | nil : SimHs gg [] []
 | cons {j : Option Nat} {h h' : Hp} {l l' : List (Option Nat × Hp)} (S : Sim gg h h') (T : SimHs gg l l') : SimHs gg ((j, h) :: l) ((j, h') :: l')
theorem tO (m : Array Nat) (i : Nat) (v : DV) {look look' : Hp → aG} (hl : SimP gg look look') : ∀ (dirty : Bool) {hs hs' : List (Option Nat × Hp)}, SimHs gg hs hs' →
  eQ m i v look dirty hs = true → eQ m i v look' dirty hs' = true
 | dirty, _, _, .nil, h => h
 | dirty, _, _, .cons (j := j) S T, h => by
  unfold eQ at h ⊢
  rw [Bool.and_eq_true] at h ⊢
  refine ⟨?_, ?_⟩
  ·have h1 := h.1
   cases dirty with
   | true => exact SimR.same (hl _ _ S) h1
   | false => exact h1
  ·have h2 := h.2
   cases j with
   | none => exact h2
   | some j =>
    dsimp only at h2 ⊢
    cases ho : gQ m j i with
    | true => rfl
    | false =>
     rw [ho] at h2
     exact tO m i v hl true T h2
inductive SimSeen (gg : Bool) : List Seen → List Seen → Prop
 | nil : SimSeen gg [] []
 | cons {i : Nat} {look look' : Hp → aG} {v : DV} {l l' : List Seen} (S : SimP gg look look') (T : SimSeen gg l l') : SimSeen gg (⟨i, look, v⟩ :: l) (⟨i, look', v⟩ :: l')
theorem SimSeen.all {m : Array Nat} {i : Nat} {h h' : Hp} (S : Sim gg h h') : ∀ {l l' : List Seen}, SimSeen gg l l' →
  l.all (fun q => gQ m q.at_ i || bQ (q.look h) q.v) = true → l'.all (fun q => gQ m q.at_ i || bQ (q.look h') q.v) = true
 | _, _, .nil, e => e
 | _, _, .cons (i := i0) (v := v) S1 T, e => by
  rw [List.all_cons, Bool.and_eq_true] at e ⊢
  refine ⟨?_, SimSeen.all S T e.2⟩
  have h1 := e.1
  rw [Bool.or_eq_true] at h1 ⊢
  exact h1.imp id fun hs => SimR.same (S1 _ _ S) hs
theorem nV (HC : ∀ g args, SimP gg (bT ⟨P, I2⟩ rec2 g args) (bT ⟨P, I1⟩ rec1 g args)) (nt : Nat) (all : Array Oper) (m : Array Nat) (p0 : Pos) {k k' : K} (hk : SimK gg k k') :
  ∀ (l : List Oper) (i c : Nat) (dirty : Bool) {rd rd' : List Seen} {hs hs' : List (Option Nat × Hp)}, SimSeen gg rd rd' → SimHs gg hs hs' →
   SimK gg (eM ⟨P, I2⟩ rec2 nt all m p0 l k i c dirty rd hs) (eM ⟨P, I1⟩ rec1 nt all m p0 l k' i c dirty rd' hs')
 | [], i, c, dirty, rd, rd', hs, hs', R, T => hk
 | o :: l, i, c, dirty, rd, rd', hs, hs', R, T => fun env h h' S => by
  change SimR gg (cnd (dD nt o.dst) (
   match bW P o.op with
   | .pure => bnd (bK ⟨P, I2⟩ rec2 all o env h) fun v h' => eM ⟨P, I2⟩ rec2 nt all m p0 l k (i + 1) c dirty rd hs (bP env o.dst v) h'
   | .reads => bnd (bK ⟨P, I2⟩ rec2 all o env h) fun v h' =>
     cnd (eQ m i v (bK ⟨P, I2⟩ rec2 all o env) dirty hs) (eM ⟨P, I2⟩ rec2 nt all m p0 l k (i + 1) c dirty (⟨i, bK ⟨P, I2⟩ rec2 all o env, v⟩ :: rd) hs (bP env o.dst v) h')
   | .makes => bnd (dX ⟨P, I2⟩ o (cH c p0) env h) fun v h' => eM ⟨P, I2⟩ rec2 nt all m p0 l k (i + 1) (c + 1) true rd hs (bP env o.dst v) h'
   | .acts => bnd (bK ⟨P, I2⟩ rec2 all o env h) fun v h' =>
     cnd (rd.all (fun q => gQ m q.at_ i || bQ (q.look h') q.v)) (eM ⟨P, I2⟩ rec2 nt all m p0 l k (i + 1) c false rd ((some i, h') :: hs) (bP env o.dst v) h')))
   (cnd (dD nt o.dst) (
   match bW P o.op with
   | .pure => bnd (bK ⟨P, I1⟩ rec1 all o env h') fun v h' => eM ⟨P, I1⟩ rec1 nt all m p0 l k' (i + 1) c dirty rd' hs' (bP env o.dst v) h'
   | .reads => bnd (bK ⟨P, I1⟩ rec1 all o env h') fun v h' =>
     cnd (eQ m i v (bK ⟨P, I1⟩ rec1 all o env) dirty hs') (eM ⟨P, I1⟩ rec1 nt all m p0 l k' (i + 1) c dirty (⟨i, bK ⟨P, I1⟩ rec1 all o env, v⟩ :: rd') hs' (bP env o.dst v) h')
   | .makes => bnd (dX ⟨P, I1⟩ o (cH c p0) env h') fun v h' => eM ⟨P, I1⟩ rec1 nt all m p0 l k' (i + 1) (c + 1) true rd' hs' (bP env o.dst v) h'
   | .acts => bnd (bK ⟨P, I1⟩ rec1 all o env h') fun v h' =>
     cnd (rd'.all (fun q => gQ m q.at_ i || bQ (q.look h') q.v)) (eM ⟨P, I1⟩ rec1 nt all m p0 l k' (i + 1) c false rd' ((some i, h') :: hs') (bP env o.dst v) h')))
  refine dLa id ?_
  cases bW P o.op with
  | pure => exact dKj (lP HC all o env h h' S) fun v => nV HC nt all m p0 hk l _ _ _ R T _
  | reads =>
   exact dKj (lP HC all o env h h' S) fun v h1 h1' S1 => dLa (tO m i v (lP HC all o env) dirty T)
    (nV HC nt all m p0 hk l _ _ _ (.cons (lP HC all o env) R) T _ _ _ S1)
  | makes => exact dKj (cLs o _ env h h' S) fun v => nV HC nt all m p0 hk l _ _ _ R T _
  | acts =>
   exact dKj (lP HC all o env h h' S) fun v h1 h1' S1 => dLa (SimSeen.all S1 R)
    (nV HC nt all m p0 hk l _ _ _ R (.cons S1 T) _ _ _ S1)
theorem Sim.resv {gg : Bool} {h h' : Hp} (S : Sim gg h h') (k : Nat) : Sim gg (resv k h) (resv k h') := by
 cases k with
 | zero => exact S
 | succ k => exact ⟨by show cH (k + 1) h'.next = cH (k + 1) h.next; rw [S.next], S.get⟩
theorem bOe (HC : ∀ g args, SimP gg (bT ⟨P, I2⟩ rec2 g args) (bT ⟨P, I1⟩ rec1 g args)) (nt : Nat) (ops : Array Oper) {k k' : K} (hk : SimK gg k k') :
  SimK gg (jI ⟨P, I2⟩ rec2 nt ops k) (jI ⟨P, I1⟩ rec1 nt ops k') := fun env h h' S => by
 unfold jI
 rw [S.next]
 exact nV HC nt ops _ _ hk _ _ _ _ .nil (.cons (S.resv _) .nil) env _ _ (S.resv _)
theorem aDt {c : DV} {a b a' b' : aG} (ha : SimR gg a a') (hb : SimR gg b b') : SimR gg (aX c a b) (aX c a' b') := by
 unfold aX
 cases c <;> try exact SimR.none _
 rename_i x
 cases x
 ·exact hb
 ·exact ha
theorem qJ {b b' : K → K} (hb : ∀ k k', SimK gg k k' → SimK gg (b k) (b' k')) : ∀ (n d : Nat), SimK gg (aO b n) (aO b' (n + d))
 | 0, d => fun env h h' S v k e => by cases e
 | n + 1, d => by
  rw [show n + 1 + d = (n + d) + 1 from by omega]
  exact hb _ _ (qJ hb n d)
theorem gN (HC : ∀ g args, SimP gg (bT ⟨P, I2⟩ rec2 g args) (bT ⟨P, I1⟩ rec1 g args)) (nt n d : Nat) : ∀ (c : Code) (X X' : Nat → K) (kr kr' k k' : K), (∀ j, SimK gg (X j) (X' j)) → SimK gg kr kr' → SimK gg k k' →
  SimK gg (aP ⟨P, I2⟩ rec2 nt n c X kr k) (aP ⟨P, I1⟩ rec1 nt (n + d) c X' kr' k') := by
 intro c
 have hfail : ∀ k', SimK gg dN k' := fun k' env h h' S v k e => by cases e
 induction c with
 | skip => intro X X' kr kr' k k' hX hr hk; exact hk
 | region id ops dr =>
  intro X X' kr kr' k k' hX hr hk
  change SimK gg (Bool.rec (motive := fun _ => K) (kA ⟨P, I2⟩ rec2 nt ops ops.toList k) (Bool.rec (motive := fun _ => K) dN (jI ⟨P, I2⟩ rec2 nt ops k) (fS P ops)) dr)
   (Bool.rec (motive := fun _ => K) (kA ⟨P, I1⟩ rec1 nt ops ops.toList k') (Bool.rec (motive := fun _ => K) dN (jI ⟨P, I1⟩ rec1 nt ops k') (fS P ops)) dr)
  cases dr with
  | false => exact qE HC nt ops hk _
  | true =>
   cases fS P ops with
   | false => exact hfail _
   | true => exact bOe HC nt ops hk
 | seq x y ihx ihy => intro X X' kr kr' k k' hX hr hk; exact ihx _ _ _ _ _ _ hX hr (ihy _ _ _ _ _ _ hX hr hk)
 | cond c x y ihx ihy =>
  intro X X' kr kr' k k' hX hr hk env h h' S
  exact aDt (ihx _ _ _ _ _ _ hX hr hk env h h' S) (ihy _ _ _ _ _ _ hX hr hk env h h' S)
 | block id x ih =>
  intro X X' kr kr' k k' hX hr hk
  refine ih _ _ _ _ _ _ (fun j => ?_) hr hk
  cases hj : Nat.beq j id with
  | true => exact hk
  | false => exact hX j
 | loop x ih =>
  intro X X' kr kr' k k' hX hr hk
  exact qJ (fun k k' hk => ih _ _ _ _ _ _ hX hr hk) n d
 | rangeFunc f ps x y ihx ihy => intro X X' kr kr' k k' hX hr hk; exact hfail _
 | exit id => intro X X' kr kr' k k' hX hr hk; exact hX id
 | scope x ih => intro X X' kr kr' k k' hX hr hk; exact ih _ _ _ _ _ _ hX hr hk
 | label l => intro X X' kr kr' k k' hX hr hk; exact hk
 | goto l => intro X X' kr kr' k k' hX hr hk; exact hfail _
 | ret => intro X X' kr kr' k k' hX hr hk; exact hr
 | refuse why => intro X X' kr kr' k k' hX hr hk; exact hfail _
theorem bCa {h h' : Hp} (S : Sim gg h h') (t : TypeId) (x : DV) {k k' : DV → aG} (hk : ∀ v, SimR gg (k v) (k' v)) : SimR gg (aBq ⟨P, I2⟩ t x h k) (aBq ⟨P, I1⟩ t x h' k') := by
 unfold aBq
 dsimp only
 cases P.underlying t with
 | none => exact SimR.none _
 | some d =>
  cases P.info? t with
  | none => exact SimR.none _
  | some i =>
   dsimp only
   refine dKj ?_ fun v _ _ _ => hk v
   cases jP d with
   | true => exact lN _ _ h h' S
   | false => exact lR _ h h' S
theorem sC {h h' : Hp} (S : Sim gg h h') (env : bF) : ∀ (l : List ResultVar) (k k' : List DV → aG), (∀ vs, SimR gg (k vs) (k' vs)) → SimR gg (aZb ⟨P, I2⟩ env h l k) (aZb ⟨P, I1⟩ env h' l k')
 | [], k, k', hk => hk []
 | .tmp t :: l, k, k', hk => sC S env l _ _ fun vs => hk _
 | .cell a t :: l, k, k', hk => bCa S t (env a) fun v => sC S env l _ _ fun vs => hk _
theorem qT (fn : Func) : SimK gg (aS ⟨P, I2⟩ fn) (aS ⟨P, I1⟩ fn) := fun env h h' S => by
 unfold aS
 refine sC S env _ _ _ fun vs => ?_
 unfold bQp
 match vs with
 | [v] => exact SimR.some S _
 | [] => exact SimR.some S _
 | _ :: _ :: _ => exact SimR.some S _
theorem nY (HC : ∀ g args, SimP gg (bT ⟨P, I2⟩ rec2 g args) (bT ⟨P, I1⟩ rec1 g args)) (n d : Nat) (f : FuncId) (args : List DV) :
  SimP gg (aE ⟨P, I2⟩ rec2 n f args) (aE ⟨P, I1⟩ rec1 (n + d) f args) := by
 intro h h' S
 unfold aE
 dsimp only
 cases P.funcs[f]? with
 | none => exact SimR.none _
 | some fn =>
  dsimp only
  cases fn.body with
  | none => exact SimR.none _
  | some c => exact gN HC fn.ntmps n d c _ _ _ _ _ _ (fun _ _ _ _ _ _ _ e => by cases e) (qT fn) (qT fn) _ h h' S
end
theorem bDu {gg : Bool} {P : Program} {I2 I1 : FuncId → Option (List DV → Hp → aG)} (d : Nat) (h0 : ∀ g, I2 g = none → I1 g = none)
  (hI : ∀ g F, I2 g = some F → ∀ n args, SimP gg (F args) (bT ⟨P, I1⟩ (fnD ⟨P, I1⟩ (n + d)) g args)) : ∀ (n : Nat) (f : FuncId) (args : List DV), SimP gg (fnD ⟨P, I2⟩ n f args) (fnD ⟨P, I1⟩ (n + d) f args)
 | 0, f, args => fun h h' S v k e => by cases e
 | n + 1, f, args => by
  rw [show n + 1 + d = (n + d) + 1 from by omega]
  refine nY (fun g az => ?_) n d f args
  unfold bT
  dsimp only
  cases hg : I2 g with
  | none =>
   rw [h0 g hg]
   exact bDu d h0 hI n g az
  | some F =>
   have := hI g F hg n az
   unfold bT at this
   exact this
end Go.Dd

namespace Go.Dd
section
variable {gg : Bool} {P : Program} {I2 I1 : FuncId → Option (List DV → Hp → aG)} {rec2 rec1 : FuncId → List DV → Hp → aG}
theorem oO {c : Bool} {q q' : aG} (h : SimR gg q q') : SimR gg (cnd c q) (cnd c q') := by
 cases c with
 | false => exact SimR.none _
 | true => exact h
theorem dKh (k' : K) : SimK gg dN k' := fun env h h' S v k e => by cases e
theorem vZ (HC : ∀ g args, SimP gg (bT ⟨P, I2⟩ rec2 g args) (bT ⟨P, I1⟩ rec1 g args)) (n d : Nat) (I : ItC) (b : Bool) {kr kr' k k' : K} (hr : SimK gg kr kr') (hk : SimK gg k k') (e1 : bF) :
  SimP gg (aJa ⟨P, I2⟩ rec2 n I b kr k e1) (aJa ⟨P, I1⟩ rec1 (n + d) I b kr' k' e1) := fun h h' S =>
 oO (qE HC I.nt I.ops (gN HC I.nt n d I.after _ _ _ _ _ _ (fun _ => dKh _) hr hk) _ _ h h' S)
theorem aZw (HC : ∀ g args, SimP gg (bT ⟨P, I2⟩ rec2 g args) (bT ⟨P, I1⟩ rec1 g args)) (n d : Nat) (I : ItC) (nt : Nat) (p : Tmp) (x y : Code) (env : bF) {X X' : Nat → K} {kr kr' kk kk' : K} (hX : ∀ j, SimK gg (X j) (X' j)) (hr : SimK gg kr kr') (hk : SimK gg kk kk') :
  SimK gg (aPt ⟨P, I2⟩ rec2 n I nt p x y env X kr kk) (aPt ⟨P, I1⟩ rec1 (n + d) I nt p x y env X' kr' kk') := fun e1 h h' S =>
 oO (gN HC nt n d x _ _ _ _ _ _ (fun _ => dKh _) (dKh _)
  (gN HC nt n d y _ _ _ _ _ _ (fun i _ => vZ HC n d I false (fun _ => hX i env) (dKh _) e1) (fun _ => vZ HC n d I false (fun _ => hr env) (dKh _) e1)
   (fun _ => vZ HC n d I true (dKh _) (gN HC I.nt n d I.post _ _ _ _ _ _ (fun _ => dKh _) (dKh _) (gN HC I.nt n d I.step _ _ _ _ _ _ (fun _ => dKh _) (dKh _) hk)) e1)) _ h h' S)
theorem aRa (HC : ∀ g args, SimP gg (bT ⟨P, I2⟩ rec2 g args) (bT ⟨P, I1⟩ rec1 g args)) (n d : Nat) (I : ItC) (nt : Nat) (g : Operand) (p : Tmp) (x y : Code) {X X' : Nat → K} {kr kr' k k' : K} (hX : ∀ j, SimK gg (X j) (X' j)) (hr : SimK gg kr kr') (hk : SimK gg k k') :
  SimK gg (aCv ⟨P, I2⟩ rec2 n I nt g p x y X kr k) (aCv ⟨P, I1⟩ rec1 (n + d) I nt g p x y X' kr' k') := by
 intro env h h' S
 unfold aCv
 cases opr env g with
 | f gf first cap =>
  cases first with
  | cons _ _ => exact SimR.none _
  | nil =>
   refine oO ?_
   rw [S.next]
   refine gN HC I.nt n d I.pre _ _ _ _ _ _ (fun _ => dKh _) (dKh _) (qJ (fun kk kk' hkk => ?_) n d) _ _ _ (S.resv 2)
   refine gN HC I.nt n d I.test _ _ _ _ _ _ (fun j => ?_) (dKh _) (qE HC I.nt I.ops ?_ I.front)
   ·cases Nat.beq j I.b0 with
    | true => exact fun _ => hk env
    | false => exact dKh _
   ·intro e1 h1 h1' S1
    exact oO (c := ylB (e1 I.yt) h.next) (aZw HC n d I nt p x y env hX hr hkk e1 h1 h1' S1)
 | _ => exact SimR.none _
theorem bBx (HC : ∀ g args, SimP gg (bT ⟨P, I2⟩ rec2 g args) (bT ⟨P, I1⟩ rec1 g args)) (nt n d : Nat) (I : ItC) : ∀ (c : Code) (X X' : Nat → K) (kr kr' k k' : K), (∀ j, SimK gg (X j) (X' j)) → SimK gg kr kr' → SimK gg k k' →
  SimK gg (bPm ⟨P, I2⟩ rec2 nt n I c X kr k) (bPm ⟨P, I1⟩ rec1 nt (n + d) I c X' kr' k') := by
 intro c
 induction c with
 | skip => intro X X' kr kr' k k' hX hr hk; exact hk
 | region id ops dr => intro X X' kr kr' k k' hX hr hk; exact gN HC nt n d (.region id ops dr) _ _ _ _ _ _ hX hr hk
 | seq x y ihx ihy => intro X X' kr kr' k k' hX hr hk; exact ihx _ _ _ _ _ _ hX hr (ihy _ _ _ _ _ _ hX hr hk)
 | cond c x y ihx ihy =>
  intro X X' kr kr' k k' hX hr hk env h h' S
  exact aDt (ihx _ _ _ _ _ _ hX hr hk env h h' S) (ihy _ _ _ _ _ _ hX hr hk env h h' S)
 | block id x ih =>
  intro X X' kr kr' k k' hX hr hk
  refine ih _ _ _ _ _ _ (fun j => ?_) hr hk
  cases hj : Nat.beq j id with
  | true => exact hk
  | false => exact hX j
 | loop x ih =>
  intro X X' kr kr' k k' hX hr hk
  exact qJ (fun k k' hk => ih _ _ _ _ _ _ hX hr hk) n d
 | rangeFunc g ps x y ihx ihy =>
  intro X X' kr kr' k k' hX hr hk
  obtain ⟨l⟩ := ps
  match l with
  | [p] => exact aRa HC n d I nt g p x y hX hr hk
  | [] => exact dKh _
  | _ :: _ :: _ => exact dKh _
 | exit id => intro X X' kr kr' k k' hX hr hk; exact hX id
 | ret => intro X X' kr kr' k k' hX hr hk; exact hr
 | _ => intros; exact dKh _
theorem bCc (HC : ∀ g args, SimP gg (bT ⟨P, I2⟩ rec2 g args) (bT ⟨P, I1⟩ rec1 g args)) (n d : Nat) (I : ItC) (f : FuncId) (args : List DV) :
  SimP gg (nZ ⟨P, I2⟩ rec2 n I f args) (nZ ⟨P, I1⟩ rec1 (n + d) I f args) := by
 intro h h' S
 unfold nZ
 dsimp only
 cases P.funcs[f]? with
 | none => exact SimR.none _
 | some fn =>
  dsimp only
  cases fn.body with
  | none => exact SimR.none _
  | some c => exact bBx HC fn.ntmps n d I c _ _ _ _ _ _ (fun _ => dKh _) (qT fn) (qT fn) _ h h' S
end
end Go.Dd

namespace Go.Dd
noncomputable def fnR (C : Cfg) (I : ItC) (q : FuncId → Bool) (n : Nat) : FuncId → List DV → Hp → aG :=
 Nat.rec (motive := fun _ => FuncId → List DV → Hp → aG) (fun _ _ _ => none) (fun m ih f => bif q f then nZ C ih m I f else aE C ih m f) n
theorem aGc {gg : Bool} {P : Program} {I2 I1 : FuncId → Option (List DV → Hp → aG)} {I : ItC} {q : FuncId → Bool} (d : Nat) (h0 : ∀ g, I2 g = none → I1 g = none)
  (hI : ∀ g F, I2 g = some F → ∀ n args, SimP gg (F args) (bT ⟨P, I1⟩ (fnR ⟨P, I1⟩ I q (n + d)) g args)) : ∀ (n : Nat) (f : FuncId) (args : List DV), SimP gg (fnR ⟨P, I2⟩ I q n f args) (fnR ⟨P, I1⟩ I q (n + d) f args)
 | 0, f, args => fun h h' S v k e => by cases e
 | n + 1, f, args => by
  rw [show n + 1 + d = (n + d) + 1 from by omega]
  have HC : ∀ g az, SimP gg (bT ⟨P, I2⟩ (fnR ⟨P, I2⟩ I q n) g az) (bT ⟨P, I1⟩ (fnR ⟨P, I1⟩ I q (n + d)) g az) := fun g az => by
   unfold bT
   dsimp only
   cases hg : I2 g with
   | none =>
    rw [h0 g hg]
    exact aGc d h0 hI n g az
   | some F =>
    have := hI g F hg n az
    unfold bT at this
    exact this
  show SimP gg ((bif q f then nZ ⟨P, I2⟩ (fnR ⟨P, I2⟩ I q n) n I f else aE ⟨P, I2⟩ (fnR ⟨P, I2⟩ I q n) n f) args) ((bif q f then nZ ⟨P, I1⟩ (fnR ⟨P, I1⟩ I q (n + d)) (n + d) I f else aE ⟨P, I1⟩ (fnR ⟨P, I1⟩ I q (n + d)) (n + d) f) args)
  cases q f with
  | true => exact bCc HC n d I f args
  | false => exact nY HC n d f args
end Go.Dd

namespace Go.Dd
noncomputable section
def iV (w : Int) : Nat :=
 match w with
 | .ofNat w => bif Nat.beq (Nat.mod w 2) 0 && (Nat.ble 6 w && Nat.ble w 262144) then Nat.div w 2 else 0
 | .negSucc _ => 0
def cU (w : Int) : Bool :=
 match w with
 | .ofNat w => Nat.beq (Nat.mod w 2) 1 && Nat.blt w 2147483648
 | .negSucc w => Nat.beq (Nat.mod w 2) 0 && Nat.blt w 2147483648
def nJ (w : Int) : Int :=
 match w with
 | .ofNat w => .ofNat (Nat.div w 2)
 | .negSucc w => .negSucc (Nat.div w 2)
structure MemV where
 wb : Pos
 n : Nat
 fin : Nat
 made : Nat
 pb : Pos
 t : WT
 pl : WT
def mV (m : Pos) (h : Hp) : Option MemV :=
 match h.bl.get m with
 | some (.row .ex [.l wb 0 n c, .i .i64 (.ofNat fin), .i .i64 (.ofNat made), .m pb]) =>
  match h.bl.get wb, h.bl.get pb with
  | some (.big n' t), some (.mi pl) => bif Nat.beq n n' && Nat.beq n c then (bif Nat.blt n 1000000 && (Nat.ble fin n && Nat.blt made 1000000) then some ⟨wb, n, fin, made, pb, t, pl⟩ else none) else none
  | _, _ => none
 | _ => none
def bM (o : Int) (pl : WT) : Nat :=
 bif Nat.beq (iV o) 0 then 0 else match pl.get (iV o) with
  | .ofNat 0 => 0
  | _ => iV o
def dK (w : Int) (pl : WT) : Bool :=
 match w with
 | .ofNat 0 => true
 | .ofNat 2 => true
 | .ofNat 4 => true
 | w => cU w || !(Nat.beq (bM w pl) 0)
def sS (w : Int) (pl : WT) : Bool :=
 match w with
 | .ofNat 0 => true
 | w => !(Nat.beq (bM w pl) 0)
def iS (args : List DV) (h : Hp) (k : MemV → List DV → aG) : aG :=
 match args with
 | .p m 0 :: rest => match mV m h with
  | some M => k M rest
  | none => none
 | _ => none
def err (e : Nat) (h : Hp) : aG := some (.t [.i .i64 (.ofNat 0), .i .i64 (.ofNat e)], h)
def isF (args : List DV) (h : Hp) : aG := iS args h fun M r => match r with
 | [.i .i64 w] => some (.b (!(Nat.beq (bM w M.pl) 0)), h)
 | _ => none
def aEb (args : List DV) (h : Hp) : aG := iS args h fun M r => match r with
 | [.i .i64 w] => some (.b (dK w M.pl), h)
 | _ => none
def aKq (args : List DV) (h : Hp) : aG := iS args h fun M r => match r with
 | [] => some (.i .i64 (.ofNat M.n), h)
 | _ => none
def aAu (args : List DV) (h : Hp) : aG := iS args h fun M r => match r with
 | [] => some (.i .i64 (.ofNat (Nat.sub M.n M.fin)), h)
 | _ => none
def iK (M : MemV) (o : Int) (k : Nat → aG) : aG :=
 bif Nat.blt (Nat.add (bM o M.pl) 1) M.n then (match M.t.get (bM o M.pl) with
  | .ofNat hd => bif Nat.blt hd 1000000000000 then k hd else none
  | .negSucc _ => none) else none
def jL (args : List DV) (h : Hp) : aG := iS args h fun M r => match r with
 | [.i .i64 o] => iK M o fun _ => some (.i .i64 (M.t.get (Nat.add (bM o M.pl) 1)), h)
 | _ => none
def iW (args : List DV) (h : Hp) : aG := iS args h fun M r => match r with
 | [.i .i64 o] => iK M o fun hd => some (.i .i64 (.ofNat (Nat.mod hd 4)), h)
 | _ => none
def hZ (args : List DV) (h : Hp) : aG := iS args h fun M r => match r with
 | [.i .i64 o] => iK M o fun hd => some (.i .i64 (.ofNat (Nat.div hd 4)), h)
 | _ => none
def gR (M : MemV) (o i : Int) (bad : Nat → aG) (k : Nat → Nat → aG) : aG :=
 bif Nat.beq (bM o M.pl) 0 then bad 1 else match i with
  | .negSucc _ => bad 5
  | .ofNat i => iK M o fun hd => bif Nat.ble (Nat.div hd 4) i then bad 5 else
    (bif Nat.blt (Nat.add (Nat.add (bM o M.pl) 3) i) M.n then k hd (Nat.add (Nat.add (bM o M.pl) 3) i) else none)
def sZ (args : List DV) (h : Hp) : aG := iS args h fun M r => match r with
 | [.i .i64 o, .i .i64 i] => gR M o i (fun e => err e h) fun _ a => some (.t [.i .i64 (M.t.get a), .i .i64 (.ofNat 0)], h)
 | _ => none
def nB (M : MemV) (a : Nat) (w : Int) (h : Hp) : aG := some (.i .i64 (.ofNat 0), ⟨h.next, Tr.set (.big M.n (M.t.set a w)) M.wb h.bl⟩)
def wX (args : List DV) (h : Hp) : aG := iS args h fun M r => match r with
 | [.i .i64 o, .i .i64 i, .i .i64 w] => gR M o i (fun e => some (.i .i64 (.ofNat e), h)) fun hd a =>
   match Nat.mod hd 4 with
   | 0 => bif dK w M.pl then nB M a w h else some (.i .i64 (.ofNat 6), h)
   | 2 => (match w with
    | .ofNat c => bif Nat.ble c 255 then nB M a w h else some (.i .i64 (.ofNat 6), h)
    | .negSucc _ => some (.i .i64 (.ofNat 6), h))
   | _ => nB M a w h
 | _ => none
def lQ (args : List DV) (h : Hp) : aG := iS args h fun M r => match r with
 | [.i .i64 o, .i .i64 c] => bif Nat.beq (bM o M.pl) 0 || !(sS c M.pl) then some (.i .i64 (.ofNat 1), h) else
   (bif Nat.blt (Nat.add (bM o M.pl) 1) M.n then nB M (Nat.add (bM o M.pl) 1) c h else none)
 | _ => none
def lT (t : WT) (c : Nat) : Nat → WT :=
 Nat.rec (motive := fun _ => Nat → WT) (fun _ => t) (fun _ ih a => (ih (Nat.add a 1)).set a (.ofNat 0)) c
def jQ (args : List DV) (h : Hp) : aG :=
 match args with
 | [.p m 0, .i .i64 cls, .i .i64 fmt, .i .i64 cnt] => match mV m h with
  | none => none
  | some M => bif !(sS cls M.pl) then err 1 h else match fmt, cnt with
   | .ofNat f, .ofNat c => bif Nat.ble f 2 && Nat.ble c 256 then
     (bif Nat.blt (Nat.sub M.n M.fin) (Nat.add c 3) then err 4 h else
      (bif Nat.ble 3 M.fin && Nat.ble M.fin 131072 then
       some (.t [.i .i64 (.ofNat (Nat.mul M.fin 2)), .i .i64 (.ofNat 0)],
        ⟨h.next, Tr.set (.row .ex [.l M.wb 0 M.n M.n, .i .i64 (.ofNat (Nat.add M.fin (Nat.add c 3))), .i .i64 (.ofNat (Nat.succ M.made)), .m M.pb]) m
         (Tr.set (.mi (M.pl.set M.fin (.ofNat 1))) M.pb
          (Tr.set (.big M.n (lT (((M.t.set M.fin (.ofNat (Nat.add (Nat.mul c 4) f))).set (Nat.add M.fin 1) cls).set (Nat.add M.fin 2) (.ofNat (Nat.succ M.made))) c (Nat.add M.fin 3))) M.wb h.bl))⟩)
       else none))
     else err 1 h
   | _, _ => err 1 h
 | _ => none
def aOi (args : List DV) (h : Hp) : aG :=
 match args with
 | [.i .i64 (.ofNat n)] => bif Nat.blt n 16 || Nat.blt 131072 n then some (.p0, h) else
   some (.p (cH 2 h.next) 0, ⟨cH 3 h.next, Tr.set (.row .ex [.l h.next 0 n n, .i .i64 (.ofNat 3), .i .i64 (.ofNat 0), .m (cH 1 h.next)]) (cH 2 h.next)
    (Tr.set (.mi .e) (cH 1 h.next) (Tr.set (.big n .e) h.next h.bl))⟩)
 | [.i .i64 (.negSucc _)] => some (.p0, h)
 | _ => none
def eW (args : List DV) (h : Hp) : aG :=
 match args with
 | [.i .i64 w] => some (.b (cU w), h)
 | _ => none
def kH (args : List DV) (h : Hp) : aG :=
 match args with
 | [.i .i64 w] => bif cU w then some (.i .i64 (nJ w), h) else some (.i .i64 (.ofNat 0), h)
 | _ => none
def iG (args : List DV) (h : Hp) : aG :=
 match args with
 | [.i .i64 (.ofNat n)] => bif Nat.blt n 1073741824 then some (.t [.i .i64 (.ofNat (Nat.succ (Nat.mul n 2))), .b true], h) else some (.t [.i .i64 (.ofNat 0), .b false], h)
 | [.i .i64 (.negSucc n)] => bif Nat.blt n 1073741824 then some (.t [.i .i64 (.negSucc (Nat.mul n 2)), .b true], h) else some (.t [.i .i64 (.ofNat 0), .b false], h)
 | _ => none
def aAm (g : Nat) : Option (List DV → Hp → aG) :=
 bif Nat.beq g 15 then some aEb else bif Nat.beq g 30 then some isF else bif Nat.beq g 76 then some aKq else bif Nat.beq g 18 then some aAu else
 bif Nat.beq g 25 then some jQ else bif Nat.beq g 36 then some aOi else bif Nat.beq g 38 then some lQ else bif Nat.beq g 17 then some wX else
 bif Nat.beq g 80 then some jL else bif Nat.beq g 35 then some iW else bif Nat.beq g 69 then some hZ else bif Nat.beq g 29 then some eW else
 bif Nat.beq g 58 then some iG else bif Nat.beq g 74 then some kH else bif Nat.beq g 83 then some sZ else none
end
end Go.Dd

namespace Go.Dd
open Go.Proofs
def cf (f : Func) : Code := match f.body with
 | some c => c
 | none => .skip
def cL : Code → Code
 | .seq a _ => a
 | .cond _ a _ => a
 | .block _ a => a
 | .loop a => a
 | .scope a => a
 | c => c
def cR : Code → Code
 | .seq _ b => b
 | .cond _ _ b => b
 | c => c
def cC : Code → Operand
 | .cond c _ _ => c
 | _ => .const .nilFunc
def x0 : Nat → K := fun _ => dN
def xs (X : Nat → K) (i : Nat) (k : K) : Nat → K := fun j => bif Nat.beq j i then k else X j
def rK (c : Nat) : List Nat → Nat → Int
 | [], _ => .negSucc 0
 | x :: l, i => bif Nat.beq x c then .ofNat i else rK c l (i + 1)
def lI (args : List DV) (h : Hp) : aG :=
 match args with
 | [.s l, .i .u8 (.ofNat c)] => bif Nat.blt c 256 then some (.i .i64 (rK c l 0), h) else none
 | _ => none
noncomputable def CF0 : Cfg := ⟨Tryz.prog, fun _ => none⟩
noncomputable def lW (p : Pos) : Pos → Bool := Pos.rec (motive := fun _ => Pos → Bool) (fun q => Pos.rec (motive := fun _ => Bool) true (fun _ _ => false) (fun _ _ => false) q)
 (fun _ ih q => Pos.rec (motive := fun _ => Bool) false (fun q _ => ih q) (fun _ _ => false) q) (fun _ ih q => Pos.rec (motive := fun _ => Bool) false (fun _ _ => false) (fun q _ => ih q) q) p
noncomputable def kT (q : Pos) (l1 : DV) (cs : List DV) (h : Hp) : aG :=
 match l1 with
 | .l0 => some (.l h.next 0 1 1, ⟨h.next.succ, Tr.set (.row (.gr 4) cs) h.next h.bl⟩)
 | .l b o len cap => cnd (Nat.ble cap len && !(lW b q)) (match h.bl.get b, cellsAt b o (len * 4) h with
  | some (.row (.gr es) l), some old => if es = 4 ∧ o + cap * 4 = l.length ∧ (len + 1) * 56 ≤ jU then
    some (.l h.next 0 (len + 1) (len + 1), ⟨h.next.succ, Tr.set (.row (.gr 4) (old ++ cs)) h.next (Tr.set (.row .sp (bU o l)) b h.bl)⟩) else none
  | _, _ => none)
 | _ => none
noncomputable def rN (c q : Pos) (h : Hp) : aG :=
 bnd (aA (.p c 4) h) fun l1 _ =>
 bnd (cO l1 h) fun n _ =>
 bnd (aN 4 (.p q 0) h) fun x _ =>
 match x with
 | .a cs => cnd (!(lW c q)) (
  bnd (kT q l1 cs ⟨h.next.succ.succ, h.bl⟩) fun l2 h3 =>
  bnd (aI 1 (.p c 4) l2 h3) fun _ h4 => some (n, h4))
 | _ => none
noncomputable def nA (args : List DV) (h : Hp) : aG :=
 match args with
 | [.p c 0, .a lit] =>
  bnd (cF lit h) fun _ h1 =>
  bnd (aA (.p c 4) h1) fun ls h2 =>
  bnd (fnD CF0 60 188 [ls, .f 189 [] [.p h.next 0]] h2) fun i h3 =>
  bnd (aD .lss i (.i .i64 (Int.ofNat 0)) h3) fun t h4 =>
  aX t (rN c h.next h4) (some (i, h4))
 | _ => none
def tX (c : Nat) (new : List Nat) : List Nat → List Nat
 | [] => []
 | x :: l => bif Nat.beq x c then new ++ tX c new l else x :: tX c new l
def gV (args : List DV) (h : Hp) : aG :=
 match args with
 | [.s s, .s [c], .s new] => bif Nat.blt c 256 then (bif Nat.ble s.length 4000000000 then (bif Nat.ble new.length 1000 then some (.s (tX c new s), h) else none) else none) else none
 | _ => none
def eZ : Nat → Nat → List Nat → List Nat
 | 0, _, acc => acc
 | f + 1, n, acc => bif Nat.ble 10 n then eZ f (Nat.div n 10) (Nat.add 48 (Nat.mod n 10) :: acc) else Nat.add 48 n :: acc
def bS : Int → List Nat
 | .ofNat n => eZ 20 n []
 | .negSucc n => 45 :: eZ 20 (Nat.succ n) []
def gU (args : List DV) (h : Hp) : aG :=
 match args with
 | [.i .i64 n] => bif decide (-9223372036854775808 ≤ n) && decide (n ≤ 9223372036854775807) then some (.s (bS n), h) else none
 | _ => none
noncomputable def CF1 : Cfg := ⟨Tryz.prog, fun g => bif Nat.beq g 97 then some lI else bif Nat.beq g 158 then some nA else bif Nat.beq g 54 then some gV else bif Nat.beq g 50 then some gU else none⟩
noncomputable def CF : Cfg := ⟨Tryz.prog, fun g => bif Nat.beq g 97 then some lI else bif Nat.beq g 158 then some nA else bif Nat.beq g 54 then some gV else bif Nat.beq g 50 then some gU else aAm g⟩
def gK : Code → Array Oper
 | .region _ ops _ => ops
 | _ => #[]
def itm : ItC := { gf := 0, nt := 0, pre := .skip, b0 := 0, test := .skip, b1 := 1, rid := 0, front := [], y := ⟨none, .move (.const .nilFunc), 0, "", #[], none⟩, back := [], after := .skip, post := .skip, step := .skip, yd := 0, yt := 0, yx := 0 }
def rgB (g : FuncId) : Bool := false
noncomputable abbrev gH (C : Cfg) (n : Nat) : FuncId → List DV → Hp → aG := fnR C itm rgB n
theorem cA (f : FuncId) (hf : rgB f = false) (C : Cfg) (n : Nat) (args : List DV) (h : Hp) : gH C (n + 1) f args h = aE C (gH C n) n f args h := by
 show (bif rgB f then nZ C (gH C n) n itm f else aE C (gH C n) n f) args h = _
 rw [hf]
 rfl
abbrev RT := FuncId → List DV → Hp → aG
abbrev TT0 := Hp → aG
abbrev TT1 := DV → Hp → aG
abbrev uL := DV → DV → Hp → aG
abbrev mE := DV → DV → DV → Hp → aG
abbrev eY := DV → DV → DV → DV → Hp → aG
abbrev cZ := DV → DV → DV → DV → DV → Hp → aG
abbrev eU := DV → DV → DV → DV → DV → DV → Hp → aG
abbrev TT7 := DV → DV → DV → DV → DV → DV → DV → Hp → aG
abbrev TT8 := DV → DV → DV → DV → DV → DV → DV → DV → Hp → aG
abbrev TT9 := DV → DV → DV → DV → DV → DV → DV → DV → DV → Hp → aG
abbrev aOy := DV → DV → DV → DV → DV → DV → DV → DV → DV → DV → Hp → aG
abbrev cWq := DV → DV → DV → DV → DV → DV → DV → DV → DV → DV → DV → Hp → aG
abbrev dHi := DV → DV → DV → DV → DV → DV → DV → DV → DV → DV → DV → DV → Hp → aG
abbrev dIa := DV → DV → DV → DV → DV → DV → DV → DV → DV → DV → DV → DV → DV → Hp → aG
abbrev dHv := DV → DV → DV → DV → DV → DV → DV → DV → DV → DV → DV → DV → DV → DV → Hp → aG
abbrev dHr := DV → DV → DV → DV → DV → DV → DV → DV → DV → DV → DV → DV → DV → DV → DV → Hp → aG
abbrev dGs := DV → DV → DV → DV → DV → DV → DV → DV → DV → DV → DV → DV → DV → DV → DV → DV → Hp → aG
abbrev dHo := DV → DV → DV → DV → DV → DV → DV → DV → DV → DV → DV → DV → DV → DV → DV → DV → DV → Hp → aG
abbrev dGd := DV → DV → DV → DV → DV → DV → DV → DV → DV → DV → DV → DV → DV → DV → DV → DV → DV → DV → Hp → aG
abbrev dEv := DV → DV → DV → DV → DV → DV → DV → DV → DV → DV → DV → DV → DV → DV → DV → DV → DV → DV → DV → Hp → aG
abbrev dJy := DV → DV → DV → DV → DV → DV → DV → DV → DV → DV → DV → DV → DV → DV → DV → DV → DV → DV → DV → DV → Hp → aG
abbrev K0 (f : TT0) : K := fun env h => f h
abbrev K1 (f : TT1) (a0 : Nat) : K := fun env h => f (env a0) h
abbrev K2 (f : uL) (a0 a1 : Nat) : K := fun env h => f (env a0) (env a1) h
abbrev K3 (f : mE) (a0 a1 a2 : Nat) : K := fun env h => f (env a0) (env a1) (env a2) h
abbrev K4 (f : eY) (a0 a1 a2 a3 : Nat) : K := fun env h => f (env a0) (env a1) (env a2) (env a3) h
abbrev K5 (f : cZ) (a0 a1 a2 a3 a4 : Nat) : K := fun env h => f (env a0) (env a1) (env a2) (env a3) (env a4) h
abbrev K6 (f : eU) (a0 a1 a2 a3 a4 a5 : Nat) : K := fun env h => f (env a0) (env a1) (env a2) (env a3) (env a4) (env a5) h
abbrev K7 (f : TT7) (a0 a1 a2 a3 a4 a5 a6 : Nat) : K := fun env h => f (env a0) (env a1) (env a2) (env a3) (env a4) (env a5) (env a6) h
abbrev K8 (f : TT8) (a0 a1 a2 a3 a4 a5 a6 a7 : Nat) : K := fun env h => f (env a0) (env a1) (env a2) (env a3) (env a4) (env a5) (env a6) (env a7) h
abbrev K9 (f : TT9) (a0 a1 a2 a3 a4 a5 a6 a7 a8 : Nat) : K := fun env h => f (env a0) (env a1) (env a2) (env a3) (env a4) (env a5) (env a6) (env a7) (env a8) h
abbrev K10 (f : aOy) (a0 a1 a2 a3 a4 a5 a6 a7 a8 a9 : Nat) : K := fun env h => f (env a0) (env a1) (env a2) (env a3) (env a4) (env a5) (env a6) (env a7) (env a8) (env a9) h
abbrev K11 (f : cWq) (a0 a1 a2 a3 a4 a5 a6 a7 a8 a9 a10 : Nat) : K := fun env h => f (env a0) (env a1) (env a2) (env a3) (env a4) (env a5) (env a6) (env a7) (env a8) (env a9) (env a10) h
abbrev K12 (f : dHi) (a0 a1 a2 a3 a4 a5 a6 a7 a8 a9 a10 a11 : Nat) : K := fun env h => f (env a0) (env a1) (env a2) (env a3) (env a4) (env a5) (env a6) (env a7) (env a8) (env a9) (env a10) (env a11) h
abbrev K13 (f : dIa) (a0 a1 a2 a3 a4 a5 a6 a7 a8 a9 a10 a11 a12 : Nat) : K := fun env h => f (env a0) (env a1) (env a2) (env a3) (env a4) (env a5) (env a6) (env a7) (env a8) (env a9) (env a10) (env a11) (env a12) h
abbrev K14 (f : dHv) (a0 a1 a2 a3 a4 a5 a6 a7 a8 a9 a10 a11 a12 a13 : Nat) : K := fun env h => f (env a0) (env a1) (env a2) (env a3) (env a4) (env a5) (env a6) (env a7) (env a8) (env a9) (env a10) (env a11) (env a12) (env a13) h
abbrev K15 (f : dHr) (a0 a1 a2 a3 a4 a5 a6 a7 a8 a9 a10 a11 a12 a13 a14 : Nat) : K := fun env h => f (env a0) (env a1) (env a2) (env a3) (env a4) (env a5) (env a6) (env a7) (env a8) (env a9) (env a10) (env a11) (env a12) (env a13) (env a14) h
abbrev K16 (f : dGs) (a0 a1 a2 a3 a4 a5 a6 a7 a8 a9 a10 a11 a12 a13 a14 a15 : Nat) : K := fun env h => f (env a0) (env a1) (env a2) (env a3) (env a4) (env a5) (env a6) (env a7) (env a8) (env a9) (env a10) (env a11) (env a12) (env a13) (env a14) (env a15) h
abbrev K17 (f : dHo) (a0 a1 a2 a3 a4 a5 a6 a7 a8 a9 a10 a11 a12 a13 a14 a15 a16 : Nat) : K := fun env h => f (env a0) (env a1) (env a2) (env a3) (env a4) (env a5) (env a6) (env a7) (env a8) (env a9) (env a10) (env a11) (env a12) (env a13) (env a14) (env a15) (env a16) h
abbrev K18 (f : dGd) (a0 a1 a2 a3 a4 a5 a6 a7 a8 a9 a10 a11 a12 a13 a14 a15 a16 a17 : Nat) : K := fun env h => f (env a0) (env a1) (env a2) (env a3) (env a4) (env a5) (env a6) (env a7) (env a8) (env a9) (env a10) (env a11) (env a12) (env a13) (env a14) (env a15) (env a16) (env a17) h
abbrev K19 (f : dEv) (a0 a1 a2 a3 a4 a5 a6 a7 a8 a9 a10 a11 a12 a13 a14 a15 a16 a17 a18 : Nat) : K := fun env h => f (env a0) (env a1) (env a2) (env a3) (env a4) (env a5) (env a6) (env a7) (env a8) (env a9) (env a10) (env a11) (env a12) (env a13) (env a14) (env a15) (env a16) (env a17) (env a18) h
abbrev K20 (f : dJy) (a0 a1 a2 a3 a4 a5 a6 a7 a8 a9 a10 a11 a12 a13 a14 a15 a16 a17 a18 a19 : Nat) : K := fun env h => f (env a0) (env a1) (env a2) (env a3) (env a4) (env a5) (env a6) (env a7) (env a8) (env a9) (env a10) (env a11) (env a12) (env a13) (env a14) (env a15) (env a16) (env a17) (env a18) (env a19) h
theorem okG {d s : K} (m : d = s) (args : List DV) (h : Hp) {a b : aG} (e1 : a = d (aH args) h) (e2 : s (aH args) h = b) : a = b :=
 e1.trans ((congrFun (congrFun m (aH args)) h).trans e2)
abbrev aK (n : Nat) : DV := .i .i64 (Int.ofNat n)
abbrev zr6 : List DV := [(.i .i64 (Int.ofNat 0)), (.s []), (.i .i64 (Int.ofNat 0)), .l0, .l0, .l0]
abbrev aT (args : List DV) (i : Nat) : DV := args.getD i aR
end Go.Dd

namespace Go.Dd
open Go.Proofs
variable (r : RT) (n : Nat) (args : List DV) (h : Hp)
noncomputable def s3 (r : RT) (n : Nat) (x0 : DV) (h0 : Hp) : aG :=
 bnd (cB x0 h0) fun v1 h1 =>
 bnd (r 8 [] h1) fun v2 h2 =>
 bnd (pEq (.pointer 58) true v2 .p0 h2) fun v3 h3 =>
 aX v3 (
 some ((.b false), h3)) (
 bnd (aN 4 v1 h3) fun v4 h4 =>
 bnd (r 9 [v4, (.i .i64 (Int.ofNat 5)), (.i .i64 (Int.ofNat 100))] h4) fun v5 h5 =>
 bnd (aC 0 v5 h5) fun v6 h6 =>
 bnd (aC 1 v5 h6) fun v7 h7 =>
 bnd (cF [(.i .i64 (Int.ofNat 0)), (.i .i64 (Int.ofNat 0)), (.s []), .l0] h7) fun v8 h8 =>
 bnd (aI 4 v8 v6 h8) fun _ h9 =>
 bnd (aN 4 v8 h9) fun v10 h10 =>
 bnd (r 11 [v2, v10] h10) fun v11 h11 =>
 bnd (r 10 [v2, v11] h11) fun v12 h12 =>
 bnd (aN 4 v8 h12) fun v13 h13 =>
 cnd (bQ (aN 4 v8 h11) v13 && (bQ (aN 4 v8 h9) v13 && true)) (
 bnd (r 12 [v13] h13) fun v14 h14 =>
 bnd (dA .eql v12 v14 h14) fun v15 h15 =>
 bnd (gD v15 true (r 13 [] h15) h15) fun v16 h16 =>
 bnd (aQ v15 v16 (.b false) h16) fun v17 h17 =>
 some (v17, h17)))
noncomputable abbrev c3 : Code := cf Tryz.f3
noncomputable abbrev r3 : K := aS CF Tryz.f3
noncomputable def D3 (r : RT) (n : Nat) (c : Code) (X : Nat → K) (k : K) : K := aP CF r 25 n c X r3 k
theorem s3m : D3 r n c3 x0 r3 = (K1 (s3 r n) 0) :=
 (by kernel_rfl)
theorem dEj : aE CF r n 3 args h = s3 r n (aT args 0) h :=
 (by kernel_rfl : aE CF r n 3 args h = D3 r n c3 x0 r3 (aH args) h).trans ((congrFun (congrFun (s3m r n) (aH args)) h).trans (by kernel_rfl))
noncomputable def s4 (r : RT) (n : Nat) (x0 : DV) (h0 : Hp) : aG :=
 bnd (r 8 [] h0) fun v1 h1 =>
 bnd (pEq (.pointer 58) true v1 .p0 h1) fun v2 h2 =>
 aX v2 (
 some ((.b false), h2)) (
 bnd (r 10 [v1, x0] h2) fun v3 h3 =>
 bnd (dI v3 h3) fun v4 h4 =>
 bnd (aD .gtr v4 (.i .i64 (Int.ofNat 0)) h4) fun v5 h5 =>
 bnd (gD v5 true (some (v3, h5)) h5) fun v6 h6 =>
 bnd (gD v5 true (dI v6 h6) h6) fun v7 h7 =>
 bnd (gD v5 true (aD .leq v7 (.i .i64 (Int.ofNat 1000)) h7) h7) fun v8 h8 =>
 bnd (aQ v5 v8 (.b false) h8) fun v9 h9 =>
 bnd (gD v9 true (some (v3, h9)) h9) fun v10 h10 =>
 bnd (gD v9 true (dA .eql v10 (.s [63]) h10) h10) fun v11 h11 =>
 bnd (gD v9 true (some (v1, h11)) h11) fun v12 h12 =>
 bnd (gD v9 true (r 14 [v12] h12) h12) fun v13 h13 =>
 bnd (gD v9 true (some (x0, h13)) h13) fun v14 h14 =>
 bnd (gD v9 true (aEb [v13, v14] h14) h14) fun v15 h15 =>
 bnd (gD v9 true (jW .not v15 h15) h15) fun v16 h16 =>
 bnd (gD v9 true (pEq .bool true v11 v16 h16) h16) fun v17 h17 =>
 bnd (aQ v9 v17 (.b false) h17) fun v18 h18 =>
 bnd (gD v18 true (r 13 [] h18) h18) fun v19 h19 =>
 bnd (aQ v18 v19 (.b false) h19) fun v20 h20 =>
 some (v20, h20))
noncomputable abbrev c4 : Code := cf Tryz.f4
noncomputable abbrev r4 : K := aS CF Tryz.f4
noncomputable def D4 (r : RT) (n : Nat) (c : Code) (X : Nat → K) (k : K) : K := aP CF r 32 n c X r4 k
theorem s4m : D4 r n c4 x0 r4 = (K1 (s4 r n) 0) :=
 (by kernel_rfl)
theorem cZv : aE CF r n 4 args h = s4 r n (aT args 0) h :=
 (by kernel_rfl : aE CF r n 4 args h = D4 r n c4 x0 r4 (aH args) h).trans ((congrFun (congrFun (s4m r n) (aH args)) h).trans (by kernel_rfl))
noncomputable def jZ (r : RT) (n : Nat) (x5 x6 : DV) (h0 : Hp) : aG :=
 bnd (aN 4 x6 h0) fun v1 h1 =>
 bnd (r 11 [x5, v1] h1) fun v2 h2 =>
 bnd (r 10 [x5, v2] h2) fun v3 h3 =>
 bnd (aN 4 x6 h3) fun v4 h4 =>
 bnd (r 12 [v4] h4) fun v5 h5 =>
 bnd (dA .eql v3 v5 h5) fun v6 h6 =>
 bnd (gD v6 true (some (v3, h6)) h6) fun v7 h7 =>
 bnd (gD v6 true (dI v7 h7) h7) fun v8 h8 =>
 bnd (gD v6 true (aD .leq v8 (.i .i64 (Int.ofNat 1000)) h8) h8) fun v9 h9 =>
 bnd (aQ v6 v9 (.b false) h9) fun v10 h10 =>
 bnd (gD v10 true (r 13 [] h10) h10) fun v11 h11 =>
 bnd (aQ v10 v11 (.b false) h11) fun v12 h12 =>
 some (v12, h12)
noncomputable def vU (r : RT) (n : Nat) (kk9 : cZ) (x0 x1 x5 x6 x7 : DV) (h0 : Hp) : aG :=
 bnd (aD .rem x1 (.i .i64 (Int.ofNat 30)) h0) fun v1 h1 =>
 bnd (aD .lss x7 v1 h1) fun v2 h2 =>
 aX v2 (
 bnd (aB 3 x6 h2) fun v3 h3 =>
 bnd (aA v3 h3) fun v4 h4 =>
 bnd (cI [(.i .i64 (Int.ofNat 0)), (.i .i64 (Int.ofNat 0)), (.s []), .l0] [(0, 1, (.i .i64 (Int.ofNat 1))), (2, 1, x0)] h4) fun v5 h5 =>
 bnd (aJ [(.i .i64 (Int.ofNat 0)), (.i .i64 (Int.ofNat 0)), (.s []), .l0] 1 [(0, 4, v5)] h5) fun v6 h6 =>
 bnd (bB 4 56 v4 v6 h6) fun v7 h7 =>
 bnd (aB 3 x6 h7) fun v8 h8 =>
 bnd (aI 1 v8 v7 h8) fun _ h9 =>
 bnd (aD .add x7 (.i .i64 (Int.ofNat 1)) h9) fun v10 h10 =>
      kk9 x0 x1 x5 x6 v10 h10) (
      jZ r n x5 x6 h2)
noncomputable def xQ (r : RT) (n : Nat) (m : Nat) : cZ :=
 Nat.rec (motive := fun _ => cZ) (fun _ _ _ _ _ _ => none) (fun _ ih => vU r n ih) m
noncomputable def cTd (r : RT) (n : Nat) : cZ := xQ r n n
noncomputable def cFb (r : RT) (n : Nat) (x0 x1 x5 x6 x7 : DV) (h0 : Hp) : aG :=
 cTd r n x0 x1 x5 x6 x7 h0
noncomputable def bCi (r : RT) (n : Nat) (x0 x1 x5 x6 : DV) (h0 : Hp) : aG :=
 cFb r n x0 x1 x5 x6 (.i .i64 (Int.ofNat 0)) h0
noncomputable def aQl (r : RT) (n : Nat) (x0 x1 x5 : DV) (h0 : Hp) : aG :=
 bnd (cI [(.i .i64 (Int.ofNat 0)), (.i .i64 (Int.ofNat 0)), (.s []), .l0] [(0, 1, (.i .i64 (Int.ofNat 3)))] h0) fun v1 h1 =>
 bnd (cF [(.i .i64 (Int.ofNat 0)), (.i .i64 (Int.ofNat 0)), (.s []), .l0] h1) fun v2 h2 =>
 bnd (aI 4 v2 v1 h2) fun _ h3 =>
  bCi r n x0 x1 x5 v2 h3
noncomputable def bAk (r : RT) (n : Nat) (x0 x1 x5 : DV) (h0 : Hp) : aG :=
 bnd (aD .lss x1 (.i .i64 (Int.ofNat 0)) h0) fun v1 h1 =>
 aX v1 (
 bnd (aD .add x1 (.i .i64 (Int.ofNat 1)) h1) fun v2 h2 =>
 bnd (jW .neg v2 h2) fun v3 h3 =>
  aQl r n x0 v3 x5 h3) (
  aQl r n x0 x1 x5 h1)
noncomputable def bYc (r : RT) (n : Nat) (x0 x1 x5 : DV) (h0 : Hp) : aG :=
 bnd (dI x0 h0) fun v1 h1 =>
 bnd (aD .gtr v1 (.i .i64 (Int.ofNat 200)) h1) fun v2 h2 =>
 aX v2 (
 bnd (dY x0 none (some (.i .i64 (Int.ofNat 200))) h2) fun v3 h3 =>
  bAk r n v3 x1 x5 h3) (
  bAk r n x0 x1 x5 h2)
noncomputable def bZi (r : RT) (n : Nat) (x0 x1 x5 : DV) (h0 : Hp) : aG :=
 bnd (pEq (.pointer 58) true x5 .p0 h0) fun v1 h1 =>
 aX v1 (
 some ((.b false), h1)) (
  bYc r n x0 x1 x5 h1)
noncomputable def cAx (r : RT) (n : Nat) (x0 x1 : DV) (h0 : Hp) : aG :=
 bnd (r 8 [] h0) fun v1 h1 =>
  bZi r n x0 x1 v1 h1
noncomputable def s5 (r : RT) (n : Nat) (x0 x1 : DV) (h0 : Hp) : aG :=
 cAx r n x0 x1 h0
noncomputable abbrev c5 : Code := cf Tryz.f5
noncomputable abbrev cGa : Code := cR c5
noncomputable abbrev cEa : Code := cR cGa
noncomputable abbrev bXe : Code := cR cEa
noncomputable abbrev bXi : Code := cR bXe
noncomputable abbrev bYu : Code := cR bXi
noncomputable abbrev cFv : Code := cR bYu
noncomputable abbrev dIp : Code := cR cFv
noncomputable abbrev bDi : Code := cL cFv
noncomputable abbrev cPz : Code := cR bDi
noncomputable abbrev aSu : Code := cL cPz
noncomputable abbrev tT : Code := cL aSu
noncomputable abbrev cHl : Code := cL bDi
noncomputable abbrev bKw : Code := cL bYu
noncomputable abbrev cJl : Code := cL bXi
noncomputable abbrev cKh : Code := cL bXe
noncomputable abbrev cHx : Code := cL cEa
noncomputable abbrev cJt : Code := cL cGa
noncomputable abbrev cHk : Code := cL c5
noncomputable abbrev r5 : K := aS CF Tryz.f5
noncomputable def D5 (r : RT) (n : Nat) (c : Code) (X : Nat → K) (k : K) : K := aP CF r 53 n c X r5 k
theorem cWw : D5 r n dIp x0 r5 = (K2 (jZ r n) 5 6) :=
 (by kernel_rfl)
theorem cLx (kk9 : cZ) (q0 : uL) : D5 r n tT (xs x0 0 (K2 q0 5 6)) (K5 kk9 0 1 5 6 7) = fun (env : bF) (h : Hp) =>
 bnd (aD .rem (env 1) (.i .i64 (Int.ofNat 30)) h) fun v1 h1 =>
 bnd (aD .lss (env 7) v1 h1) fun v2 h2 =>
 aX v2 (
 bnd (aB 3 (env 6) h2) fun v3 h3 =>
 bnd (aA v3 h3) fun v4 h4 =>
 bnd (cI [(.i .i64 (Int.ofNat 0)), (.i .i64 (Int.ofNat 0)), (.s []), .l0] [(0, 1, (.i .i64 (Int.ofNat 1))), (2, 1, (env 0))] h4) fun v5 h5 =>
 bnd (aJ [(.i .i64 (Int.ofNat 0)), (.i .i64 (Int.ofNat 0)), (.s []), .l0] 1 [(0, 4, v5)] h5) fun v6 h6 =>
 bnd (bB 4 56 v4 v6 h6) fun v7 h7 =>
 bnd (aB 3 (env 6) h7) fun v8 h8 =>
 bnd (aI 1 v8 v7 h8) fun _ h9 =>
 bnd (aD .add (env 7) (.i .i64 (Int.ofNat 1)) h9) fun v10 h10 =>
      kk9 (env 0) (env 1) (env 5) (env 6) v10 h10) (
      q0 (env 5) (env 6) h2) := by kernel_rfl
theorem bZr (kk9 : cZ) : (fun (env : bF) (h : Hp) =>
 bnd (aD .rem (env 1) (.i .i64 (Int.ofNat 30)) h) fun v1 h1 =>
 bnd (aD .lss (env 7) v1 h1) fun v2 h2 =>
 aX v2 (
 bnd (aB 3 (env 6) h2) fun v3 h3 =>
 bnd (aA v3 h3) fun v4 h4 =>
 bnd (cI [(.i .i64 (Int.ofNat 0)), (.i .i64 (Int.ofNat 0)), (.s []), .l0] [(0, 1, (.i .i64 (Int.ofNat 1))), (2, 1, (env 0))] h4) fun v5 h5 =>
 bnd (aJ [(.i .i64 (Int.ofNat 0)), (.i .i64 (Int.ofNat 0)), (.s []), .l0] 1 [(0, 4, v5)] h5) fun v6 h6 =>
 bnd (bB 4 56 v4 v6 h6) fun v7 h7 =>
 bnd (aB 3 (env 6) h7) fun v8 h8 =>
 bnd (aI 1 v8 v7 h8) fun _ h9 =>
 bnd (aD .add (env 7) (.i .i64 (Int.ofNat 1)) h9) fun v10 h10 =>
      kk9 (env 0) (env 1) (env 5) (env 6) v10 h10) (
      jZ r n (env 5) (env 6) h2)) = (K5 (vU r n kk9) 0 1 5 6 7) := by kernel_rfl
theorem cOs (kk9 : cZ) : D5 r n tT (xs x0 0 (K2 (jZ r n) 5 6)) (K5 kk9 0 1 5 6 7) = (K5 (vU r n kk9) 0 1 5 6 7) :=
 (cLx r n kk9 (jZ r n)).trans (bZr r n kk9)
theorem cNi (m : Nat) : aO (fun kk => D5 r n tT (xs x0 0 (K2 (jZ r n) 5 6)) kk) m = (K5 (xQ r n m) 0 1 5 6 7) := by
 induction m with
 | zero => exact (by kernel_rfl : aO (fun kk => D5 r n tT (xs x0 0 (K2 (jZ r n) 5 6)) kk) 0 = (K5 (xQ r n 0) 0 1 5 6 7))
 | succ m ih =>
  refine (by kernel_rfl : aO (fun kk => D5 r n tT (xs x0 0 (K2 (jZ r n) 5 6)) kk) (m + 1) = D5 r n tT (xs x0 0 (K2 (jZ r n) 5 6)) (aO (fun kk => D5 r n tT (xs x0 0 (K2 (jZ r n) 5 6)) kk) m)).trans ?_
  rw [ih]
  exact (cOs r n (xQ r n m)).trans (by kernel_rfl)
theorem dCo : D5 r n aSu (xs x0 0 (K2 (jZ r n) 5 6)) (K2 (jZ r n) 5 6) = (K5 (cTd r n) 0 1 5 6 7) :=
 (by kernel_rfl : D5 r n aSu (xs x0 0 (K2 (jZ r n) 5 6)) (K2 (jZ r n) 5 6) = aO (fun kk => D5 r n tT (xs x0 0 (K2 (jZ r n) 5 6)) kk) n).trans ((cNi r n n).trans (by kernel_rfl))
theorem dEe : D5 r n cPz x0 (K2 (jZ r n) 5 6) = (K5 (cFb r n) 0 1 5 6 7) :=
 (by kernel_rfl : D5 r n cPz x0 (K2 (jZ r n) 5 6) = D5 r n aSu (xs x0 0 (K2 (jZ r n) 5 6)) (K2 (jZ r n) 5 6)).trans
 ((dCo r n).trans (by kernel_rfl))
theorem cUa : D5 r n cFv x0 r5 = D5 r n bDi x0 (K2 (jZ r n) 5 6) :=
 congrArg (fun k => D5 r n bDi x0 k) (cWw r n)
theorem cMn : D5 r n bDi x0 (K2 (jZ r n) 5 6) = D5 r n cHl x0 (K5 (cFb r n) 0 1 5 6 7) :=
 congrArg (fun k => D5 r n cHl x0 k) (dEe r n)
theorem cZb : D5 r n cFv x0 r5 = (K4 (bCi r n) 0 1 5 6) :=
 (cUa r n).trans
 ((cMn r n).trans
 ((by kernel_rfl)))
theorem cSa : D5 r n bYu x0 r5 = D5 r n bKw x0 (K4 (bCi r n) 0 1 5 6) :=
 congrArg (fun k => D5 r n bKw x0 k) (cZb r n)
theorem cMa (q0 : eY) : D5 r n bKw x0 (K4 q0 0 1 5 6) = fun (env : bF) (h : Hp) =>
 bnd (cI [(.i .i64 (Int.ofNat 0)), (.i .i64 (Int.ofNat 0)), (.s []), .l0] [(0, 1, (.i .i64 (Int.ofNat 3)))] h) fun v1 h1 =>
 bnd (cF [(.i .i64 (Int.ofNat 0)), (.i .i64 (Int.ofNat 0)), (.s []), .l0] h1) fun v2 h2 =>
 bnd (aI 4 v2 v1 h2) fun _ h3 =>
  q0 (env 0) (env 1) (env 5) v2 h3 := by kernel_rfl
theorem bVs : (fun (env : bF) (h : Hp) =>
 bnd (cI [(.i .i64 (Int.ofNat 0)), (.i .i64 (Int.ofNat 0)), (.s []), .l0] [(0, 1, (.i .i64 (Int.ofNat 3)))] h) fun v1 h1 =>
 bnd (cF [(.i .i64 (Int.ofNat 0)), (.i .i64 (Int.ofNat 0)), (.s []), .l0] h1) fun v2 h2 =>
 bnd (aI 4 v2 v1 h2) fun _ h3 =>
  bCi r n (env 0) (env 1) (env 5) v2 h3) = (K3 (aQl r n) 0 1 5) := by kernel_rfl
theorem cYt : D5 r n bYu x0 r5 = (K3 (aQl r n) 0 1 5) :=
 (cSa r n).trans
 ((cMa r n (bCi r n)).trans (bVs r n))
theorem cLn : D5 r n bXi x0 r5 = D5 r n cJl x0 (K3 (aQl r n) 0 1 5) :=
 congrArg (fun k => D5 r n cJl x0 k) (cYt r n)
theorem dBc : D5 r n bXi x0 r5 = (K3 (bAk r n) 0 1 5) :=
 (cLn r n).trans
 ((by kernel_rfl))
theorem cUm : D5 r n bXe x0 r5 = D5 r n cKh x0 (K3 (bAk r n) 0 1 5) :=
 congrArg (fun k => D5 r n cKh x0 k) (dBc r n)
theorem dEk : D5 r n bXe x0 r5 = (K3 (bYc r n) 0 1 5) :=
 (cUm r n).trans
 ((by kernel_rfl))
theorem cTn : D5 r n cEa x0 r5 = D5 r n cHx x0 (K3 (bYc r n) 0 1 5) :=
 congrArg (fun k => D5 r n cHx x0 k) (dEk r n)
theorem dAd : D5 r n cEa x0 r5 = (K3 (bZi r n) 0 1 5) :=
 (cTn r n).trans
 ((by kernel_rfl))
theorem cPq : D5 r n cGa x0 r5 = D5 r n cJt x0 (K3 (bZi r n) 0 1 5) :=
 congrArg (fun k => D5 r n cJt x0 k) (dAd r n)
theorem dBx : D5 r n cGa x0 r5 = (K2 (cAx r n) 0 1) :=
 (cPq r n).trans
 ((by kernel_rfl))
theorem dCq : D5 r n c5 x0 r5 = D5 r n cHk x0 (K2 (cAx r n) 0 1) :=
 congrArg (fun k => D5 r n cHk x0 k) (dBx r n)
theorem s5m : D5 r n c5 x0 r5 = (K2 (s5 r n) 0 1) :=
 (dCq r n).trans
 ((by kernel_rfl))
theorem cYr : aE CF r n 5 args h = s5 r n (aT args 0) (aT args 1) h :=
 (by kernel_rfl : aE CF r n 5 args h = D5 r n c5 x0 r5 (aH args) h).trans ((congrFun (congrFun (s5m r n) (aH args)) h).trans (by kernel_rfl))
noncomputable def mS (r : RT) (n : Nat) (x3 x4 : DV) (h0 : Hp) : aG :=
 bnd (r 14 [x3] h0) fun v1 h1 =>
 bnd (aAu [v1] h1) fun v2 h2 =>
 bnd (aF 1 x4 (.i .i64 (Int.ofNat 0)) h2) fun v3 h3 =>
 bnd (aA v3 h3) fun v4 h4 =>
 bnd (r 10 [x3, v4] h4) fun v5 h5 =>
 bnd (dA .eql v5 (.s [40, 49, 32, 40, 49, 32, 40, 49, 32, 40, 46, 46, 41, 41, 41, 41]) h5) fun v6 h6 =>
 bnd (gD v6 true (some (x3, h6)) h6) fun v7 h7 =>
 bnd (gD v6 true (r 14 [v7] h7) h7) fun v8 h8 =>
 bnd (gD v6 true (aAu [v8] h8) h8) fun v9 h9 =>
 bnd (gD v6 true (some (v2, h9)) h9) fun v10 h10 =>
 bnd (gD v6 true (aD .eql v9 v10 h10) h10) fun v11 h11 =>
 bnd (aQ v6 v11 (.b false) h11) fun v12 h12 =>
 bnd (gD v12 true (r 13 [] h12) h12) fun v13 h13 =>
 bnd (aQ v12 v13 (.b false) h13) fun v14 h14 =>
 some (v14, h14)
noncomputable def bQr (r : RT) (n : Nat) (kk10 : eY) (x0 x3 x4 x8 : DV) (h0 : Hp) : aG :=
 bnd (aD .lss x8 x0 h0) fun v1 h1 =>
 aX v1 (
 bnd (r 14 [x3] h1) fun v2 h2 =>
 bnd (aF 1 x4 x8 h2) fun v3 h3 =>
 bnd (aA v3 h3) fun v4 h4 =>
 cnd (bQ (aA v3 h1) v4 && true) (
 bnd (aD .add x8 (.i .i64 (Int.ofNat 1)) h4) fun v5 h5 =>
 bnd (aD .rem v5 x0 h5) fun v6 h6 =>
 bnd (aF 1 x4 v6 h6) fun v7 h7 =>
 bnd (aA v7 h7) fun v8 h8 =>
 cnd (bQ (aA v7 h1) v8 && true) (
 bnd (wX [v2, v4, (.i .i64 (Int.ofNat 1)), v8] h8) fun v9 h9 =>
 bnd (aD .add x8 (.i .i64 (Int.ofNat 1)) h9) fun v10 h10 =>
      kk10 x0 x3 x4 v10 h10))) (
      mS r n x3 x4 h1)
noncomputable def aGe (r : RT) (n : Nat) (m : Nat) : eY :=
 Nat.rec (motive := fun _ => eY) (fun _ _ _ _ _ => none) (fun _ ih => bQr r n ih) m
noncomputable def cHv (r : RT) (n : Nat) : eY := aGe r n n
noncomputable def cVq (r : RT) (n : Nat) (x0 x3 x4 x8 : DV) (h0 : Hp) : aG :=
 cHv r n x0 x3 x4 x8 h0
noncomputable def lC (r : RT) (n : Nat) (x0 x3 x4 : DV) (h0 : Hp) : aG :=
 cVq r n x0 x3 x4 (.i .i64 (Int.ofNat 0)) h0
noncomputable def aOs (r : RT) (n : Nat) (kk12 : eY) (x0 x3 x4 x5 : DV) (h0 : Hp) : aG :=
 bnd (aD .lss x5 x0 h0) fun v1 h1 =>
 aX v1 (
 bnd (aJ [(.i .i64 (Int.ofNat 0)), (.i .i64 (Int.ofNat 0))] 2 [(0, 1, (.i .i64 (Int.ofNat 3))), (1, 1, (.i .i64 (Int.ofNat 0)))] h1) fun v2 h2 =>
 bnd (r 16 [x3, v2] h2) fun v3 h3 =>
 bnd (aC 0 v3 h3) fun v4 h4 =>
 bnd (aC 1 v3 h4) fun v5 h5 =>
 bnd (aD .neq v5 (.i .i64 (Int.ofNat 0)) h5) fun v6 h6 =>
 aX v6 (
 some ((.b false), h6)) (
 bnd (aJ [(.i .i64 (Int.ofNat 0))] 1 [(0, 1, v4)] h6) fun v7 h7 =>
 bnd (bB 1 8 x4 v7 h7) fun v8 h8 =>
 bnd (aD .add x5 (.i .i64 (Int.ofNat 1)) h8) fun v9 h9 =>
    kk12 x0 x3 v8 v9 h9)) (
      lC r n x0 x3 x4 h1)
noncomputable def aDq (r : RT) (n : Nat) (m : Nat) : eY :=
 Nat.rec (motive := fun _ => eY) (fun _ _ _ _ _ => none) (fun _ ih => aOs r n ih) m
noncomputable def cKd (r : RT) (n : Nat) : eY := aDq r n n
noncomputable def bNf (r : RT) (n : Nat) (x0 x3 x4 x5 : DV) (h0 : Hp) : aG :=
 cKd r n x0 x3 x4 x5 h0
noncomputable def cQr (r : RT) (n : Nat) (x0 x3 x4 : DV) (h0 : Hp) : aG :=
 bNf r n x0 x3 x4 (.i .i64 (Int.ofNat 0)) h0
noncomputable def bRg (r : RT) (n : Nat) (x0 x3 : DV) (h0 : Hp) : aG :=
 cQr r n x0 x3 .l0 h0
noncomputable def bBs (r : RT) (n : Nat) (x0 x3 : DV) (h0 : Hp) : aG :=
 bnd (aD .rem x0 (.i .i64 (Int.ofNat 10)) h0) fun v1 h1 =>
 bnd (aD .add (.i .i64 (Int.ofNat 1)) v1 h1) fun v2 h2 =>
  bRg r n v2 x3 h2
noncomputable def cEp (r : RT) (n : Nat) (x0 x3 : DV) (h0 : Hp) : aG :=
 bnd (aD .lss x0 (.i .i64 (Int.ofNat 0)) h0) fun v1 h1 =>
 aX v1 (
 bnd (aD .add x0 (.i .i64 (Int.ofNat 1)) h1) fun v2 h2 =>
 bnd (jW .neg v2 h2) fun v3 h3 =>
  bBs r n v3 x3 h3) (
  bBs r n x0 x3 h1)
noncomputable def bZs (r : RT) (n : Nat) (x0 x3 : DV) (h0 : Hp) : aG :=
 bnd (pEq (.pointer 58) true x3 .p0 h0) fun v1 h1 =>
 aX v1 (
 some ((.b false), h1)) (
  cEp r n x0 x3 h1)
noncomputable def cCp (r : RT) (n : Nat) (x0 : DV) (h0 : Hp) : aG :=
 bnd (r 8 [] h0) fun v1 h1 =>
  bZs r n x0 v1 h1
noncomputable def s6 (r : RT) (n : Nat) (x0 : DV) (h0 : Hp) : aG :=
 cCp r n x0 h0
noncomputable abbrev c6 : Code := cf Tryz.f6
noncomputable abbrev cDp : Code := cR c6
noncomputable abbrev bYr : Code := cR cDp
noncomputable abbrev bUw : Code := cR bYr
noncomputable abbrev bUo : Code := cR bUw
noncomputable abbrev bVh : Code := cR bUo
noncomputable abbrev bWh : Code := cR bVh
noncomputable abbrev cHf : Code := cR bWh
noncomputable abbrev dGh : Code := cR cHf
noncomputable abbrev bHi : Code := cL cHf
noncomputable abbrev bSo : Code := cR bHi
noncomputable abbrev aYn : Code := cL bSo
noncomputable abbrev vV : Code := cL aYn
noncomputable abbrev cIz : Code := cL bHi
noncomputable abbrev aLd : Code := cL bWh
noncomputable abbrev bLj : Code := cR aLd
noncomputable abbrev aRo : Code := cL bLj
noncomputable abbrev tL : Code := cL aRo
noncomputable abbrev cJh : Code := cL aLd
noncomputable abbrev cKc : Code := cL bVh
noncomputable abbrev cHm : Code := cL bUo
noncomputable abbrev cKe : Code := cL bUw
noncomputable abbrev cKa : Code := cL bYr
noncomputable abbrev cJa : Code := cL cDp
noncomputable abbrev cJj : Code := cL c6
noncomputable abbrev r6 : K := aS CF Tryz.f6
noncomputable def D6 (r : RT) (n : Nat) (c : Code) (X : Nat → K) (k : K) : K := aP CF r 76 n c X r6 k
theorem cWv : D6 r n dGh x0 r6 = (K2 (mS r n) 3 4) :=
 (by kernel_rfl)
theorem bVb (kk10 : eY) : D6 r n vV (xs x0 2 (K2 (mS r n) 3 4)) (K4 kk10 0 3 4 8) = (K4 (bQr r n kk10) 0 3 4 8) :=
 (by kernel_rfl)
theorem cAd (m : Nat) : aO (fun kk => D6 r n vV (xs x0 2 (K2 (mS r n) 3 4)) kk) m = (K4 (aGe r n m) 0 3 4 8) := by
 induction m with
 | zero => exact (by kernel_rfl : aO (fun kk => D6 r n vV (xs x0 2 (K2 (mS r n) 3 4)) kk) 0 = (K4 (aGe r n 0) 0 3 4 8))
 | succ m ih =>
  refine (by kernel_rfl : aO (fun kk => D6 r n vV (xs x0 2 (K2 (mS r n) 3 4)) kk) (m + 1) = D6 r n vV (xs x0 2 (K2 (mS r n) 3 4)) (aO (fun kk => D6 r n vV (xs x0 2 (K2 (mS r n) 3 4)) kk) m)).trans ?_
  rw [ih]
  exact (bVb r n (aGe r n m)).trans (by kernel_rfl)
theorem cNw : D6 r n aYn (xs x0 2 (K2 (mS r n) 3 4)) (K2 (mS r n) 3 4) = (K4 (cHv r n) 0 3 4 8) :=
 (by kernel_rfl : D6 r n aYn (xs x0 2 (K2 (mS r n) 3 4)) (K2 (mS r n) 3 4) = aO (fun kk => D6 r n vV (xs x0 2 (K2 (mS r n) 3 4)) kk) n).trans ((cAd r n n).trans (by kernel_rfl))
theorem dDe : D6 r n bSo x0 (K2 (mS r n) 3 4) = (K4 (cVq r n) 0 3 4 8) :=
 (by kernel_rfl : D6 r n bSo x0 (K2 (mS r n) 3 4) = D6 r n aYn (xs x0 2 (K2 (mS r n) 3 4)) (K2 (mS r n) 3 4)).trans
 ((cNw r n).trans (by kernel_rfl))
theorem cLe : D6 r n cHf x0 r6 = D6 r n bHi x0 (K2 (mS r n) 3 4) :=
 congrArg (fun k => D6 r n bHi x0 k) (cWv r n)
theorem cQp : D6 r n bHi x0 (K2 (mS r n) 3 4) = D6 r n cIz x0 (K4 (cVq r n) 0 3 4 8) :=
 congrArg (fun k => D6 r n cIz x0 k) (dDe r n)
theorem dAe : D6 r n cHf x0 r6 = (K3 (lC r n) 0 3 4) :=
 (cLe r n).trans
 ((cQp r n).trans
 ((by kernel_rfl)))
theorem cEe (kk12 : eY) (q0 : mE) : D6 r n tL (xs x0 0 (K3 q0 0 3 4)) (K4 kk12 0 3 4 5) = fun (env : bF) (h : Hp) =>
 bnd (aD .lss (env 5) (env 0) h) fun v1 h1 =>
 aX v1 (
 bnd (aJ [(.i .i64 (Int.ofNat 0)), (.i .i64 (Int.ofNat 0))] 2 [(0, 1, (.i .i64 (Int.ofNat 3))), (1, 1, (.i .i64 (Int.ofNat 0)))] h1) fun v2 h2 =>
 bnd (r 16 [(env 3), v2] h2) fun v3 h3 =>
 bnd (aC 0 v3 h3) fun v4 h4 =>
 bnd (aC 1 v3 h4) fun v5 h5 =>
 bnd (aD .neq v5 (.i .i64 (Int.ofNat 0)) h5) fun v6 h6 =>
 aX v6 (
 some ((.b false), h6)) (
 bnd (aJ [(.i .i64 (Int.ofNat 0))] 1 [(0, 1, v4)] h6) fun v7 h7 =>
 bnd (bB 1 8 (env 4) v7 h7) fun v8 h8 =>
 bnd (aD .add (env 5) (.i .i64 (Int.ofNat 1)) h8) fun v9 h9 =>
    kk12 (env 0) (env 3) v8 v9 h9)) (
      q0 (env 0) (env 3) (env 4) h1) := by kernel_rfl
theorem bNj (kk12 : eY) : (fun (env : bF) (h : Hp) =>
 bnd (aD .lss (env 5) (env 0) h) fun v1 h1 =>
 aX v1 (
 bnd (aJ [(.i .i64 (Int.ofNat 0)), (.i .i64 (Int.ofNat 0))] 2 [(0, 1, (.i .i64 (Int.ofNat 3))), (1, 1, (.i .i64 (Int.ofNat 0)))] h1) fun v2 h2 =>
 bnd (r 16 [(env 3), v2] h2) fun v3 h3 =>
 bnd (aC 0 v3 h3) fun v4 h4 =>
 bnd (aC 1 v3 h4) fun v5 h5 =>
 bnd (aD .neq v5 (.i .i64 (Int.ofNat 0)) h5) fun v6 h6 =>
 aX v6 (
 some ((.b false), h6)) (
 bnd (aJ [(.i .i64 (Int.ofNat 0))] 1 [(0, 1, v4)] h6) fun v7 h7 =>
 bnd (bB 1 8 (env 4) v7 h7) fun v8 h8 =>
 bnd (aD .add (env 5) (.i .i64 (Int.ofNat 1)) h8) fun v9 h9 =>
    kk12 (env 0) (env 3) v8 v9 h9)) (
      lC r n (env 0) (env 3) (env 4) h1)) = (K4 (aOs r n kk12) 0 3 4 5) := by kernel_rfl
theorem cDr (kk12 : eY) : D6 r n tL (xs x0 0 (K3 (lC r n) 0 3 4)) (K4 kk12 0 3 4 5) = (K4 (aOs r n kk12) 0 3 4 5) :=
 (cEe r n kk12 (lC r n)).trans (bNj r n kk12)
theorem cEz (m : Nat) : aO (fun kk => D6 r n tL (xs x0 0 (K3 (lC r n) 0 3 4)) kk) m = (K4 (aDq r n m) 0 3 4 5) := by
 induction m with
 | zero => exact (by kernel_rfl : aO (fun kk => D6 r n tL (xs x0 0 (K3 (lC r n) 0 3 4)) kk) 0 = (K4 (aDq r n 0) 0 3 4 5))
 | succ m ih =>
  refine (by kernel_rfl : aO (fun kk => D6 r n tL (xs x0 0 (K3 (lC r n) 0 3 4)) kk) (m + 1) = D6 r n tL (xs x0 0 (K3 (lC r n) 0 3 4)) (aO (fun kk => D6 r n tL (xs x0 0 (K3 (lC r n) 0 3 4)) kk) m)).trans ?_
  rw [ih]
  exact (cDr r n (aDq r n m)).trans (by kernel_rfl)
theorem cSn : D6 r n aRo (xs x0 0 (K3 (lC r n) 0 3 4)) (K3 (lC r n) 0 3 4) = (K4 (cKd r n) 0 3 4 5) :=
 (by kernel_rfl : D6 r n aRo (xs x0 0 (K3 (lC r n) 0 3 4)) (K3 (lC r n) 0 3 4) = aO (fun kk => D6 r n tL (xs x0 0 (K3 (lC r n) 0 3 4)) kk) n).trans ((cEz r n n).trans (by kernel_rfl))
theorem cUy : D6 r n bLj x0 (K3 (lC r n) 0 3 4) = (K4 (bNf r n) 0 3 4 5) :=
 (by kernel_rfl : D6 r n bLj x0 (K3 (lC r n) 0 3 4) = D6 r n aRo (xs x0 0 (K3 (lC r n) 0 3 4)) (K3 (lC r n) 0 3 4)).trans
 ((cSn r n).trans (by kernel_rfl))
theorem cSk : D6 r n bWh x0 r6 = D6 r n aLd x0 (K3 (lC r n) 0 3 4) :=
 congrArg (fun k => D6 r n aLd x0 k) (dAe r n)
theorem cOn : D6 r n aLd x0 (K3 (lC r n) 0 3 4) = D6 r n cJh x0 (K4 (bNf r n) 0 3 4 5) :=
 congrArg (fun k => D6 r n cJh x0 k) (cUy r n)
theorem dEi : D6 r n bWh x0 r6 = (K3 (cQr r n) 0 3 4) :=
 (cSk r n).trans
 ((cOn r n).trans
 ((by kernel_rfl)))
theorem cUv : D6 r n bVh x0 r6 = D6 r n cKc x0 (K3 (cQr r n) 0 3 4) :=
 congrArg (fun k => D6 r n cKc x0 k) (dEi r n)
theorem dAh : D6 r n bVh x0 r6 = (K2 (bRg r n) 0 3) :=
 (cUv r n).trans
 ((by kernel_rfl))
theorem cUt : D6 r n bUo x0 r6 = D6 r n cHm x0 (K2 (bRg r n) 0 3) :=
 congrArg (fun k => D6 r n cHm x0 k) (dAh r n)
theorem dCm : D6 r n bUo x0 r6 = (K2 (bBs r n) 0 3) :=
 (cUt r n).trans
 ((by kernel_rfl))
theorem cLa : D6 r n bUw x0 r6 = D6 r n cKe x0 (K2 (bBs r n) 0 3) :=
 congrArg (fun k => D6 r n cKe x0 k) (dCm r n)
theorem cYb : D6 r n bUw x0 r6 = (K2 (cEp r n) 0 3) :=
 (cLa r n).trans
 ((by kernel_rfl))
theorem cRw : D6 r n bYr x0 r6 = D6 r n cKa x0 (K2 (cEp r n) 0 3) :=
 congrArg (fun k => D6 r n cKa x0 k) (cYb r n)
theorem cWs : D6 r n bYr x0 r6 = (K2 (bZs r n) 0 3) :=
 (cRw r n).trans
 ((by kernel_rfl))
theorem cGr : D6 r n cDp x0 r6 = D6 r n cJa x0 (K2 (bZs r n) 0 3) :=
 congrArg (fun k => D6 r n cJa x0 k) (cWs r n)
theorem dCc : D6 r n cDp x0 r6 = (K1 (cCp r n) 0) :=
 (cGr r n).trans
 ((by kernel_rfl))
theorem cZx : D6 r n c6 x0 r6 = D6 r n cJj x0 (K1 (cCp r n) 0) :=
 congrArg (fun k => D6 r n cJj x0 k) (dCc r n)
theorem s6m : D6 r n c6 x0 r6 = (K1 (s6 r n) 0) :=
 (cZx r n).trans
 ((by kernel_rfl))
theorem cWr : aE CF r n 6 args h = s6 r n (aT args 0) h :=
 (by kernel_rfl : aE CF r n 6 args h = D6 r n c6 x0 r6 (aH args) h).trans ((congrFun (congrFun (s6m r n) (aH args)) h).trans (by kernel_rfl))
noncomputable def eA (r : RT) (n : Nat) (x3 x4 x5 : DV) (h0 : Hp) : aG :=
 bnd (r 16 [x3, x5] h0) fun v1 h1 =>
 bnd (aC 0 v1 h1) fun v2 h2 =>
 bnd (aC 1 v1 h2) fun v3 h3 =>
 bnd (aD .neq v3 (.i .i64 (Int.ofNat 0)) h3) fun v4 h4 =>
 bnd (gD v4 false (some (x4, h4)) h4) fun v5 h5 =>
 bnd (gD v4 false (dI v5 h5) h5) fun v6 h6 =>
 bnd (gD v4 false (aD .gtr v6 (.i .i64 (Int.ofNat 990)) h6) h6) fun v7 h7 =>
 bnd (aQ v4 (.b true) v7 h7) fun v8 h8 =>
 aX v8 (
 bnd (aD .eql v3 (.i .i64 (Int.ofNat 0)) h8) fun v9 h9 =>
 bnd (gD v9 true (r 13 [] h9) h9) fun v10 h10 =>
 bnd (aQ v9 v10 (.b false) h10) fun v11 h11 =>
 some (v11, h11)) (
 bnd (r 10 [x3, v2] h8) fun v12 h12 =>
 bnd (dA .add x4 (.s [41]) h12) fun v13 h13 =>
 bnd (dA .eql v12 v13 h13) fun v14 h14 =>
 bnd (gD v14 true (r 13 [] h14) h14) fun v15 h15 =>
 bnd (aQ v14 v15 (.b false) h15) fun v16 h16 =>
 some (v16, h16))
noncomputable def eO (r : RT) (n : Nat) (kk8 : cZ) (x0 x3 x4 x5 x6 : DV) (h0 : Hp) : aG :=
 bnd (aD .add x6 (.i .i64 (Int.ofNat 1)) h0) fun v1 h1 =>
  kk8 x0 x3 x4 x5 v1 h1
noncomputable def aBj (r : RT) (n : Nat) (kk8 : cZ) (x0 x3 x4 x5 x6 x9 : DV) (h0 : Hp) : aG :=
 bnd (r 10 [x3, x9] h0) fun v1 h1 =>
 bnd (dA .add x4 v1 h1) fun v2 h2 =>
 bnd (aJ [(.i .i64 (Int.ofNat 0))] 1 [(0, 1, x9)] h2) fun v3 h3 =>
 bnd (bB 1 8 x5 v3 h3) fun v4 h4 =>
  eO r n kk8 x0 x3 v2 v4 x6 h4
noncomputable def aWn (r : RT) (n : Nat) (kk8 : cZ) (x0 x3 x4 x5 x6 x9 : DV) (h0 : Hp) : aG :=
 bnd (aD .gtr x6 (.i .i64 (Int.ofNat 0)) h0) fun v1 h1 =>
 aX v1 (
 bnd (dA .add x4 (.s [32]) h1) fun v2 h2 =>
  aBj r n kk8 x0 x3 v2 x5 x6 x9 h2) (
  aBj r n kk8 x0 x3 x4 x5 x6 x9 h1)
noncomputable def aBa (r : RT) (n : Nat) (kk8 : cZ) (x0 x3 x4 x5 x6 x7 : DV) (h0 : Hp) : aG :=
 bnd (aN 4 x7 h0) fun v1 h1 =>
 bnd (r 11 [x3, v1] h1) fun v2 h2 =>
  aWn r n kk8 x0 x3 x4 x5 x6 v2 h2
noncomputable def bKy (r : RT) (n : Nat) (kk8 : cZ) (x0 x3 x4 x5 x6 : DV) (h0 : Hp) : aG :=
 bnd (aF 4 x0 x6 h0) fun v1 h1 =>
 bnd (aN 4 v1 h1) fun v2 h2 =>
 bnd (r 9 [v2, (.i .i64 (Int.ofNat 0)), (.i .i64 (Int.ofNat 10))] h2) fun v3 h3 =>
 bnd (aC 0 v3 h3) fun v4 h4 =>
 bnd (aC 1 v3 h4) fun v5 h5 =>
 bnd (cF [(.i .i64 (Int.ofNat 0)), (.i .i64 (Int.ofNat 0)), (.s []), .l0] h5) fun v6 h6 =>
 bnd (aI 4 v6 v4 h6) fun _ h7 =>
  aBa r n kk8 x0 x3 x4 x5 x6 v6 h7
noncomputable def aCc (r : RT) (n : Nat) (kk8 : cZ) (x0 x3 x4 x5 x6 : DV) (h0 : Hp) : aG :=
 bnd (cO x0 h0) fun v1 h1 =>
 bnd (aD .lss x6 v1 h1) fun v2 h2 =>
 bnd (gD v2 true (some (x6, h2)) h2) fun v3 h3 =>
 bnd (gD v2 true (aD .lss v3 (.i .i64 (Int.ofNat 10)) h3) h3) fun v4 h4 =>
 bnd (aQ v2 v4 (.b false) h4) fun v5 h5 =>
 aX v5 (
   bKy r n kk8 x0 x3 x4 x5 x6 h5) (
   eA r n x3 x4 x5 h5)
noncomputable def tK (r : RT) (n : Nat) (m : Nat) : cZ :=
 Nat.rec (motive := fun _ => cZ) (fun _ _ _ _ _ _ => none) (fun _ ih => aCc r n ih) m
noncomputable def cUz (r : RT) (n : Nat) : cZ := tK r n n
noncomputable def cFi (r : RT) (n : Nat) (x0 x3 x4 x5 x6 : DV) (h0 : Hp) : aG :=
 cUz r n x0 x3 x4 x5 x6 h0
noncomputable def bTs (r : RT) (n : Nat) (x0 x3 x4 x5 : DV) (h0 : Hp) : aG :=
 cFi r n x0 x3 x4 x5 (.i .i64 (Int.ofNat 0)) h0
noncomputable def bXn (r : RT) (n : Nat) (x0 x3 x4 : DV) (h0 : Hp) : aG :=
 bTs r n x0 x3 x4 .l0 h0
noncomputable def bXf (r : RT) (n : Nat) (x0 x3 : DV) (h0 : Hp) : aG :=
 bXn r n x0 x3 (.s [40]) h0
noncomputable def bXh (r : RT) (n : Nat) (x0 x3 : DV) (h0 : Hp) : aG :=
 bnd (pEq (.pointer 58) true x3 .p0 h0) fun v1 h1 =>
 aX v1 (
 some ((.b false), h1)) (
  bXf r n x0 x3 h1)
noncomputable def cDl (r : RT) (n : Nat) (x0 : DV) (h0 : Hp) : aG :=
 bnd (r 8 [] h0) fun v1 h1 =>
  bXh r n x0 v1 h1
noncomputable def s7 (r : RT) (n : Nat) (x0 : DV) (h0 : Hp) : aG :=
 cDl r n x0 h0
noncomputable abbrev c7 : Code := cf Tryz.f7
noncomputable abbrev cBx : Code := cR c7
noncomputable abbrev bXd : Code := cR cBx
noncomputable abbrev bZc : Code := cR bXd
noncomputable abbrev bTx : Code := cR bZc
noncomputable abbrev bWw : Code := cR bTx
noncomputable abbrev dHl : Code := cR bWw
noncomputable abbrev bMs : Code := cL bWw
noncomputable abbrev cWg : Code := cR bMs
noncomputable abbrev cCi : Code := cL cWg
noncomputable abbrev oX : Code := cL cCi
noncomputable abbrev aWd : Code := cR oX
noncomputable abbrev dAm : Code := cR aWd
noncomputable abbrev aVb : Code := cL aWd
noncomputable abbrev aYe : Code := cL aVb
noncomputable abbrev aXr : Code := cR aYe
noncomputable abbrev aRv : Code := cR aXr
noncomputable abbrev cIp : Code := cR aRv
noncomputable abbrev cIv : Code := cL aRv
noncomputable abbrev cIq : Code := cL aXr
noncomputable abbrev bSm : Code := cL aYe
noncomputable abbrev cIj : Code := cL oX
noncomputable abbrev cKj : Code := cL bMs
noncomputable abbrev cKl : Code := cL bTx
noncomputable abbrev cIu : Code := cL bZc
noncomputable abbrev cIw : Code := cL bXd
noncomputable abbrev cJg : Code := cL cBx
noncomputable abbrev cKp : Code := cL c7
noncomputable abbrev r7 : K := aS CF Tryz.f7
noncomputable def D7 (r : RT) (n : Nat) (c : Code) (X : Nat → K) (k : K) : K := aP CF r 76 n c X r7 k
theorem dEb : D7 r n dHl x0 r7 = (K3 (eA r n) 3 4 5) :=
 (by kernel_rfl)
theorem cVt (kk8 : cZ) : D7 r n dAm (xs x0 0 (K3 (eA r n) 3 4 5)) (K5 kk8 0 3 4 5 6) = (K5 (eO r n kk8) 0 3 4 5 6) :=
 (by kernel_rfl)
theorem cDk (kk8 : cZ) (q0 : cZ) (q1 : mE) : D7 r n cIp (xs (xs x0 0 (K3 q1 3 4 5)) 1 (K5 q0 0 3 4 5 6)) (K5 q0 0 3 4 5 6) = fun (env : bF) (h : Hp) =>
 bnd (r 10 [(env 3), (env 9)] h) fun v1 h1 =>
 bnd (dA .add (env 4) v1 h1) fun v2 h2 =>
 bnd (aJ [(.i .i64 (Int.ofNat 0))] 1 [(0, 1, (env 9))] h2) fun v3 h3 =>
 bnd (bB 1 8 (env 5) v3 h3) fun v4 h4 =>
  q0 (env 0) (env 3) v2 v4 (env 6) h4 := by kernel_rfl
theorem bIw (kk8 : cZ) : (fun (env : bF) (h : Hp) =>
 bnd (r 10 [(env 3), (env 9)] h) fun v1 h1 =>
 bnd (dA .add (env 4) v1 h1) fun v2 h2 =>
 bnd (aJ [(.i .i64 (Int.ofNat 0))] 1 [(0, 1, (env 9))] h2) fun v3 h3 =>
 bnd (bB 1 8 (env 5) v3 h3) fun v4 h4 =>
  eO r n kk8 (env 0) (env 3) v2 v4 (env 6) h4) = (K6 (aBj r n kk8) 0 3 4 5 6 9) := by kernel_rfl
theorem cNx (kk8 : cZ) : D7 r n cIp (xs (xs x0 0 (K3 (eA r n) 3 4 5)) 1 (K5 (eO r n kk8) 0 3 4 5 6)) (K5 (eO r n kk8) 0 3 4 5 6) = (K6 (aBj r n kk8) 0 3 4 5 6 9) :=
 (cDk r n kk8 (eO r n kk8) (eA r n)).trans (bIw r n kk8)
theorem cGz (kk8 : cZ) : D7 r n aRv (xs (xs x0 0 (K3 (eA r n) 3 4 5)) 1 (K5 (eO r n kk8) 0 3 4 5 6)) (K5 (eO r n kk8) 0 3 4 5 6) = D7 r n cIv (xs (xs x0 0 (K3 (eA r n) 3 4 5)) 1 (K5 (eO r n kk8) 0 3 4 5 6)) (K6 (aBj r n kk8) 0 3 4 5 6 9) :=
 congrArg (fun k => D7 r n cIv (xs (xs x0 0 (K3 (eA r n) 3 4 5)) 1 (K5 (eO r n kk8) 0 3 4 5 6)) k) (cNx r n kk8)
theorem cOz (kk8 : cZ) : D7 r n aRv (xs (xs x0 0 (K3 (eA r n) 3 4 5)) 1 (K5 (eO r n kk8) 0 3 4 5 6)) (K5 (eO r n kk8) 0 3 4 5 6) = (K6 (aWn r n kk8) 0 3 4 5 6 9) :=
 (cGz r n kk8).trans
 ((by kernel_rfl))
theorem cBt (kk8 : cZ) : D7 r n aXr (xs (xs x0 0 (K3 (eA r n) 3 4 5)) 1 (K5 (eO r n kk8) 0 3 4 5 6)) (K5 (eO r n kk8) 0 3 4 5 6) = D7 r n cIq (xs (xs x0 0 (K3 (eA r n) 3 4 5)) 1 (K5 (eO r n kk8) 0 3 4 5 6)) (K6 (aWn r n kk8) 0 3 4 5 6 9) :=
 congrArg (fun k => D7 r n cIq (xs (xs x0 0 (K3 (eA r n) 3 4 5)) 1 (K5 (eO r n kk8) 0 3 4 5 6)) k) (cOz r n kk8)
theorem cMs (kk8 : cZ) : D7 r n aXr (xs (xs x0 0 (K3 (eA r n) 3 4 5)) 1 (K5 (eO r n kk8) 0 3 4 5 6)) (K5 (eO r n kk8) 0 3 4 5 6) = (K6 (aBa r n kk8) 0 3 4 5 6 7) :=
 (cBt r n kk8).trans
 ((by kernel_rfl))
theorem cOu (kk8 : cZ) : D7 r n aWd (xs x0 0 (K3 (eA r n) 3 4 5)) (K5 kk8 0 3 4 5 6) = D7 r n aVb (xs x0 0 (K3 (eA r n) 3 4 5)) (K5 (eO r n kk8) 0 3 4 5 6) :=
 congrArg (fun k => D7 r n aVb (xs x0 0 (K3 (eA r n) 3 4 5)) k) (cVt r n kk8)
theorem cRm (kk8 : cZ) : D7 r n aYe (xs (xs x0 0 (K3 (eA r n) 3 4 5)) 1 (K5 (eO r n kk8) 0 3 4 5 6)) (K5 (eO r n kk8) 0 3 4 5 6) = D7 r n bSm (xs (xs x0 0 (K3 (eA r n) 3 4 5)) 1 (K5 (eO r n kk8) 0 3 4 5 6)) (K6 (aBa r n kk8) 0 3 4 5 6 7) :=
 congrArg (fun k => D7 r n bSm (xs (xs x0 0 (K3 (eA r n) 3 4 5)) 1 (K5 (eO r n kk8) 0 3 4 5 6)) k) (cMs r n kk8)
theorem cWd (kk8 : cZ) (q0 : eU) (q1 : mE) (q2 : cZ) : D7 r n bSm (xs (xs x0 0 (K3 q1 3 4 5)) 1 (K5 q2 0 3 4 5 6)) (K6 q0 0 3 4 5 6 7) = fun (env : bF) (h : Hp) =>
 bnd (aF 4 (env 0) (env 6) h) fun v1 h1 =>
 bnd (aN 4 v1 h1) fun v2 h2 =>
 bnd (r 9 [v2, (.i .i64 (Int.ofNat 0)), (.i .i64 (Int.ofNat 10))] h2) fun v3 h3 =>
 bnd (aC 0 v3 h3) fun v4 h4 =>
 bnd (aC 1 v3 h4) fun v5 h5 =>
 bnd (cF [(.i .i64 (Int.ofNat 0)), (.i .i64 (Int.ofNat 0)), (.s []), .l0] h5) fun v6 h6 =>
 bnd (aI 4 v6 v4 h6) fun _ h7 =>
  q0 (env 0) (env 3) (env 4) (env 5) (env 6) v6 h7 := by kernel_rfl
theorem cAl (kk8 : cZ) : (fun (env : bF) (h : Hp) =>
 bnd (aF 4 (env 0) (env 6) h) fun v1 h1 =>
 bnd (aN 4 v1 h1) fun v2 h2 =>
 bnd (r 9 [v2, (.i .i64 (Int.ofNat 0)), (.i .i64 (Int.ofNat 10))] h2) fun v3 h3 =>
 bnd (aC 0 v3 h3) fun v4 h4 =>
 bnd (aC 1 v3 h4) fun v5 h5 =>
 bnd (cF [(.i .i64 (Int.ofNat 0)), (.i .i64 (Int.ofNat 0)), (.s []), .l0] h5) fun v6 h6 =>
 bnd (aI 4 v6 v4 h6) fun _ h7 =>
  aBa r n kk8 (env 0) (env 3) (env 4) (env 5) (env 6) v6 h7) = (K5 (bKy r n kk8) 0 3 4 5 6) := by kernel_rfl
theorem dEh (kk8 : cZ) : D7 r n aWd (xs x0 0 (K3 (eA r n) 3 4 5)) (K5 kk8 0 3 4 5 6) = (K5 (bKy r n kk8) 0 3 4 5 6) :=
 (cOu r n kk8).trans
 ((by kernel_rfl : D7 r n aVb (xs x0 0 (K3 (eA r n) 3 4 5)) (K5 (eO r n kk8) 0 3 4 5 6) = D7 r n aYe (xs (xs x0 0 (K3 (eA r n) 3 4 5)) 1 (K5 (eO r n kk8) 0 3 4 5 6)) (K5 (eO r n kk8) 0 3 4 5 6)).trans
 ((cRm r n kk8).trans
 ((cWd r n kk8 (aBa r n kk8) (eA r n) (eO r n kk8)).trans (cAl r n kk8))))
theorem cUj (kk8 : cZ) : D7 r n oX (xs x0 0 (K3 (eA r n) 3 4 5)) (K5 kk8 0 3 4 5 6) = D7 r n cIj (xs x0 0 (K3 (eA r n) 3 4 5)) (K5 (bKy r n kk8) 0 3 4 5 6) :=
 congrArg (fun k => D7 r n cIj (xs x0 0 (K3 (eA r n) 3 4 5)) k) (dEh r n kk8)
theorem cUq (kk8 : cZ) : D7 r n oX (xs x0 0 (K3 (eA r n) 3 4 5)) (K5 kk8 0 3 4 5 6) = (K5 (aCc r n kk8) 0 3 4 5 6) :=
 (cUj r n kk8).trans
 ((by kernel_rfl))
theorem cWm (m : Nat) : aO (fun kk => D7 r n oX (xs x0 0 (K3 (eA r n) 3 4 5)) kk) m = (K5 (tK r n m) 0 3 4 5 6) := by
 induction m with
 | zero => exact (by kernel_rfl : aO (fun kk => D7 r n oX (xs x0 0 (K3 (eA r n) 3 4 5)) kk) 0 = (K5 (tK r n 0) 0 3 4 5 6))
 | succ m ih =>
  refine (by kernel_rfl : aO (fun kk => D7 r n oX (xs x0 0 (K3 (eA r n) 3 4 5)) kk) (m + 1) = D7 r n oX (xs x0 0 (K3 (eA r n) 3 4 5)) (aO (fun kk => D7 r n oX (xs x0 0 (K3 (eA r n) 3 4 5)) kk) m)).trans ?_
  rw [ih]
  exact (cUq r n (tK r n m)).trans (by kernel_rfl)
theorem cXs : D7 r n cCi (xs x0 0 (K3 (eA r n) 3 4 5)) (K3 (eA r n) 3 4 5) = (K5 (cUz r n) 0 3 4 5 6) :=
 (by kernel_rfl : D7 r n cCi (xs x0 0 (K3 (eA r n) 3 4 5)) (K3 (eA r n) 3 4 5) = aO (fun kk => D7 r n oX (xs x0 0 (K3 (eA r n) 3 4 5)) kk) n).trans ((cWm r n n).trans (by kernel_rfl))
theorem dBd : D7 r n cWg x0 (K3 (eA r n) 3 4 5) = (K5 (cFi r n) 0 3 4 5 6) :=
 (by kernel_rfl : D7 r n cWg x0 (K3 (eA r n) 3 4 5) = D7 r n cCi (xs x0 0 (K3 (eA r n) 3 4 5)) (K3 (eA r n) 3 4 5)).trans
 ((cXs r n).trans (by kernel_rfl))
theorem cQc : D7 r n bWw x0 r7 = D7 r n bMs x0 (K3 (eA r n) 3 4 5) :=
 congrArg (fun k => D7 r n bMs x0 k) (dEb r n)
theorem cRa : D7 r n bMs x0 (K3 (eA r n) 3 4 5) = D7 r n cKj x0 (K5 (cFi r n) 0 3 4 5 6) :=
 congrArg (fun k => D7 r n cKj x0 k) (dBd r n)
theorem cZg : D7 r n bWw x0 r7 = (K4 (bTs r n) 0 3 4 5) :=
 (cQc r n).trans
 ((cRa r n).trans
 ((by kernel_rfl)))
theorem cHc : D7 r n bTx x0 r7 = D7 r n cKl x0 (K4 (bTs r n) 0 3 4 5) :=
 congrArg (fun k => D7 r n cKl x0 k) (cZg r n)
theorem dEm : D7 r n bTx x0 r7 = (K3 (bXn r n) 0 3 4) :=
 (cHc r n).trans
 ((by kernel_rfl))
theorem cFf : D7 r n bZc x0 r7 = D7 r n cIu x0 (K3 (bXn r n) 0 3 4) :=
 congrArg (fun k => D7 r n cIu x0 k) (dEm r n)
theorem cXx : D7 r n bZc x0 r7 = (K2 (bXf r n) 0 3) :=
 (cFf r n).trans
 ((by kernel_rfl))
theorem cAq : D7 r n bXd x0 r7 = D7 r n cIw x0 (K2 (bXf r n) 0 3) :=
 congrArg (fun k => D7 r n cIw x0 k) (cXx r n)
theorem dAr : D7 r n bXd x0 r7 = (K2 (bXh r n) 0 3) :=
 (cAq r n).trans
 ((by kernel_rfl))
theorem cGt : D7 r n cBx x0 r7 = D7 r n cJg x0 (K2 (bXh r n) 0 3) :=
 congrArg (fun k => D7 r n cJg x0 k) (dAr r n)
theorem dAn : D7 r n cBx x0 r7 = (K1 (cDl r n) 0) :=
 (cGt r n).trans
 ((by kernel_rfl))
theorem dDf : D7 r n c7 x0 r7 = D7 r n cKp x0 (K1 (cDl r n) 0) :=
 congrArg (fun k => D7 r n cKp x0 k) (dAn r n)
theorem s7m : D7 r n c7 x0 r7 = (K1 (s7 r n) 0) :=
 (dDf r n).trans
 ((by kernel_rfl))
theorem dBa : aE CF r n 7 args h = s7 r n (aT args 0) h :=
 (by kernel_rfl : aE CF r n 7 args h = D7 r n c7 x0 r7 (aH args) h).trans ((congrFun (congrFun (s7m r n) (aH args)) h).trans (by kernel_rfl))
noncomputable def s8 (r : RT) (n : Nat) (h0 : Hp) : aG :=
 bnd (r 19 [(.i .i64 (Int.ofNat 60000))] h0) fun v1 h1 =>
 bnd (aC 0 v1 h1) fun v2 h2 =>
 bnd (aC 1 v1 h2) fun v3 h3 =>
 bnd (pEq (.pointer 58) true v2 .p0 h3) fun v4 h4 =>
 bnd (gD v4 false (some (v3, h4)) h4) fun v5 h5 =>
 bnd (gD v4 false (aD .neq v5 (.i .i64 (Int.ofNat 0)) h5) h5) fun v6 h6 =>
 bnd (aQ v4 (.b true) v6 h6) fun v7 h7 =>
 aX v7 (
 some (.p0, h7)) (
 bnd (aJ [(.s []), (.s [])] 2 [(0, 1, (.s [120])), (1, 1, (.s [121]))] h7) fun v8 h8 =>
 bnd (r 20 [v2, (.s [80, 111, 105, 110, 116]), (.s [79, 98, 106, 101, 99, 116]), v8] h8) fun v9 h9 =>
 bnd (aC 0 v9 h9) fun v10 h10 =>
 bnd (aC 1 v9 h10) fun v11 h11 =>
 bnd (r 20 [v2, (.s [69, 103, 103]), (.s [79, 98, 106, 101, 99, 116]), .l0] h11) fun v12 h12 =>
 bnd (aC 0 v12 h12) fun v13 h13 =>
 bnd (aC 1 v12 h13) fun v14 h14 =>
 bnd (aD .neq v11 (.i .i64 (Int.ofNat 0)) h14) fun v15 h15 =>
 bnd (gD v15 false (some (v14, h15)) h15) fun v16 h16 =>
 bnd (gD v15 false (aD .neq v16 (.i .i64 (Int.ofNat 0)) h16) h16) fun v17 h17 =>
 bnd (aQ v15 (.b true) v17 h17) fun v18 h18 =>
 aX v18 (
 some (.p0, h18)) (
 some (v2, h18)))
noncomputable abbrev c8 : Code := cf Tryz.f8
noncomputable abbrev r8 : K := aS CF Tryz.f8
noncomputable def D8 (r : RT) (n : Nat) (c : Code) (X : Nat → K) (k : K) : K := aP CF r 35 n c X r8 k
theorem s8m : D8 r n c8 x0 r8 = (K0 (s8 r n)) :=
 (by kernel_rfl)
theorem dCv : aE CF r n 8 args h = s8 r n h :=
 (by kernel_rfl : aE CF r n 8 args h = D8 r n c8 x0 r8 (aH args) h).trans ((congrFun (congrFun (s8m r n) (aH args)) h).trans (by kernel_rfl))
noncomputable def jA (r : RT) (n : Nat) (x2 x3 x6 x8 : DV) (h0 : Hp) : aG :=
 bnd (aB 3 x3 h0) fun v1 h1 =>
 bnd (aI 1 v1 x8 h1) fun _ h2 =>
 bnd (aN 4 x3 h2) fun v3 h3 =>
 bnd (aI 4 x6 v3 h3) fun _ h4 =>
 bnd (aN 4 x6 h4) fun v5 _ =>
 some (.t [v5, x2], h4)
noncomputable def mN (r : RT) (n : Nat) (kk11 : eU) (x1 x2 x3 x6 x8 x9 : DV) (h0 : Hp) : aG :=
 bnd (aB 3 x3 h0) fun v1 h1 =>
 bnd (aA v1 h1) fun v2 h2 =>
 bnd (cO v2 h2) fun v3 h3 =>
 bnd (aD .lss x9 v3 h3) fun v4 h4 =>
 bnd (gD v4 true (some (x9, h4)) h4) fun v5 h5 =>
 bnd (gD v4 true (aD .lss v5 (.i .i64 (Int.ofNat 30)) h5) h5) fun v6 h6 =>
 bnd (aQ v4 v6 (.b false) h6) fun v7 h7 =>
 bnd (gD v7 true (some (x2, h7)) h7) fun v8 h8 =>
 bnd (gD v7 true (aD .gtr v8 (.i .i64 (Int.ofNat 0)) h8) h8) fun v9 h9 =>
 bnd (aQ v7 v9 (.b false) h9) fun v10 h10 =>
 bnd (gD v10 true (aB 0 x3 h10) h10) fun v11 h11 =>
 bnd (gD v10 true (aA v11 h11) h11) fun v12 h12 =>
 bnd (gD v10 true (aD .eql v12 (.i .i64 (Int.ofNat 3)) h12) h12) fun v13 h13 =>
 bnd (aQ v10 v13 (.b false) h13) fun v14 h14 =>
 aX v14 (
 bnd (aB 3 x3 h14) fun v15 h15 =>
 bnd (aA v15 h15) fun v16 h16 =>
 bnd (aF 4 v16 x9 h16) fun v17 h17 =>
 bnd (aN 4 v17 h17) fun v18 h18 =>
 bnd (aD .sub x1 (.i .i64 (Int.ofNat 1)) h18) fun v19 h19 =>
 bnd (r 9 [v18, v19, x2] h19) fun v20 h20 =>
 bnd (aC 0 v20 h20) fun v21 h21 =>
 bnd (aC 1 v20 h21) fun v22 h22 =>
 bnd (cF [(.i .i64 (Int.ofNat 0)), (.i .i64 (Int.ofNat 0)), (.s []), .l0] h22) fun v23 h23 =>
 bnd (aI 4 v23 v21 h23) fun _ h24 =>
 bnd (aN 4 v23 h24) fun v25 h25 =>
 bnd (aJ [(.i .i64 (Int.ofNat 0)), (.i .i64 (Int.ofNat 0)), (.s []), .l0] 1 [(0, 4, v25)] h25) fun v26 h26 =>
 bnd (bB 4 56 x8 v26 h26) fun v27 h27 =>
 bnd (aD .add x9 (.i .i64 (Int.ofNat 1)) h27) fun v28 h28 =>
      kk11 x1 v22 x3 x6 v27 v28 h28) (
      jA r n x2 x3 x6 x8 h14)
noncomputable def kM (r : RT) (n : Nat) (m : Nat) : eU :=
 Nat.rec (motive := fun _ => eU) (fun _ _ _ _ _ _ _ => none) (fun _ ih => mN r n ih) m
noncomputable def cJu (r : RT) (n : Nat) : eU := kM r n n
noncomputable def bTh (r : RT) (n : Nat) (x1 x2 x3 x6 x8 x9 : DV) (h0 : Hp) : aG :=
 cJu r n x1 x2 x3 x6 x8 x9 h0
noncomputable def cRo (r : RT) (n : Nat) (x1 x2 x3 x6 x8 : DV) (h0 : Hp) : aG :=
 bTh r n x1 x2 x3 x6 x8 (.i .i64 (Int.ofNat 0)) h0
noncomputable def pI (r : RT) (n : Nat) (x1 x2 x3 x6 : DV) (h0 : Hp) : aG :=
 cRo r n x1 x2 x3 x6 .l0 h0
noncomputable def aBv (r : RT) (n : Nat) (x1 x2 x3 x6 : DV) (h0 : Hp) : aG :=
 bnd (aB 1 x3 h0) fun v1 h1 =>
 bnd (aA v1 h1) fun v2 h2 =>
 bnd (aD .rem v2 (.i .i64 (Int.ofNat 16)) h2) fun v3 h3 =>
 bnd (aB 1 x3 h3) fun v4 h4 =>
 bnd (aI 1 v4 v3 h4) fun _ h5 =>
  pI r n x1 x2 x3 x6 h5
noncomputable def bDe (r : RT) (n : Nat) (x1 x2 x3 x6 : DV) (h0 : Hp) : aG :=
 bnd (aB 1 x3 h0) fun v1 h1 =>
 bnd (aA v1 h1) fun v2 h2 =>
 bnd (aD .lss v2 (.i .i64 (Int.ofNat 0)) h2) fun v3 h3 =>
 aX v3 (
 bnd (aB 1 x3 h3) fun v4 h4 =>
 bnd (aA v4 h4) fun v5 h5 =>
 bnd (aD .add v5 (.i .i64 (Int.ofNat 1)) h5) fun v6 h6 =>
 bnd (jW .neg v6 h6) fun v7 h7 =>
 bnd (aB 1 x3 h7) fun v8 h8 =>
 bnd (aI 1 v8 v7 h8) fun _ h9 =>
  aBv r n x1 x2 x3 x6 h9) (
  aBv r n x1 x2 x3 x6 h3)
noncomputable def aUx (r : RT) (n : Nat) (x1 x2 x3 x6 x65 : DV) (h0 : Hp) : aG :=
 aX x65 (
  bDe r n x1 x2 x3 x6 h0) (
  pI r n x1 x2 x3 x6 h0)
noncomputable def aOl (r : RT) (n : Nat) (x1 x2 x3 x6 : DV) (h0 : Hp) : aG :=
 bnd (aB 0 x3 h0) fun v1 h1 =>
 bnd (aA v1 h1) fun v2 h2 =>
 bnd (aD .eql v2 (.i .i64 (Int.ofNat 6)) h2) fun v3 h3 =>
  aUx r n x1 x2 x3 x6 v3 h3
noncomputable def aNi (r : RT) (n : Nat) (x1 x2 x3 x6 : DV) (h0 : Hp) : aG :=
 bnd (aB 0 x3 h0) fun v1 h1 =>
 bnd (aA v1 h1) fun v2 h2 =>
 bnd (aD .eql v2 (.i .i64 (Int.ofNat 2)) h2) fun v3 h3 =>
 bnd (gD v3 true (aB 2 x3 h3) h3) fun v4 h4 =>
 bnd (gD v3 true (aA v4 h4) h4) fun v5 h5 =>
 bnd (gD v3 true (dA .eql v5 (.s []) h5) h5) fun v6 h6 =>
 bnd (aQ v3 v6 (.b false) h6) fun v7 h7 =>
 aX v7 (
 bnd (aB 2 x3 h7) fun v8 h8 =>
 bnd (aI 1 v8 (.s [115]) h8) fun _ h9 =>
  aOl r n x1 x2 x3 x6 h9) (
  aOl r n x1 x2 x3 x6 h7)
noncomputable def aIg (r : RT) (n : Nat) (x1 x2 x3 x6 : DV) (h0 : Hp) : aG :=
 bnd (aB 2 x3 h0) fun v1 h1 =>
 bnd (aA v1 h1) fun v2 h2 =>
 bnd (dI v2 h2) fun v3 h3 =>
 bnd (aD .gtr v3 (.i .i64 (Int.ofNat 60)) h3) fun v4 h4 =>
 aX v4 (
 bnd (aB 2 x3 h4) fun v5 h5 =>
 bnd (aA v5 h5) fun v6 h6 =>
 bnd (dY v6 none (some (.i .i64 (Int.ofNat 60))) h6) fun v7 h7 =>
 bnd (aB 2 x3 h7) fun v8 h8 =>
 bnd (aI 1 v8 v7 h8) fun _ h9 =>
  aNi r n x1 x2 x3 x6 h9) (
  aNi r n x1 x2 x3 x6 h4)
noncomputable def aIh (r : RT) (n : Nat) (x1 x2 x3 x6 : DV) (h0 : Hp) : aG :=
 bnd (aB 0 x3 h0) fun v1 h1 =>
 bnd (aA v1 h1) fun v2 h2 =>
 bnd (aD .eql v2 (.i .i64 (Int.ofNat 0)) h2) fun v3 h3 =>
 bnd (gD v3 true (aB 1 x3 h3) h3) fun v4 h4 =>
 bnd (gD v3 true (aA v4 h4) h4) fun v5 h5 =>
 bnd (gD v3 true (aD .lss v5 (.i .i64 (Int.negSucc 1152921504606846975)) h5) h5) fun v6 h6 =>
 bnd (gD v3 true (some (v6, h6)) h6) fun v7 h7 =>
 bnd (gD v7 false (aB 1 x3 h7) h7) fun v8 h8 =>
 bnd (gD v7 false (aA v8 h8) h8) fun v9 h9 =>
 bnd (gD v7 false (aD .gtr v9 (.i .i64 (Int.ofNat 1152921504606846976)) h9) h9) fun v10 h10 =>
 bnd (gD v3 true (aQ v7 (.b true) v10 h10) h10) fun v11 h11 =>
 bnd (aQ v3 v11 (.b false) h11) fun v12 h12 =>
 aX v12 (
 bnd (aB 1 x3 h12) fun v13 h13 =>
 bnd (aI 1 v13 (.i .i64 (Int.ofNat 7)) h13) fun _ h14 =>
  aIg r n x1 x2 x3 x6 h14) (
  aIg r n x1 x2 x3 x6 h12)
noncomputable def aZt (r : RT) (n : Nat) (x1 x2 x3 x6 : DV) (h0 : Hp) : aG :=
 bnd (aB 0 x3 h0) fun v1 h1 =>
 bnd (aA v1 h1) fun v2 h2 =>
 bnd (aD .lss v2 (.i .i64 (Int.ofNat 0)) h2) fun v3 h3 =>
 bnd (gD v3 false (aB 0 x3 h3) h3) fun v4 h4 =>
 bnd (gD v3 false (aA v4 h4) h4) fun v5 h5 =>
 bnd (gD v3 false (aD .gtr v5 (.i .i64 (Int.ofNat 9)) h5) h5) fun v6 h6 =>
 bnd (aQ v3 (.b true) v6 h6) fun v7 h7 =>
 bnd (gD v7 false (aB 0 x3 h7) h7) fun v8 h8 =>
 bnd (gD v7 false (aA v8 h8) h8) fun v9 h9 =>
 bnd (gD v7 false (aD .eql v9 (.i .i64 (Int.ofNat 3)) h9) h9) fun v10 h10 =>
 bnd (gD v7 false (some (v10, h10)) h10) fun v11 h11 =>
 bnd (gD v11 true (some (x1, h11)) h11) fun v12 h12 =>
 bnd (gD v11 true (aD .eql v12 (.i .i64 (Int.ofNat 0)) h12) h12) fun v13 h13 =>
 bnd (gD v7 false (aQ v11 v13 (.b false) h13) h13) fun v14 h14 =>
 bnd (aQ v7 (.b true) v14 h14) fun v15 h15 =>
 aX v15 (
 bnd (aB 0 x3 h15) fun v16 h16 =>
 bnd (aI 1 v16 (.i .i64 (Int.ofNat 7)) h16) fun _ h17 =>
  aIh r n x1 x2 x3 x6 h17) (
  aIh r n x1 x2 x3 x6 h15)
noncomputable def bBf (r : RT) (n : Nat) (x1 x2 x3 x6 : DV) (h0 : Hp) : aG :=
 bnd (aD .sub x2 (.i .i64 (Int.ofNat 1)) h0) fun v1 h1 =>
  aZt r n x1 v1 x3 x6 h1
noncomputable def s9 (r : RT) (n : Nat) (x0 x1 x2 : DV) (h0 : Hp) : aG :=
 bnd (cB x0 h0) fun v1 h1 =>
 bnd (cF [(.i .i64 (Int.ofNat 0)), (.i .i64 (Int.ofNat 0)), (.s []), .l0] h1) fun v2 h2 =>
  bBf r n x1 x2 v1 v2 h2
noncomputable abbrev c9 : Code := cf Tryz.f9
noncomputable abbrev bXb : Code := cR c9
noncomputable abbrev cFd : Code := cR bXb
noncomputable abbrev bZx : Code := cR cFd
noncomputable abbrev cCj : Code := cR bZx
noncomputable abbrev bYz : Code := cR cCj
noncomputable abbrev bVj : Code := cR bYz
noncomputable abbrev cDa : Code := cR bVj
noncomputable abbrev cEo : Code := cR cDa
noncomputable abbrev dHg : Code := cR cEo
noncomputable abbrev aKv : Code := cL cEo
noncomputable abbrev bOd : Code := cR aKv
noncomputable abbrev aZm : Code := cL bOd
noncomputable abbrev tQ : Code := cL aZm
noncomputable abbrev cIh : Code := cL aKv
noncomputable abbrev cHp : Code := cL cDa
noncomputable abbrev aKl : Code := cL bVj
noncomputable abbrev aMk : Code := cR aKl
noncomputable abbrev aLs : Code := cL aMk
noncomputable abbrev dAc : Code := cR aLs
noncomputable abbrev cJz : Code := cL aLs
noncomputable abbrev dDb : Code := cR aMk
noncomputable abbrev cKk : Code := cL aKl
noncomputable abbrev cJq : Code := cL bYz
noncomputable abbrev cJd : Code := cL cCj
noncomputable abbrev cIe : Code := cL bZx
noncomputable abbrev cKb : Code := cL cFd
noncomputable abbrev cIo : Code := cL bXb
noncomputable abbrev bIu : Code := cL c9
noncomputable abbrev r9 : K := aS CF Tryz.f9
noncomputable def D9 (r : RT) (n : Nat) (c : Code) (X : Nat → K) (k : K) : K := aP CF r 119 n c X r9 k
theorem dEf : D9 r n dHg x0 r9 = (K4 (jA r n) 2 3 6 8) :=
 (by kernel_rfl)
theorem bYk (kk11 : eU) (q0 : eY) : D9 r n tQ (xs x0 0 (K4 q0 2 3 6 8)) (K6 kk11 1 2 3 6 8 9) = fun (env : bF) (h : Hp) =>
 bnd (aB 3 (env 3) h) fun v1 h1 =>
 bnd (aA v1 h1) fun v2 h2 =>
 bnd (cO v2 h2) fun v3 h3 =>
 bnd (aD .lss (env 9) v3 h3) fun v4 h4 =>
 bnd (gD v4 true (some ((env 9), h4)) h4) fun v5 h5 =>
 bnd (gD v4 true (aD .lss v5 (.i .i64 (Int.ofNat 30)) h5) h5) fun v6 h6 =>
 bnd (aQ v4 v6 (.b false) h6) fun v7 h7 =>
 bnd (gD v7 true (some ((env 2), h7)) h7) fun v8 h8 =>
 bnd (gD v7 true (aD .gtr v8 (.i .i64 (Int.ofNat 0)) h8) h8) fun v9 h9 =>
 bnd (aQ v7 v9 (.b false) h9) fun v10 h10 =>
 bnd (gD v10 true (aB 0 (env 3) h10) h10) fun v11 h11 =>
 bnd (gD v10 true (aA v11 h11) h11) fun v12 h12 =>
 bnd (gD v10 true (aD .eql v12 (.i .i64 (Int.ofNat 3)) h12) h12) fun v13 h13 =>
 bnd (aQ v10 v13 (.b false) h13) fun v14 h14 =>
 aX v14 (
 bnd (aB 3 (env 3) h14) fun v15 h15 =>
 bnd (aA v15 h15) fun v16 h16 =>
 bnd (aF 4 v16 (env 9) h16) fun v17 h17 =>
 bnd (aN 4 v17 h17) fun v18 h18 =>
 bnd (aD .sub (env 1) (.i .i64 (Int.ofNat 1)) h18) fun v19 h19 =>
 bnd (r 9 [v18, v19, (env 2)] h19) fun v20 h20 =>
 bnd (aC 0 v20 h20) fun v21 h21 =>
 bnd (aC 1 v20 h21) fun v22 h22 =>
 bnd (cF [(.i .i64 (Int.ofNat 0)), (.i .i64 (Int.ofNat 0)), (.s []), .l0] h22) fun v23 h23 =>
 bnd (aI 4 v23 v21 h23) fun _ h24 =>
 bnd (aN 4 v23 h24) fun v25 h25 =>
 bnd (aJ [(.i .i64 (Int.ofNat 0)), (.i .i64 (Int.ofNat 0)), (.s []), .l0] 1 [(0, 4, v25)] h25) fun v26 h26 =>
 bnd (bB 4 56 (env 8) v26 h26) fun v27 h27 =>
 bnd (aD .add (env 9) (.i .i64 (Int.ofNat 1)) h27) fun v28 h28 =>
      kk11 (env 1) v22 (env 3) (env 6) v27 v28 h28) (
      q0 (env 2) (env 3) (env 6) (env 8) h14) := by kernel_rfl
theorem bIq (kk11 : eU) : (fun (env : bF) (h : Hp) =>
 bnd (aB 3 (env 3) h) fun v1 h1 =>
 bnd (aA v1 h1) fun v2 h2 =>
 bnd (cO v2 h2) fun v3 h3 =>
 bnd (aD .lss (env 9) v3 h3) fun v4 h4 =>
 bnd (gD v4 true (some ((env 9), h4)) h4) fun v5 h5 =>
 bnd (gD v4 true (aD .lss v5 (.i .i64 (Int.ofNat 30)) h5) h5) fun v6 h6 =>
 bnd (aQ v4 v6 (.b false) h6) fun v7 h7 =>
 bnd (gD v7 true (some ((env 2), h7)) h7) fun v8 h8 =>
 bnd (gD v7 true (aD .gtr v8 (.i .i64 (Int.ofNat 0)) h8) h8) fun v9 h9 =>
 bnd (aQ v7 v9 (.b false) h9) fun v10 h10 =>
 bnd (gD v10 true (aB 0 (env 3) h10) h10) fun v11 h11 =>
 bnd (gD v10 true (aA v11 h11) h11) fun v12 h12 =>
 bnd (gD v10 true (aD .eql v12 (.i .i64 (Int.ofNat 3)) h12) h12) fun v13 h13 =>
 bnd (aQ v10 v13 (.b false) h13) fun v14 h14 =>
 aX v14 (
 bnd (aB 3 (env 3) h14) fun v15 h15 =>
 bnd (aA v15 h15) fun v16 h16 =>
 bnd (aF 4 v16 (env 9) h16) fun v17 h17 =>
 bnd (aN 4 v17 h17) fun v18 h18 =>
 bnd (aD .sub (env 1) (.i .i64 (Int.ofNat 1)) h18) fun v19 h19 =>
 bnd (r 9 [v18, v19, (env 2)] h19) fun v20 h20 =>
 bnd (aC 0 v20 h20) fun v21 h21 =>
 bnd (aC 1 v20 h21) fun v22 h22 =>
 bnd (cF [(.i .i64 (Int.ofNat 0)), (.i .i64 (Int.ofNat 0)), (.s []), .l0] h22) fun v23 h23 =>
 bnd (aI 4 v23 v21 h23) fun _ h24 =>
 bnd (aN 4 v23 h24) fun v25 h25 =>
 bnd (aJ [(.i .i64 (Int.ofNat 0)), (.i .i64 (Int.ofNat 0)), (.s []), .l0] 1 [(0, 4, v25)] h25) fun v26 h26 =>
 bnd (bB 4 56 (env 8) v26 h26) fun v27 h27 =>
 bnd (aD .add (env 9) (.i .i64 (Int.ofNat 1)) h27) fun v28 h28 =>
      kk11 (env 1) v22 (env 3) (env 6) v27 v28 h28) (
      jA r n (env 2) (env 3) (env 6) (env 8) h14)) = (K6 (mN r n kk11) 1 2 3 6 8 9) := by kernel_rfl
theorem bUp (kk11 : eU) : D9 r n tQ (xs x0 0 (K4 (jA r n) 2 3 6 8)) (K6 kk11 1 2 3 6 8 9) = (K6 (mN r n kk11) 1 2 3 6 8 9) :=
 (bYk r n kk11 (jA r n)).trans (bIq r n kk11)
theorem bYx (m : Nat) : aO (fun kk => D9 r n tQ (xs x0 0 (K4 (jA r n) 2 3 6 8)) kk) m = (K6 (kM r n m) 1 2 3 6 8 9) := by
 induction m with
 | zero => exact (by kernel_rfl : aO (fun kk => D9 r n tQ (xs x0 0 (K4 (jA r n) 2 3 6 8)) kk) 0 = (K6 (kM r n 0) 1 2 3 6 8 9))
 | succ m ih =>
  refine (by kernel_rfl : aO (fun kk => D9 r n tQ (xs x0 0 (K4 (jA r n) 2 3 6 8)) kk) (m + 1) = D9 r n tQ (xs x0 0 (K4 (jA r n) 2 3 6 8)) (aO (fun kk => D9 r n tQ (xs x0 0 (K4 (jA r n) 2 3 6 8)) kk) m)).trans ?_
  rw [ih]
  exact (bUp r n (kM r n m)).trans (by kernel_rfl)
theorem cUr : D9 r n aZm (xs x0 0 (K4 (jA r n) 2 3 6 8)) (K4 (jA r n) 2 3 6 8) = (K6 (cJu r n) 1 2 3 6 8 9) :=
 (by kernel_rfl : D9 r n aZm (xs x0 0 (K4 (jA r n) 2 3 6 8)) (K4 (jA r n) 2 3 6 8) = aO (fun kk => D9 r n tQ (xs x0 0 (K4 (jA r n) 2 3 6 8)) kk) n).trans ((bYx r n n).trans (by kernel_rfl))
theorem cTm : D9 r n bOd x0 (K4 (jA r n) 2 3 6 8) = (K6 (bTh r n) 1 2 3 6 8 9) :=
 (by kernel_rfl : D9 r n bOd x0 (K4 (jA r n) 2 3 6 8) = D9 r n aZm (xs x0 0 (K4 (jA r n) 2 3 6 8)) (K4 (jA r n) 2 3 6 8)).trans
 ((cUr r n).trans (by kernel_rfl))
theorem cVs : D9 r n cEo x0 r9 = D9 r n aKv x0 (K4 (jA r n) 2 3 6 8) :=
 congrArg (fun k => D9 r n aKv x0 k) (dEf r n)
theorem cRe : D9 r n aKv x0 (K4 (jA r n) 2 3 6 8) = D9 r n cIh x0 (K6 (bTh r n) 1 2 3 6 8 9) :=
 congrArg (fun k => D9 r n cIh x0 k) (cTm r n)
theorem dEn : D9 r n cEo x0 r9 = (K5 (cRo r n) 1 2 3 6 8) :=
 (cVs r n).trans
 ((cRe r n).trans
 ((by kernel_rfl)))
theorem cQv : D9 r n cDa x0 r9 = D9 r n cHp x0 (K5 (cRo r n) 1 2 3 6 8) :=
 congrArg (fun k => D9 r n cHp x0 k) (dEn r n)
theorem dEc : D9 r n cDa x0 r9 = (K4 (pI r n) 1 2 3 6) :=
 (cQv r n).trans
 ((by kernel_rfl))
theorem cPi : D9 r n dAc x0 (K4 (pI r n) 1 2 3 6) = (K4 (aBv r n) 1 2 3 6) :=
 (by kernel_rfl)
theorem cBa : D9 r n aLs x0 (K4 (pI r n) 1 2 3 6) = D9 r n cJz x0 (K4 (aBv r n) 1 2 3 6) :=
 congrArg (fun k => D9 r n cJz x0 k) (cPi r n)
theorem cQm : D9 r n aLs x0 (K4 (pI r n) 1 2 3 6) = (K4 (bDe r n) 1 2 3 6) :=
 (cBa r n).trans
 ((by kernel_rfl))
theorem cNf : D9 r n aMk x0 (K4 (pI r n) 1 2 3 6) = (K5 (aUx r n) 1 2 3 6 65) :=
 (by kernel_rfl : D9 r n aMk x0 (K4 (pI r n) 1 2 3 6) = (fun (env : bF) (h : Hp) => aX (opr env (cC aMk)) (D9 r n aLs x0 (K4 (pI r n) 1 2 3 6) env h) (D9 r n dDb x0 (K4 (pI r n) 1 2 3 6) env h))).trans (by rw [cQm r n]; kernel_rfl)
theorem cQn : D9 r n bVj x0 r9 = D9 r n aKl x0 (K4 (pI r n) 1 2 3 6) :=
 congrArg (fun k => D9 r n aKl x0 k) (dEc r n)
theorem cVf : D9 r n aKl x0 (K4 (pI r n) 1 2 3 6) = D9 r n cKk x0 (K5 (aUx r n) 1 2 3 6 65) :=
 congrArg (fun k => D9 r n cKk x0 k) (cNf r n)
theorem dDi : D9 r n bVj x0 r9 = (K4 (aOl r n) 1 2 3 6) :=
 (cQn r n).trans
 ((cVf r n).trans
 ((by kernel_rfl)))
theorem cPu : D9 r n bYz x0 r9 = D9 r n cJq x0 (K4 (aOl r n) 1 2 3 6) :=
 congrArg (fun k => D9 r n cJq x0 k) (dDi r n)
theorem dDo : D9 r n bYz x0 r9 = (K4 (aNi r n) 1 2 3 6) :=
 (cPu r n).trans
 ((by kernel_rfl))
theorem cVo : D9 r n cCj x0 r9 = D9 r n cJd x0 (K4 (aNi r n) 1 2 3 6) :=
 congrArg (fun k => D9 r n cJd x0 k) (dDo r n)
theorem dAk : D9 r n cCj x0 r9 = (K4 (aIg r n) 1 2 3 6) :=
 (cVo r n).trans
 ((by kernel_rfl))
theorem bUs : D9 r n bZx x0 r9 = D9 r n cIe x0 (K4 (aIg r n) 1 2 3 6) :=
 congrArg (fun k => D9 r n cIe x0 k) (dAk r n)
theorem dBn : D9 r n bZx x0 r9 = (K4 (aIh r n) 1 2 3 6) :=
 (bUs r n).trans
 ((by kernel_rfl))
theorem bVn : D9 r n cFd x0 r9 = D9 r n cKb x0 (K4 (aIh r n) 1 2 3 6) :=
 congrArg (fun k => D9 r n cKb x0 k) (dBn r n)
theorem cWo : D9 r n cFd x0 r9 = (K4 (aZt r n) 1 2 3 6) :=
 (bVn r n).trans
 ((by kernel_rfl))
theorem bZe : D9 r n bXb x0 r9 = D9 r n cIo x0 (K4 (aZt r n) 1 2 3 6) :=
 congrArg (fun k => D9 r n cIo x0 k) (cWo r n)
theorem dDp : D9 r n bXb x0 r9 = (K4 (bBf r n) 1 2 3 6) :=
 (bZe r n).trans
 ((by kernel_rfl))
theorem cXf : D9 r n c9 x0 r9 = D9 r n bIu x0 (K4 (bBf r n) 1 2 3 6) :=
 congrArg (fun k => D9 r n bIu x0 k) (dDp r n)
theorem cZp (q0 : eY) : D9 r n bIu x0 (K4 q0 1 2 3 6) = fun (env : bF) (h : Hp) =>
 bnd (cB (env 0) h) fun v1 h1 =>
 bnd (cF [(.i .i64 (Int.ofNat 0)), (.i .i64 (Int.ofNat 0)), (.s []), .l0] h1) fun v2 h2 =>
  q0 (env 1) (env 2) v1 v2 h2 := by kernel_rfl
theorem cMg : (fun (env : bF) (h : Hp) =>
 bnd (cB (env 0) h) fun v1 h1 =>
 bnd (cF [(.i .i64 (Int.ofNat 0)), (.i .i64 (Int.ofNat 0)), (.s []), .l0] h1) fun v2 h2 =>
  bBf r n (env 1) (env 2) v1 v2 h2) = (K3 (s9 r n) 0 1 2) := by kernel_rfl
theorem s9m : D9 r n c9 x0 r9 = (K3 (s9 r n) 0 1 2) :=
 (cXf r n).trans
 ((cZp r n (bBf r n)).trans (cMg r n))
theorem cWt : aE CF r n 9 args h = s9 r n (aT args 0) (aT args 1) (aT args 2) h :=
 (by kernel_rfl : aE CF r n 9 args h = D9 r n c9 x0 r9 (aH args) h).trans ((congrFun (congrFun (s9m r n) (aH args)) h).trans (by kernel_rfl))
noncomputable def s10 (r : RT) (n : Nat) (x0 x1 : DV) (h0 : Hp) : aG :=
 bnd (r 21 [x0, x1, (.i .i64 (Int.ofNat 0))] h0) fun v1 h1 =>
 bnd (dI v1 h1) fun v2 h2 =>
 bnd (aHk v2 (.i .i64 (Int.ofNat 1000)) h2) fun v3 h3 =>
 bnd (dY v1 none (some v3) h3) fun v4 h4 =>
 some (v4, h4)
noncomputable abbrev c10 : Code := cf Tryz.f10
noncomputable abbrev r10 : K := aS CF Tryz.f10
noncomputable def D10 (r : RT) (n : Nat) (c : Code) (X : Nat → K) (k : K) : K := aP CF r 14 n c X r10 k
theorem dEu : D10 r n c10 x0 r10 = (K2 (s10 r n) 0 1) :=
 (by kernel_rfl)
theorem cKg : aE CF r n 10 args h = s10 r n (aT args 0) (aT args 1) h :=
 (by kernel_rfl : aE CF r n 10 args h = D10 r n c10 x0 r10 (aH args) h).trans ((congrFun (congrFun (dEu r n) (aH args)) h).trans (by kernel_rfl))
end Go.Dd

namespace Go.Dd
open Go.Proofs
variable (r : RT) (n : Nat) (args : List DV) (h : Hp)
noncomputable def aY (r : RT) (n : Nat) (x5 : DV) (h0 : Hp) : aG :=
 some (x5, h0)
noncomputable def eC (r : RT) (n : Nat) (x0 x6 : DV) (h0 : Hp) : aG :=
 bnd (r 16 [x0, x6] h0) fun v1 h1 =>
 bnd (aC 0 v1 h1) fun v2 h2 =>
 bnd (aC 1 v1 h2) fun v3 h3 =>
  aY r n v2 h3
noncomputable def lZ (r : RT) (n : Nat) (kk16 : eY) (x0 x3 x6 x7 : DV) (h0 : Hp) : aG :=
 bnd (aB 3 x3 h0) fun v1 h1 =>
 bnd (aA v1 h1) fun v2 h2 =>
 bnd (cO v2 h2) fun v3 h3 =>
 bnd (aD .lss x7 v3 h3) fun v4 h4 =>
 aX v4 (
 bnd (aB 3 x3 h4) fun v5 h5 =>
 bnd (aA v5 h5) fun v6 h6 =>
 bnd (aF 4 v6 x7 h6) fun v7 h7 =>
 bnd (aN 4 v7 h7) fun v8 h8 =>
 bnd (r 11 [x0, v8] h8) fun v9 h9 =>
 bnd (aJ [(.i .i64 (Int.ofNat 0))] 1 [(0, 1, v9)] h9) fun v10 h10 =>
 bnd (bB 1 8 x6 v10 h10) fun v11 h11 =>
 bnd (aD .add x7 (.i .i64 (Int.ofNat 1)) h11) fun v12 h12 =>
      kk16 x0 x3 v11 v12 h12) (
      eC r n x0 x6 h4)
noncomputable def mI (r : RT) (n : Nat) (m : Nat) : eY :=
 Nat.rec (motive := fun _ => eY) (fun _ _ _ _ _ => none) (fun _ ih => lZ r n ih) m
noncomputable def bDx (r : RT) (n : Nat) : eY := mI r n n
noncomputable def aPw (r : RT) (n : Nat) (x0 x3 x6 x7 : DV) (h0 : Hp) : aG :=
 bDx r n x0 x3 x6 x7 h0
noncomputable def aOd (r : RT) (n : Nat) (x0 x3 x6 : DV) (h0 : Hp) : aG :=
 aPw r n x0 x3 x6 (.i .i64 (Int.ofNat 0)) h0
noncomputable def bJb (r : RT) (n : Nat) (x0 x3 : DV) (h0 : Hp) : aG :=
 aOd r n x0 x3 .l0 h0
noncomputable def aIm (r : RT) (n : Nat) (x0 x3 x5 x9 x37 : DV) (h0 : Hp) : aG :=
 aX x37 (
  bJb r n x0 x3 h0) (
 bnd (aD .eql x9 (.i .i64 (Int.ofNat 4)) h0) fun v1 h1 =>
 aX v1 (
 bnd (r 14 [x0] h1) fun v2 h2 =>
 bnd (r 26 [x0, (.s [80, 111, 105, 110, 116])] h2) fun v3 h3 =>
 bnd (jQ [v2, v3, (.i .i64 (Int.ofNat 0)), (.i .i64 (Int.ofNat 2))] h3) fun v4 h4 =>
 bnd (aC 0 v4 h4) fun v5 h5 =>
 bnd (aC 1 v4 h5) fun v6 h6 =>
      aY r n v5 h6) (
 bnd (aD .eql x9 (.i .i64 (Int.ofNat 5)) h1) fun v7 h7 =>
 aX v7 (
 bnd (r 14 [x0] h7) fun v8 h8 =>
 bnd (r 26 [x0, (.s [69, 103, 103])] h8) fun v9 h9 =>
 bnd (jQ [v8, v9, (.i .i64 (Int.ofNat 0)), (.i .i64 (Int.ofNat 0))] h9) fun v10 h10 =>
 bnd (aC 0 v10 h10) fun v11 h11 =>
 bnd (aC 1 v10 h11) fun v12 h12 =>
    aY r n v11 h12) (
 bnd (aD .eql x9 (.i .i64 (Int.ofNat 6)) h7) fun v13 h13 =>
 aX v13 (
 bnd (aB 1 x3 h13) fun v14 h14 =>
 bnd (aA v14 h14) fun v15 h15 =>
 bnd (r 27 [x0, v15] h15) fun v16 h16 =>
     aY r n v16 h16) (
 bnd (aD .eql x9 (.i .i64 (Int.ofNat 8)) h13) fun v17 h17 =>
 aX v17 (
      aY r n (.i .i64 (Int.ofNat 2)) h17) (
 bnd (aD .eql x9 (.i .i64 (Int.ofNat 9)) h17) fun v18 h18 =>
 aX v18 (
       aY r n (.i .i64 (Int.ofNat 4)) h18) (
       aY r n x5 h18))))))
noncomputable def aOn (r : RT) (n : Nat) (x0 x3 x5 x9 : DV) (h0 : Hp) : aG :=
 bnd (aD .eql x9 (.i .i64 (Int.ofNat 3)) h0) fun v1 h1 =>
  aIm r n x0 x3 x5 x9 v1 h1
noncomputable def aTx (r : RT) (n : Nat) (x0 x3 x5 x9 x28 : DV) (h0 : Hp) : aG :=
 aX x28 (
 bnd (aB 2 x3 h0) fun v1 h1 =>
 bnd (aA v1 h1) fun v2 h2 =>
 bnd (r 24 [x0, v2] h2) fun v3 h3 =>
 bnd (aC 0 v3 h3) fun v4 h4 =>
 bnd (aC 1 v3 h4) fun v5 h5 =>
  aY r n v4 h5) (
  aOn r n x0 x3 x5 x9 h0)
noncomputable def bPg (r : RT) (n : Nat) (x0 x3 x5 x9 : DV) (h0 : Hp) : aG :=
 bnd (aD .eql x9 (.i .i64 (Int.ofNat 2)) h0) fun v1 h1 =>
  aTx r n x0 x3 x5 x9 v1 h1
noncomputable def aYv (r : RT) (n : Nat) (x0 x3 x5 x9 x19 : DV) (h0 : Hp) : aG :=
 aX x19 (
 bnd (aB 2 x3 h0) fun v1 h1 =>
 bnd (aA v1 h1) fun v2 h2 =>
 bnd (r 23 [x0, v2] h2) fun v3 h3 =>
 bnd (aC 0 v3 h3) fun v4 h4 =>
 bnd (aC 1 v3 h4) fun v5 h5 =>
  aY r n v4 h5) (
  bPg r n x0 x3 x5 x9 h0)
noncomputable def bQo (r : RT) (n : Nat) (x0 x3 x5 x9 : DV) (h0 : Hp) : aG :=
 bnd (aD .eql x9 (.i .i64 (Int.ofNat 1)) h0) fun v1 h1 =>
  aYv r n x0 x3 x5 x9 v1 h1
noncomputable def aTt (r : RT) (n : Nat) (x0 x3 x5 x9 x10 : DV) (h0 : Hp) : aG :=
 aX x10 (
 bnd (aB 1 x3 h0) fun v1 h1 =>
 bnd (aA v1 h1) fun v2 h2 =>
 bnd (r 22 [x0, v2] h2) fun v3 h3 =>
 bnd (aC 0 v3 h3) fun v4 h4 =>
 bnd (aC 1 v3 h4) fun v5 h5 =>
  aY r n v4 h5) (
  bQo r n x0 x3 x5 x9 h0)
noncomputable def aYw (r : RT) (n : Nat) (x0 x3 x5 x9 : DV) (h0 : Hp) : aG :=
 bnd (aD .eql x9 (.i .i64 (Int.ofNat 0)) h0) fun v1 h1 =>
  aTt r n x0 x3 x5 x9 v1 h1
noncomputable def aTh (r : RT) (n : Nat) (x0 x3 x5 : DV) (h0 : Hp) : aG :=
 bnd (aB 0 x3 h0) fun v1 h1 =>
 bnd (aA v1 h1) fun v2 h2 =>
  aYw r n x0 x3 x5 v2 h2
noncomputable def aBn (r : RT) (n : Nat) (x0 x3 : DV) (h0 : Hp) : aG :=
 aTh r n x0 x3 (.i .i64 (Int.ofNat 0)) h0
noncomputable def s11 (r : RT) (n : Nat) (x0 x1 : DV) (h0 : Hp) : aG :=
 bnd (cB x1 h0) fun v1 h1 =>
  aBn r n x0 v1 h1
noncomputable abbrev c11 : Code := cf Tryz.f11
noncomputable abbrev aVh : Code := cR c11
noncomputable abbrev aZn : Code := cR aVh
noncomputable abbrev dDr : Code := cR aZn
noncomputable abbrev aMp : Code := cL aZn
noncomputable abbrev bOp : Code := cR aMp
noncomputable abbrev aWh : Code := cL bOp
noncomputable abbrev aJx : Code := cR aWh
noncomputable abbrev aLv : Code := cR aJx
noncomputable abbrev aLa : Code := cR aLv
noncomputable abbrev wB : Code := cR aLa
noncomputable abbrev yA : Code := cR wB
noncomputable abbrev zM : Code := cR yA
noncomputable abbrev vW : Code := cR zM
noncomputable abbrev aAc : Code := cL vW
noncomputable abbrev aEl : Code := cR aAc
noncomputable abbrev cUn : Code := cR aEl
noncomputable abbrev xM : Code := cL aEl
noncomputable abbrev aPh : Code := cR xM
noncomputable abbrev aDw : Code := cL aPh
noncomputable abbrev nU : Code := cL aDw
noncomputable abbrev bJz : Code := cL xM
noncomputable abbrev bQq : Code := cL aAc
noncomputable abbrev cPj : Code := cR vW
noncomputable abbrev bDj : Code := cL zM
noncomputable abbrev cVw : Code := cL yA
noncomputable abbrev bQi : Code := cL wB
noncomputable abbrev cVh : Code := cL aLa
noncomputable abbrev bFo : Code := cL aLv
noncomputable abbrev cSq : Code := cL aJx
noncomputable abbrev bLy : Code := cL aWh
noncomputable abbrev bRc : Code := cL aMp
noncomputable abbrev bGe : Code := cL aVh
noncomputable abbrev aPz : Code := cL c11
noncomputable abbrev r11 : K := aS CF Tryz.f11
noncomputable def D11 (r : RT) (n : Nat) (c : Code) (X : Nat → K) (k : K) : K := aP CF r 93 n c X r11 k
theorem cTg : D11 r n dDr x0 r11 = (K1 (aY r n) 5) :=
 (by kernel_rfl)
theorem bVi : D11 r n cUn (xs x0 0 (K1 (aY r n) 5)) (K1 (aY r n) 5) = (K2 (eC r n) 0 6) :=
 (by kernel_rfl)
theorem bHp (kk16 : eY) (q0 : TT1) (q1 : uL) : D11 r n nU (xs (xs x0 0 (K1 q0 5)) 1 (K2 q1 0 6)) (K4 kk16 0 3 6 7) = fun (env : bF) (h : Hp) =>
 bnd (aB 3 (env 3) h) fun v1 h1 =>
 bnd (aA v1 h1) fun v2 h2 =>
 bnd (cO v2 h2) fun v3 h3 =>
 bnd (aD .lss (env 7) v3 h3) fun v4 h4 =>
 aX v4 (
 bnd (aB 3 (env 3) h4) fun v5 h5 =>
 bnd (aA v5 h5) fun v6 h6 =>
 bnd (aF 4 v6 (env 7) h6) fun v7 h7 =>
 bnd (aN 4 v7 h7) fun v8 h8 =>
 bnd (r 11 [(env 0), v8] h8) fun v9 h9 =>
 bnd (aJ [(.i .i64 (Int.ofNat 0))] 1 [(0, 1, v9)] h9) fun v10 h10 =>
 bnd (bB 1 8 (env 6) v10 h10) fun v11 h11 =>
 bnd (aD .add (env 7) (.i .i64 (Int.ofNat 1)) h11) fun v12 h12 =>
      kk16 (env 0) (env 3) v11 v12 h12) (
      q1 (env 0) (env 6) h4) := by kernel_rfl
theorem bBu (kk16 : eY) : (fun (env : bF) (h : Hp) =>
 bnd (aB 3 (env 3) h) fun v1 h1 =>
 bnd (aA v1 h1) fun v2 h2 =>
 bnd (cO v2 h2) fun v3 h3 =>
 bnd (aD .lss (env 7) v3 h3) fun v4 h4 =>
 aX v4 (
 bnd (aB 3 (env 3) h4) fun v5 h5 =>
 bnd (aA v5 h5) fun v6 h6 =>
 bnd (aF 4 v6 (env 7) h6) fun v7 h7 =>
 bnd (aN 4 v7 h7) fun v8 h8 =>
 bnd (r 11 [(env 0), v8] h8) fun v9 h9 =>
 bnd (aJ [(.i .i64 (Int.ofNat 0))] 1 [(0, 1, v9)] h9) fun v10 h10 =>
 bnd (bB 1 8 (env 6) v10 h10) fun v11 h11 =>
 bnd (aD .add (env 7) (.i .i64 (Int.ofNat 1)) h11) fun v12 h12 =>
      kk16 (env 0) (env 3) v11 v12 h12) (
      eC r n (env 0) (env 6) h4)) = (K4 (lZ r n kk16) 0 3 6 7) := by kernel_rfl
theorem bJf (kk16 : eY) : D11 r n nU (xs (xs x0 0 (K1 (aY r n) 5)) 1 (K2 (eC r n) 0 6)) (K4 kk16 0 3 6 7) = (K4 (lZ r n kk16) 0 3 6 7) :=
 (bHp r n kk16 (aY r n) (eC r n)).trans (bBu r n kk16)
theorem bPs (m : Nat) : aO (fun kk => D11 r n nU (xs (xs x0 0 (K1 (aY r n) 5)) 1 (K2 (eC r n) 0 6)) kk) m = (K4 (mI r n m) 0 3 6 7) := by
 induction m with
 | zero => exact (by kernel_rfl : aO (fun kk => D11 r n nU (xs (xs x0 0 (K1 (aY r n) 5)) 1 (K2 (eC r n) 0 6)) kk) 0 = (K4 (mI r n 0) 0 3 6 7))
 | succ m ih =>
  refine (by kernel_rfl : aO (fun kk => D11 r n nU (xs (xs x0 0 (K1 (aY r n) 5)) 1 (K2 (eC r n) 0 6)) kk) (m + 1) = D11 r n nU (xs (xs x0 0 (K1 (aY r n) 5)) 1 (K2 (eC r n) 0 6)) (aO (fun kk => D11 r n nU (xs (xs x0 0 (K1 (aY r n) 5)) 1 (K2 (eC r n) 0 6)) kk) m)).trans ?_
  rw [ih]
  exact (bJf r n (mI r n m)).trans (by kernel_rfl)
theorem cGx : D11 r n aDw (xs (xs x0 0 (K1 (aY r n) 5)) 1 (K2 (eC r n) 0 6)) (K2 (eC r n) 0 6) = (K4 (bDx r n) 0 3 6 7) :=
 (by kernel_rfl : D11 r n aDw (xs (xs x0 0 (K1 (aY r n) 5)) 1 (K2 (eC r n) 0 6)) (K2 (eC r n) 0 6) = aO (fun kk => D11 r n nU (xs (xs x0 0 (K1 (aY r n) 5)) 1 (K2 (eC r n) 0 6)) kk) n).trans ((bPs r n n).trans (by kernel_rfl))
theorem cGo : D11 r n aPh (xs x0 0 (K1 (aY r n) 5)) (K2 (eC r n) 0 6) = (K4 (aPw r n) 0 3 6 7) :=
 (by kernel_rfl : D11 r n aPh (xs x0 0 (K1 (aY r n) 5)) (K2 (eC r n) 0 6) = D11 r n aDw (xs (xs x0 0 (K1 (aY r n) 5)) 1 (K2 (eC r n) 0 6)) (K2 (eC r n) 0 6)).trans
 ((cGx r n).trans (by kernel_rfl))
theorem bIp : D11 r n aEl (xs x0 0 (K1 (aY r n) 5)) (K1 (aY r n) 5) = D11 r n xM (xs x0 0 (K1 (aY r n) 5)) (K2 (eC r n) 0 6) :=
 congrArg (fun k => D11 r n xM (xs x0 0 (K1 (aY r n) 5)) k) (bVi r n)
theorem bLm : D11 r n xM (xs x0 0 (K1 (aY r n) 5)) (K2 (eC r n) 0 6) = D11 r n bJz (xs x0 0 (K1 (aY r n) 5)) (K4 (aPw r n) 0 3 6 7) :=
 congrArg (fun k => D11 r n bJz (xs x0 0 (K1 (aY r n) 5)) k) (cGo r n)
theorem cGb : D11 r n aEl (xs x0 0 (K1 (aY r n) 5)) (K1 (aY r n) 5) = (K3 (aOd r n) 0 3 6) :=
 (bIp r n).trans
 ((bLm r n).trans
 ((by kernel_rfl)))
theorem bIi : D11 r n aAc (xs x0 0 (K1 (aY r n) 5)) (K1 (aY r n) 5) = D11 r n bQq (xs x0 0 (K1 (aY r n) 5)) (K3 (aOd r n) 0 3 6) :=
 congrArg (fun k => D11 r n bQq (xs x0 0 (K1 (aY r n) 5)) k) (cGb r n)
theorem bUx : D11 r n aAc (xs x0 0 (K1 (aY r n) 5)) (K1 (aY r n) 5) = (K2 (bJb r n) 0 3) :=
 (bIi r n).trans
 ((by kernel_rfl))
theorem cFm : D11 r n vW (xs x0 0 (K1 (aY r n) 5)) (K1 (aY r n) 5) = (K5 (aIm r n) 0 3 5 9 37) :=
 (by kernel_rfl : D11 r n vW (xs x0 0 (K1 (aY r n) 5)) (K1 (aY r n) 5) = (fun (env : bF) (h : Hp) => aX (opr env (cC vW)) (D11 r n aAc (xs x0 0 (K1 (aY r n) 5)) (K1 (aY r n) 5) env h) (D11 r n cPj (xs x0 0 (K1 (aY r n) 5)) (K1 (aY r n) 5) env h))).trans (by rw [bUx r n]; kernel_rfl)
theorem bKi : D11 r n zM (xs x0 0 (K1 (aY r n) 5)) (K1 (aY r n) 5) = D11 r n bDj (xs x0 0 (K1 (aY r n) 5)) (K5 (aIm r n) 0 3 5 9 37) :=
 congrArg (fun k => D11 r n bDj (xs x0 0 (K1 (aY r n) 5)) k) (cFm r n)
theorem cGc : D11 r n zM (xs x0 0 (K1 (aY r n) 5)) (K1 (aY r n) 5) = (K4 (aOn r n) 0 3 5 9) :=
 (bKi r n).trans
 ((by kernel_rfl))
theorem cOp : D11 r n yA (xs x0 0 (K1 (aY r n) 5)) (K1 (aY r n) 5) = (K5 (aTx r n) 0 3 5 9 28) :=
 (by kernel_rfl : D11 r n yA (xs x0 0 (K1 (aY r n) 5)) (K1 (aY r n) 5) = (fun (env : bF) (h : Hp) => aX (opr env (cC yA)) (D11 r n cVw (xs x0 0 (K1 (aY r n) 5)) (K1 (aY r n) 5) env h) (D11 r n zM (xs x0 0 (K1 (aY r n) 5)) (K1 (aY r n) 5) env h))).trans (by rw [cGc r n]; kernel_rfl)
theorem bYh : D11 r n wB (xs x0 0 (K1 (aY r n) 5)) (K1 (aY r n) 5) = D11 r n bQi (xs x0 0 (K1 (aY r n) 5)) (K5 (aTx r n) 0 3 5 9 28) :=
 congrArg (fun k => D11 r n bQi (xs x0 0 (K1 (aY r n) 5)) k) (cOp r n)
theorem cTo : D11 r n wB (xs x0 0 (K1 (aY r n) 5)) (K1 (aY r n) 5) = (K4 (bPg r n) 0 3 5 9) :=
 (bYh r n).trans
 ((by kernel_rfl))
theorem cPm : D11 r n aLa (xs x0 0 (K1 (aY r n) 5)) (K1 (aY r n) 5) = (K5 (aYv r n) 0 3 5 9 19) :=
 (by kernel_rfl : D11 r n aLa (xs x0 0 (K1 (aY r n) 5)) (K1 (aY r n) 5) = (fun (env : bF) (h : Hp) => aX (opr env (cC aLa)) (D11 r n cVh (xs x0 0 (K1 (aY r n) 5)) (K1 (aY r n) 5) env h) (D11 r n wB (xs x0 0 (K1 (aY r n) 5)) (K1 (aY r n) 5) env h))).trans (by rw [cTo r n]; kernel_rfl)
theorem bTp : D11 r n aLv (xs x0 0 (K1 (aY r n) 5)) (K1 (aY r n) 5) = D11 r n bFo (xs x0 0 (K1 (aY r n) 5)) (K5 (aYv r n) 0 3 5 9 19) :=
 congrArg (fun k => D11 r n bFo (xs x0 0 (K1 (aY r n) 5)) k) (cPm r n)
theorem cOr : D11 r n aLv (xs x0 0 (K1 (aY r n) 5)) (K1 (aY r n) 5) = (K4 (bQo r n) 0 3 5 9) :=
 (bTp r n).trans
 ((by kernel_rfl))
theorem cPp : D11 r n aJx (xs x0 0 (K1 (aY r n) 5)) (K1 (aY r n) 5) = (K5 (aTt r n) 0 3 5 9 10) :=
 (by kernel_rfl : D11 r n aJx (xs x0 0 (K1 (aY r n) 5)) (K1 (aY r n) 5) = (fun (env : bF) (h : Hp) => aX (opr env (cC aJx)) (D11 r n cSq (xs x0 0 (K1 (aY r n) 5)) (K1 (aY r n) 5) env h) (D11 r n aLv (xs x0 0 (K1 (aY r n) 5)) (K1 (aY r n) 5) env h))).trans (by rw [cOr r n]; kernel_rfl)
theorem bVx : D11 r n aWh (xs x0 0 (K1 (aY r n) 5)) (K1 (aY r n) 5) = D11 r n bLy (xs x0 0 (K1 (aY r n) 5)) (K5 (aTt r n) 0 3 5 9 10) :=
 congrArg (fun k => D11 r n bLy (xs x0 0 (K1 (aY r n) 5)) k) (cPp r n)
theorem cWl : D11 r n bOp x0 (K1 (aY r n) 5) = (K4 (aYw r n) 0 3 5 9) :=
 (by kernel_rfl : D11 r n bOp x0 (K1 (aY r n) 5) = D11 r n aWh (xs x0 0 (K1 (aY r n) 5)) (K1 (aY r n) 5)).trans
 ((bVx r n).trans
 ((by kernel_rfl)))
theorem cFc : D11 r n aZn x0 r11 = D11 r n aMp x0 (K1 (aY r n) 5) :=
 congrArg (fun k => D11 r n aMp x0 k) (cTg r n)
theorem bHe : D11 r n aMp x0 (K1 (aY r n) 5) = D11 r n bRc x0 (K4 (aYw r n) 0 3 5 9) :=
 congrArg (fun k => D11 r n bRc x0 k) (cWl r n)
theorem cOt : D11 r n aZn x0 r11 = (K3 (aTh r n) 0 3 5) :=
 (cFc r n).trans
 ((bHe r n).trans
 ((by kernel_rfl)))
theorem bTd : D11 r n aVh x0 r11 = D11 r n bGe x0 (K3 (aTh r n) 0 3 5) :=
 congrArg (fun k => D11 r n bGe x0 k) (cOt r n)
theorem cRn : D11 r n aVh x0 r11 = (K2 (aBn r n) 0 3) :=
 (bTd r n).trans
 ((by kernel_rfl))
theorem cRk : D11 r n c11 x0 r11 = D11 r n aPz x0 (K2 (aBn r n) 0 3) :=
 congrArg (fun k => D11 r n aPz x0 k) (cRn r n)
theorem cTs (q0 : uL) : D11 r n aPz x0 (K2 q0 0 3) = fun (env : bF) (h : Hp) =>
 bnd (cB (env 1) h) fun v1 h1 =>
  q0 (env 0) v1 h1 := by kernel_rfl
theorem cFw : (fun (env : bF) (h : Hp) =>
 bnd (cB (env 1) h) fun v1 h1 =>
  aBn r n (env 0) v1 h1) = (K2 (s11 r n) 0 1) := by kernel_rfl
theorem dEo : D11 r n c11 x0 r11 = (K2 (s11 r n) 0 1) :=
 (cRk r n).trans
 ((cTs r n (aBn r n)).trans (cFw r n))
theorem cJb : aE CF r n 11 args h = s11 r n (aT args 0) (aT args 1) h :=
 (by kernel_rfl : aE CF r n 11 args h = D11 r n c11 x0 r11 (aH args) h).trans ((congrFun (congrFun (dEo r n) (aH args)) h).trans (by kernel_rfl))
noncomputable def s12 (r : RT) (n : Nat) (x0 : DV) (h0 : Hp) : aG :=
 bnd (cB x0 h0) fun v1 h1 =>
 bnd (aN 4 v1 h1) fun v2 h2 =>
 bnd (r 28 [v2, (.i .i64 (Int.ofNat 0))] h2) fun v3 h3 =>
 bnd (dI v3 h3) fun v4 h4 =>
 bnd (aD .gtr v4 (.i .i64 (Int.ofNat 1000)) h4) fun v5 h5 =>
 aX v5 (
 bnd (dY v3 none (some (.i .i64 (Int.ofNat 1000))) h5) fun v6 h6 =>
 some (v6, h6)) (
 some (v3, h5))
noncomputable abbrev c12 : Code := cf Tryz.f12
noncomputable abbrev r12 : K := aS CF Tryz.f12
noncomputable def D12 (r : RT) (n : Nat) (c : Code) (X : Nat → K) (k : K) : K := aP CF r 12 n c X r12 k
theorem dFx : D12 r n c12 x0 r12 = (K1 (s12 r n) 0) :=
 (by kernel_rfl)
theorem cJf : aE CF r n 12 args h = s12 r n (aT args 0) h :=
 (by kernel_rfl : aE CF r n 12 args h = D12 r n c12 x0 r12 (aH args) h).trans ((congrFun (congrFun (dFx r n) (aH args)) h).trans (by kernel_rfl))
noncomputable def s13 (r : RT) (n : Nat) (h0 : Hp) : aG :=
 bnd (r 8 [] h0) fun v1 h1 =>
 bnd (pEq (.pointer 58) true v1 .p0 h1) fun v2 h2 =>
 aX v2 (
 some ((.b false), h2)) (
 bnd (r 23 [v1, (.s [105, 116, 39, 115])] h2) fun v3 h3 =>
 bnd (aC 0 v3 h3) fun v4 h4 =>
 bnd (aC 1 v3 h4) fun v5 h5 =>
 bnd (r 24 [v1, (.s [97, 116, 58, 112, 117, 116, 58])] h5) fun v6 h6 =>
 bnd (aC 0 v6 h6) fun v7 h7 =>
 bnd (aC 1 v6 h7) fun v8 h8 =>
 bnd (r 14 [v1] h8) fun v9 h9 =>
 bnd (r 26 [v1, (.s [80, 111, 105, 110, 116])] h9) fun v10 h10 =>
 bnd (jQ [v9, v10, (.i .i64 (Int.ofNat 0)), (.i .i64 (Int.ofNat 2))] h10) fun v11 h11 =>
 bnd (aC 0 v11 h11) fun v12 h12 =>
 bnd (aC 1 v11 h12) fun v13 h13 =>
 bnd (r 10 [v1, (.i .i64 (Int.negSucc 8))] h13) fun v14 h14 =>
 bnd (dA .eql v14 (.s [45, 53]) h14) fun v15 h15 =>
 bnd (gD v15 true (some (v1, h15)) h15) fun v16 h16 =>
 bnd (gD v15 true (some (v4, h16)) h16) fun v17 h17 =>
 bnd (gD v15 true (r 10 [v16, v17] h17) h17) fun v18 h18 =>
 bnd (gD v15 true (dA .eql v18 (.s [39, 105, 116, 39, 39, 115, 39]) h18) h18) fun v19 h19 =>
 bnd (aQ v15 v19 (.b false) h19) fun v20 h20 =>
 bnd (gD v20 true (some (v1, h20)) h20) fun v21 h21 =>
 bnd (gD v20 true (some (v7, h21)) h21) fun v22 h22 =>
 bnd (gD v20 true (r 10 [v21, v22] h22) h22) fun v23 h23 =>
 bnd (gD v20 true (dA .eql v23 (.s [35, 97, 116, 58, 112, 117, 116, 58]) h23) h23) fun v24 h24 =>
 bnd (aQ v20 v24 (.b false) h24) fun v25 h25 =>
 bnd (gD v25 true (some (v1, h25)) h25) fun v26 h26 =>
 bnd (gD v25 true (some (v1, h26)) h26) fun v27 h27 =>
 bnd (gD v25 true (r 27 [v27, (.i .i64 (Int.ofNat 6))] h27) h27) fun v28 h28 =>
 bnd (gD v25 true (r 10 [v26, v28] h28) h28) fun v29 h29 =>
 bnd (gD v25 true (dA .eql v29 (.s [73, 110, 116, 101, 103, 101, 114]) h29) h29) fun v30 h30 =>
 bnd (aQ v25 v30 (.b false) h30) fun v31 h31 =>
 bnd (gD v31 true (some (v1, h31)) h31) fun v32 h32 =>
 bnd (gD v31 true (some (v12, h32)) h32) fun v33 h33 =>
 bnd (gD v31 true (r 10 [v32, v33] h33) h33) fun v34 h34 =>
 bnd (gD v31 true (dA .eql v34 (.s [97, 32, 80, 111, 105, 110, 116]) h34) h34) fun v35 h35 =>
 bnd (aQ v31 v35 (.b false) h35) fun v36 h36 =>
 bnd (gD v36 true (some (v1, h36)) h36) fun v37 h37 =>
 bnd (gD v36 true (r 10 [v37, (.i .i64 (Int.ofNat 0))] h37) h37) fun v38 h38 =>
 bnd (gD v36 true (dA .eql v38 (.s [110, 105, 108]) h38) h38) fun v39 h39 =>
 bnd (aQ v36 v39 (.b false) h39) fun v40 h40 =>
 some (v40, h40))
noncomputable abbrev c13 : Code := cf Tryz.f13
noncomputable abbrev r13 : K := aS CF Tryz.f13
noncomputable def D13 (r : RT) (n : Nat) (c : Code) (X : Nat → K) (k : K) : K := aP CF r 62 n c X r13 k
theorem dIq : D13 r n c13 x0 r13 = (K0 (s13 r n)) :=
 (by kernel_rfl)
theorem cJc : aE CF r n 13 args h = s13 r n h :=
 (by kernel_rfl : aE CF r n 13 args h = D13 r n c13 x0 r13 (aH args) h).trans ((congrFun (congrFun (dIq r n) (aH args)) h).trans (by kernel_rfl))
noncomputable def s14 (r : RT) (n : Nat) (x0 : DV) (h0 : Hp) : aG :=
 bnd (bD x0 h0) fun v1 h1 =>
 bnd (aB 0 v1 h1) fun v2 h2 =>
 bnd (aA v2 h2) fun v3 h3 =>
 some (v3, h3)
noncomputable abbrev c14 : Code := cf Tryz.f14
noncomputable abbrev r14 : K := aS CF Tryz.f14
noncomputable def D14 (r : RT) (n : Nat) (c : Code) (X : Nat → K) (k : K) : K := aP CF r 7 n c X r14 k
theorem dIf : D14 r n c14 x0 r14 = (K1 (s14 r n) 0) :=
 (by kernel_rfl)
theorem cJw : aE CF r n 14 args h = s14 r n (aT args 0) h :=
 (by kernel_rfl : aE CF r n 14 args h = D14 r n c14 x0 r14 (aH args) h).trans ((congrFun (congrFun (dIf r n) (aH args)) h).trans (by kernel_rfl))
noncomputable def s16 (r : RT) (n : Nat) (x0 x1 : DV) (h0 : Hp) : aG :=
 bnd (cB x0 h0) fun v1 h1 =>
 bnd (cO x1 h1) fun v2 h2 =>
 bnd (aD .gtr v2 (.i .i64 (Int.ofNat 250)) h2) fun v3 h3 =>
 bnd (gD v3 false (some (x1, h3)) h3) fun v4 h4 =>
 bnd (gD v3 false (some ((.f 32 [] [v1]), h4)) h4) fun v5 h5 =>
 bnd (gD v3 false (r 31 [v4, v5] h5) h5) fun v6 h6 =>
 bnd (aQ v3 (.b true) v6 h6) fun v7 h7 =>
 aX v7 (
 some (.t [(.i .i64 (Int.ofNat 0)), (.i .i64 (Int.ofNat 1))], h7)) (
 bnd (aA v1 h7) fun v8 h8 =>
 bnd (aA v1 h8) fun v9 h9 =>
 bnd (r 27 [v9, (.i .i64 (Int.ofNat 9))] h9) fun v10 h10 =>
 cnd (bQ (aA v1 h10) v8 && true) (
 bnd (r 33 [v8, v10, (.i .i64 (Int.ofNat 0)), x1] h10) fun v11 h11 =>
 bnd (aC 0 v11 h11) fun v12 h12 =>
 bnd (aC 1 v11 h12) fun v13 h13 =>
 some (.t [v12, v13], h13)))
noncomputable abbrev c16 : Code := cf Tryz.f16
noncomputable abbrev r16 : K := aS CF Tryz.f16
noncomputable def D16 (r : RT) (n : Nat) (c : Code) (X : Nat → K) (k : K) : K := aP CF r 21 n c X r16 k
theorem dHu : D16 r n c16 x0 r16 = (K2 (s16 r n) 0 1) :=
 (by kernel_rfl)
theorem cIg : aE CF r n 16 args h = s16 r n (aT args 0) (aT args 1) h :=
 (by kernel_rfl : aE CF r n 16 args h = D16 r n c16 x0 r16 (aH args) h).trans ((congrFun (congrFun (dHu r n) (aH args)) h).trans (by kernel_rfl))
noncomputable def fM (r : RT) (n : Nat) (x5 : DV) (h0 : Hp) : aG :=
 some (.t [x5, (aK 0)], h0)
noncomputable def lB (r : RT) (n : Nat) (kk9 : eY) (x5 x155 x156 x157 : DV) (h0 : Hp) : aG :=
 bnd (aD .lss x157 x156 h0) fun v1 h1 =>
 aX v1 (
 bnd (aF 1 x155 x157 h1) fun v2 h2 =>
 bnd (aA v2 h2) fun v3 h3 =>
 bnd (aF 1 v3 (aK 0) h3) fun v4 h4 =>
 bnd (aA v4 h4) fun v5 h5 =>
 bnd (aF 1 v3 (aK 1) h5) fun v6 h6 =>
 bnd (aA v6 h6) fun v7 h7 =>
 bnd (r 42 [x5, v5, v7] h7) fun v8 h8 =>
 bnd (aC 0 v8 h8) fun v9 h9 =>
 bnd (aC 1 v8 h9) fun v10 h10 =>
 bnd (aC 2 v8 h10) fun v11 h11 =>
 bnd (aC 3 v8 h11) fun v12 h12 =>
 bnd (aD .neq v12 (aK 0) h12) fun v13 h13 =>
 aX v13 (
 some (.t [.p0, v12], h13)) (
 bnd (aD .add x157 (aK 1) h13) fun v14 h14 =>
    kk9 x5 x155 x156 v14 h14)) (
      fM r n x5 h1)
noncomputable def lE (r : RT) (n : Nat) (m : Nat) : eY :=
 Nat.rec (motive := fun _ => eY) (fun _ _ _ _ _ => none) (fun _ ih => lB r n ih) m
noncomputable def aTw (r : RT) (n : Nat) : eY := lE r n n
noncomputable def bDr (r : RT) (n : Nat) (x5 x155 x156 x157 : DV) (h0 : Hp) : aG :=
 aTw r n x5 x155 x156 x157 h0
noncomputable def bH (r : RT) (n : Nat) (x5 : DV) (h0 : Hp) : aG :=
 bnd (r 41 [] h0) fun v1 h1 =>
 bnd (cO v1 h1) fun v2 h2 =>
  bDr r n x5 v1 v2 (aK 0) h2
noncomputable def bA (r : RT) (n : Nat) (kk11 : cZ) (x4 x5 x59 x60 x61 : DV) (h0 : Hp) : aG :=
 bnd (aD .add x61 (aK 1) h0) fun v1 h1 =>
  kk11 x4 x5 x59 x60 v1 h1
noncomputable def fE (r : RT) (n : Nat) (kk11 : cZ) (x4 x5 x8 x9 x59 x60 x61 : DV) (h0 : Hp) : aG :=
 bnd (bD x5 h0) fun v1 h1 =>
 bnd (aB 1 v1 h1) fun v2 h2 =>
 bnd (aA v2 h2) fun v3 h3 =>
 bnd (bD x5 h3) fun v4 h4 =>
 bnd (aB 1 v4 h4) fun v5 h5 =>
 bnd (aA v5 h5) fun v6 h6 =>
 bnd (aF 1 v6 (aK 1) h6) fun v7 h7 =>
 bnd (aA v7 h7) fun v8 h8 =>
 bnd (r 40 [x5, x9, v8] h8) fun v9 h9 =>
 cnd (bQ (aA v2 h9) v3 && true) (
 bnd (aC 0 v9 h9) fun v10 h10 =>
 bnd (aC 1 v9 h10) fun v11 h11 =>
 bnd (aF 1 v3 (aK 1) h11) fun v12 h12 =>
 bnd (aI 1 v12 v10 h12) fun v13 h13 =>
 bnd (bD x5 h13) fun v14 h14 =>
 bnd (aB 3 v14 h14) fun v15 h15 =>
 bnd (aA v15 h15) fun v16 h16 =>
 bnd (aB 0 x8 h16) fun v17 h17 =>
 bnd (aA v17 h17) fun v18 h18 =>
 bnd (gP .string v16 v18 x9 h18) fun v19 h19 =>
  bA r n kk11 x4 x5 x59 x60 x61 h19)
noncomputable def aSi (r : RT) (n : Nat) (kk11 : cZ) (kk25 : aOy) (x4 x5 x8 x9 x59 x60 x61 x117 x118 x119 : DV) (h0 : Hp) : aG :=
 bnd (aD .lss x119 x118 h0) fun v1 h1 =>
 aX v1 (
 bnd (aF 1 x117 x119 h1) fun v2 h2 =>
 bnd (aA v2 h2) fun v3 h3 =>
 bnd (wX [x4, x9, x119, v3] h3) fun v4 h4 =>
 bnd (aD .add x119 (aK 1) h4) fun v5 h5 =>
      kk25 x4 x5 x8 x9 x59 x60 x61 x117 x118 v5 h5) (
      fE r n kk11 x4 x5 x8 x9 x59 x60 x61 h1)
noncomputable def vG (r : RT) (n : Nat) (kk11 : cZ) (m : Nat) : aOy :=
 Nat.rec (motive := fun _ => aOy) (fun _ _ _ _ _ _ _ _ _ _ _ => none) (fun _ ih => aSi r n kk11 ih) m
noncomputable def bSd (r : RT) (n : Nat) (kk11 : cZ) : aOy := vG r n kk11 n
noncomputable def zS (r : RT) (n : Nat) (kk11 : cZ) (x4 x5 x8 x9 x59 x60 x61 x117 x118 x119 : DV) (h0 : Hp) : aG :=
 bSd r n kk11 x4 x5 x8 x9 x59 x60 x61 x117 x118 x119 h0
noncomputable def aFj (r : RT) (n : Nat) (kk11 : cZ) (x4 x5 x8 x9 x10 x12 x13 x19 x59 x60 x61 : DV) (h0 : Hp) : aG :=
 bnd (r 39 [x13] (resv 1 h0)) fun v1 h1 =>
 bnd (aB 2 x8 h1) fun v2 h2 =>
 bnd (aA v2 h2) fun v3 h3 =>
 cnd (bQ (aA v2 (resv 1 h0)) v3 && true) (
 bnd (r 39 [v3] h3) fun v4 h4 =>
 bnd (bY (cH 0 h0.next) [(aK 0), (aK 0), (aK 0), (aK 0), (aK 0), (aK 0)] 6 [(0, 1, x10), (1, 1, x12), (2, 1, v1), (3, 1, x19), (4, 1, (aK 0)), (5, 1, v4)] h4) fun v5 h5 =>
 bnd (cO v5 h5) fun v6 h6 =>
  zS r n kk11 x4 x5 x8 x9 x59 x60 x61 v5 v6 (aK 0) h6)
noncomputable def pJ (r : RT) (n : Nat) (kk11 : cZ) (x4 x5 x8 x9 x10 x12 x13 x14 x59 x60 x61 : DV) (h0 : Hp) : aG :=
 bnd (r 16 [x5, x14] h0) fun v1 h1 =>
 bnd (aC 0 v1 h1) fun v2 h2 =>
 bnd (aC 1 v1 h2) fun v3 h3 =>
  aFj r n kk11 x4 x5 x8 x9 x10 x12 x13 v2 x59 x60 x61 h3
noncomputable def wC (r : RT) (n : Nat) (kk11 : cZ) (x4 x5 x7 x8 x9 x10 x12 x13 x14 x59 x60 x61 : DV) (h0 : Hp) : aG :=
 bnd (aD .eql x7 (aK 15) h0) fun v1 h1 =>
 aX v1 (
 bnd (r 24 [x5, (.s [115, 101, 108, 101, 99, 116, 111, 114])] h1) fun v2 h2 =>
 bnd (aC 0 v2 h2) fun v3 h3 =>
 bnd (aC 1 v2 h3) fun v4 h4 =>
 bnd (r 24 [x5, (.s [97, 114, 103, 117, 109, 101, 110, 116, 115])] h4) fun v5 h5 =>
 bnd (aC 0 v5 h5) fun v6 h6 =>
 bnd (aC 1 v5 h6) fun v7 h7 =>
 bnd (aJ [(aK 0), (aK 0)] 2 [(0, 1, v3), (1, 1, v6)] h7) fun v8 h8 =>
  pJ r n kk11 x4 x5 x8 x9 x10 x12 (aK 2) v8 x59 x60 x61 h8) (
  pJ r n kk11 x4 x5 x8 x9 x10 x12 x13 x14 x59 x60 x61 h1)
noncomputable def aPl (r : RT) (n : Nat) (kk11 : cZ) (x4 x5 x7 x8 x9 x10 x12 x13 x14 x59 x60 x61 : DV) (h0 : Hp) : aG :=
 bnd (aB 1 x8 h0) fun v1 h1 =>
 bnd (aA v1 h1) fun v2 h2 =>
 bnd (aD .geq v2 (aK 0) h2) fun v3 h3 =>
 aX v3 (
 bnd (aB 1 x8 h3) fun v4 h4 =>
 bnd (aA v4 h4) fun v5 h5 =>
 bnd (r 27 [x5, v5] h5) fun v6 h6 =>
  wC r n kk11 x4 x5 x7 x8 x9 x10 v6 x13 x14 x59 x60 x61 h6) (
  wC r n kk11 x4 x5 x7 x8 x9 x10 x12 x13 x14 x59 x60 x61 h3)
noncomputable def aOg (r : RT) (n : Nat) (kk11 : cZ) (x4 x5 x7 x8 x9 x10 x59 x60 x61 : DV) (h0 : Hp) : aG :=
 aPl r n kk11 x4 x5 x7 x8 x9 x10 (aK 0) (aK 0) .l0 x59 x60 x61 h0
noncomputable def aPi (r : RT) (n : Nat) (kk11 : cZ) (x4 x5 x7 x8 x9 x59 x60 x61 : DV) (h0 : Hp) : aG :=
 bnd (aB 0 x8 h0) fun v1 h1 =>
 bnd (aA v1 h1) fun v2 h2 =>
 bnd (r 24 [x5, v2] h2) fun v3 h3 =>
 bnd (aC 0 v3 h3) fun v4 h4 =>
 bnd (aC 1 v3 h4) fun v5 h5 =>
  aOg r n kk11 x4 x5 x7 x8 x9 v4 x59 x60 x61 h5
noncomputable def aMv (r : RT) (n : Nat) (kk11 : cZ) (x4 x5 x7 x8 x9 x59 x60 x61 : DV) (h0 : Hp) : aG :=
 bnd (r 27 [x5, (aK 1)] h0) fun v1 h1 =>
 bnd (lQ [x4, x9, v1] h1) fun v2 h2 =>
  aPi r n kk11 x4 x5 x7 x8 x9 x59 x60 x61 h2
noncomputable def aAa (r : RT) (n : Nat) (kk11 : cZ) (x4 x5 x7 x8 x59 x60 x61 : DV) (h0 : Hp) : aG :=
 bnd (r 27 [x5, x7] h0) fun v1 h1 =>
  aMv r n kk11 x4 x5 x7 x8 v1 x59 x60 x61 h1
noncomputable def aIo (r : RT) (n : Nat) (kk11 : cZ) (x4 x5 x59 x60 x61 : DV) (h0 : Hp) : aG :=
 bnd (aF 3 x59 x61 h0) fun v1 h1 =>
 bnd (aN 3 v1 h1) fun v2 h2 =>
 bnd (cF [(.s []), (aK 0), (aK 0)] h2) fun v3 h3 =>
 bnd (aI 3 v3 v2 h3) fun _ h4 =>
  aAa r n kk11 x4 x5 x61 v3 x59 x60 x61 h4
noncomputable def aNo (r : RT) (n : Nat) (kk11 : cZ) (x4 x5 x59 x60 x61 x62 : DV) (h0 : Hp) : aG :=
 aX x62 (
  aIo r n kk11 x4 x5 x59 x60 x61 h0) (
  bH r n x5 h0)
noncomputable def aSf (r : RT) (n : Nat) (kk11 : cZ) (x4 x5 x59 x60 x61 : DV) (h0 : Hp) : aG :=
 bnd (aD .lss x61 x60 h0) fun v1 h1 =>
  aNo r n kk11 x4 x5 x59 x60 x61 v1 h1
noncomputable def vP (r : RT) (n : Nat) (m : Nat) : cZ :=
 Nat.rec (motive := fun _ => cZ) (fun _ _ _ _ _ _ => none) (fun _ ih => aSf r n ih) m
noncomputable def bJa (r : RT) (n : Nat) : cZ := vP r n n
noncomputable def aQy (r : RT) (n : Nat) (x4 x5 x59 x60 x61 : DV) (h0 : Hp) : aG :=
 bJa r n x4 x5 x59 x60 x61 h0
noncomputable def gZ (r : RT) (n : Nat) (x4 x5 : DV) (h0 : Hp) : aG :=
 bnd (r 37 [] h0) fun v1 h1 =>
 bnd (cO v1 h1) fun v2 h2 =>
  aQy r n x4 x5 v1 v2 (aK 0) h2
noncomputable def aSt (r : RT) (n : Nat) (kk27 : mE) (x4 x5 x43 : DV) (h0 : Hp) : aG :=
 bnd (aD .lss x43 (aK 16) h0) fun v1 h1 =>
 aX v1 (
 bnd (bD x5 h1) fun v2 h2 =>
 bnd (aB 1 v2 h2) fun v3 h3 =>
 bnd (aA v3 h3) fun v4 h4 =>
 bnd (aD .add (aK 2) x43 h4) fun v5 h5 =>
 bnd (jQ [x4, (aK 0), (aK 0), (aK 6)] h5) fun v6 h6 =>
 cnd (bQ (aA v3 h6) v4 && true) (
 bnd (aC 0 v6 h6) fun v7 h7 =>
 bnd (aC 1 v6 h7) fun v8 h8 =>
 bnd (aF 1 v4 v5 h8) fun v9 h9 =>
 bnd (aI 1 v9 v7 h9) fun v10 h10 =>
 bnd (aD .add x43 (aK 1) h10) fun v11 h11 =>
      kk27 x4 x5 v11 h11)) (
      gZ r n x4 x5 h1)
noncomputable def uQ (r : RT) (n : Nat) (m : Nat) : mE :=
 Nat.rec (motive := fun _ => mE) (fun _ _ _ _ => none) (fun _ ih => aSt r n ih) m
noncomputable def bFa (r : RT) (n : Nat) : mE := uQ r n n
noncomputable def aNp (r : RT) (n : Nat) (x4 x5 x43 : DV) (h0 : Hp) : aG :=
 bFa r n x4 x5 x43 h0
noncomputable def aJg (r : RT) (n : Nat) (x4 x5 : DV) (h0 : Hp) : aG :=
 aNp r n x4 x5 (aK 0) h0
noncomputable def aTe (r : RT) (n : Nat) (x4 : DV) (h0 : Hp) : aG :=
 bnd (cJ 1 8 [(aK 0)] (aK 18) (aK 18) h0) fun v1 h1 =>
 bnd (eE h1) fun v2 h2 =>
 bnd (eE h2) fun v3 h3 =>
 bnd (cI [.p0, .l0, .m0, .m0] [(0, 1, x4), (1, 1, v1), (2, 1, v2), (3, 1, v3)] h3) fun v4 h4 =>
 bnd (cB v4 h4) fun v5 h5 =>
  aJg r n x4 v5 h5
noncomputable def bFp (r : RT) (n : Nat) (x0 x4 : DV) (h0 : Hp) : aG :=
 bnd (pEq (.pointer 64) true x4 .p0 h0) fun v1 h1 =>
 aX v1 (
 some (.t [.p0, (aK 1)], h1)) (
 bnd (aD .lss x0 (aK 16384) h1) fun v2 h2 =>
 aX v2 (
 some (.t [.p0, (aK 4)], h2)) (
   aTe r n x4 h2))
noncomputable def bJx (r : RT) (n : Nat) (x0 : DV) (h0 : Hp) : aG :=
 bnd (aOi [x0] h0) fun v1 h1 =>
  bFp r n x0 v1 h1
noncomputable def s19 (r : RT) (n : Nat) (x0 : DV) (h0 : Hp) : aG :=
 bJx r n x0 h0
noncomputable abbrev c19 : Code := cf Tryz.f19
noncomputable abbrev aTa : Code := cR c19
noncomputable abbrev aSc : Code := cR aTa
noncomputable abbrev aZe : Code := cR aSc
noncomputable abbrev aYd : Code := cR aZe
noncomputable abbrev aXa : Code := cR aYd
noncomputable abbrev aUy : Code := cR aXa
noncomputable abbrev dBw : Code := cR aUy
noncomputable abbrev aJf : Code := cL aUy
noncomputable abbrev bOu : Code := cR aJf
noncomputable abbrev aIl : Code := cL bOu
noncomputable abbrev pM : Code := cL aIl
noncomputable abbrev bMy : Code := cL aJf
noncomputable abbrev wN : Code := cL aXa
noncomputable abbrev aQw : Code := cR wN
noncomputable abbrev aGr : Code := cL aQw
noncomputable abbrev lH : Code := cL aGr
noncomputable abbrev aEf : Code := cR lH
noncomputable abbrev aGi : Code := cR aEf
noncomputable abbrev cSj : Code := cR aGi
noncomputable abbrev aEz : Code := cL aGi
noncomputable abbrev aFd : Code := cL aEz
noncomputable abbrev aIn : Code := cR aFd
noncomputable abbrev aCq : Code := cR aIn
noncomputable abbrev aEa : Code := cR aCq
noncomputable abbrev aGz : Code := cR aEa
noncomputable abbrev aFn : Code := cR aGz
noncomputable abbrev aEo : Code := cR aFn
noncomputable abbrev aFo : Code := cR aEo
noncomputable abbrev aHl : Code := cR aFo
noncomputable abbrev cQy : Code := cR aHl
noncomputable abbrev vY : Code := cL aHl
noncomputable abbrev aRf : Code := cR vY
noncomputable abbrev aDk : Code := cL aRf
noncomputable abbrev pH : Code := cL aDk
noncomputable abbrev aPb : Code := cL vY
noncomputable abbrev bQw : Code := cL aFo
noncomputable abbrev aRl : Code := cL aEo
noncomputable abbrev bTo : Code := cL aFn
noncomputable abbrev bOi : Code := cL aGz
noncomputable abbrev bPp : Code := cL aEa
noncomputable abbrev bIf : Code := cL aCq
noncomputable abbrev bSe : Code := cL aIn
noncomputable abbrev aPn : Code := cL aFd
noncomputable abbrev bSt : Code := cL aEf
noncomputable abbrev bKx : Code := cL lH
noncomputable abbrev bNe : Code := cL wN
noncomputable abbrev yR : Code := cL aYd
noncomputable abbrev aQq : Code := cR yR
noncomputable abbrev aGj : Code := cL aQq
noncomputable abbrev pN : Code := cL aGj
noncomputable abbrev bFv : Code := cL yR
noncomputable abbrev aOe : Code := cL aZe
noncomputable abbrev bFk : Code := cL aSc
noncomputable abbrev bIe : Code := cL aTa
noncomputable abbrev bSv : Code := cL c19
noncomputable abbrev r19 : K := aS CF Tryz.f19
noncomputable def D19 (r : RT) (n : Nat) (c : Code) (X : Nat → K) (k : K) : K := aP CF r 179 n c X r19 k
theorem bOf : D19 r n dBw x0 r19 = (K1 (fM r n) 5) :=
 (by kernel_rfl)
theorem aZo (kk9 : eY) : D19 r n pM (xs x0 7 (K1 (fM r n) 5)) (K4 kk9 5 155 156 157) = (K4 (lB r n kk9) 5 155 156 157) :=
 (by kernel_rfl)
theorem cDx (m : Nat) : aO (fun kk => D19 r n pM (xs x0 7 (K1 (fM r n) 5)) kk) m = (K4 (lE r n m) 5 155 156 157) := by
 induction m with
 | zero => exact (by kernel_rfl : aO (fun kk => D19 r n pM (xs x0 7 (K1 (fM r n) 5)) kk) 0 = (K4 (lE r n 0) 5 155 156 157))
 | succ m ih =>
  refine (by kernel_rfl : aO (fun kk => D19 r n pM (xs x0 7 (K1 (fM r n) 5)) kk) (m + 1) = D19 r n pM (xs x0 7 (K1 (fM r n) 5)) (aO (fun kk => D19 r n pM (xs x0 7 (K1 (fM r n) 5)) kk) m)).trans ?_
  rw [ih]
  exact (aZo r n (lE r n m)).trans (by kernel_rfl)
theorem bNp : D19 r n aIl (xs x0 7 (K1 (fM r n) 5)) (K1 (fM r n) 5) = (K4 (aTw r n) 5 155 156 157) :=
 (by kernel_rfl : D19 r n aIl (xs x0 7 (K1 (fM r n) 5)) (K1 (fM r n) 5) = aO (fun kk => D19 r n pM (xs x0 7 (K1 (fM r n) 5)) kk) n).trans ((cDx r n n).trans (by kernel_rfl))
theorem cTy : D19 r n bOu x0 (K1 (fM r n) 5) = (K4 (bDr r n) 5 155 156 157) :=
 (by kernel_rfl : D19 r n bOu x0 (K1 (fM r n) 5) = D19 r n aIl (xs x0 7 (K1 (fM r n) 5)) (K1 (fM r n) 5)).trans
 ((bNp r n).trans (by kernel_rfl))
theorem cFz : D19 r n aUy x0 r19 = D19 r n aJf x0 (K1 (fM r n) 5) :=
 congrArg (fun k => D19 r n aJf x0 k) (bOf r n)
theorem cBj : D19 r n aJf x0 (K1 (fM r n) 5) = D19 r n bMy x0 (K4 (bDr r n) 5 155 156 157) :=
 congrArg (fun k => D19 r n bMy x0 k) (cTy r n)
theorem cOy : D19 r n aUy x0 r19 = (K1 (bH r n) 5) :=
 (cFz r n).trans
 ((cBj r n).trans
 ((by kernel_rfl)))
theorem cFa (kk11 : cZ) : D19 r n cSj (xs x0 3 (K1 (bH r n) 5)) (K5 kk11 4 5 59 60 61) = (K5 (bA r n kk11) 4 5 59 60 61) :=
 (by kernel_rfl)
theorem bUa (kk11 : cZ) : D19 r n cQy (xs (xs x0 3 (K1 (bH r n) 5)) 4 (K5 (bA r n kk11) 4 5 59 60 61)) (K5 (bA r n kk11) 4 5 59 60 61) = (K7 (fE r n kk11) 4 5 8 9 59 60 61) :=
 (by kernel_rfl)
theorem bMx (kk11 : cZ) (kk25 : aOy) : D19 r n pH (xs (xs (xs x0 3 (K1 (bH r n) 5)) 4 (K5 (bA r n kk11) 4 5 59 60 61)) 5 (K7 (fE r n kk11) 4 5 8 9 59 60 61)) (K10 kk25 4 5 8 9 59 60 61 117 118 119) = (K10 (aSi r n kk11 kk25) 4 5 8 9 59 60 61 117 118 119) :=
 (by kernel_rfl)
theorem bKm (kk11 : cZ) (m : Nat) : aO (fun kk => D19 r n pH (xs (xs (xs x0 3 (K1 (bH r n) 5)) 4 (K5 (bA r n kk11) 4 5 59 60 61)) 5 (K7 (fE r n kk11) 4 5 8 9 59 60 61)) kk) m = (K10 (vG r n kk11 m) 4 5 8 9 59 60 61 117 118 119) := by
 induction m with
 | zero => exact (by kernel_rfl : aO (fun kk => D19 r n pH (xs (xs (xs x0 3 (K1 (bH r n) 5)) 4 (K5 (bA r n kk11) 4 5 59 60 61)) 5 (K7 (fE r n kk11) 4 5 8 9 59 60 61)) kk) 0 = (K10 (vG r n kk11 0) 4 5 8 9 59 60 61 117 118 119))
 | succ m ih =>
  refine (by kernel_rfl : aO (fun kk => D19 r n pH (xs (xs (xs x0 3 (K1 (bH r n) 5)) 4 (K5 (bA r n kk11) 4 5 59 60 61)) 5 (K7 (fE r n kk11) 4 5 8 9 59 60 61)) kk) (m + 1) = D19 r n pH (xs (xs (xs x0 3 (K1 (bH r n) 5)) 4 (K5 (bA r n kk11) 4 5 59 60 61)) 5 (K7 (fE r n kk11) 4 5 8 9 59 60 61)) (aO (fun kk => D19 r n pH (xs (xs (xs x0 3 (K1 (bH r n) 5)) 4 (K5 (bA r n kk11) 4 5 59 60 61)) 5 (K7 (fE r n kk11) 4 5 8 9 59 60 61)) kk) m)).trans ?_
  rw [ih]
  exact (bMx r n kk11 (vG r n kk11 m)).trans (by kernel_rfl)
theorem cBl (kk11 : cZ) : D19 r n aDk (xs (xs (xs x0 3 (K1 (bH r n) 5)) 4 (K5 (bA r n kk11) 4 5 59 60 61)) 5 (K7 (fE r n kk11) 4 5 8 9 59 60 61)) (K7 (fE r n kk11) 4 5 8 9 59 60 61) = (K10 (bSd r n kk11) 4 5 8 9 59 60 61 117 118 119) :=
 (by kernel_rfl : D19 r n aDk (xs (xs (xs x0 3 (K1 (bH r n) 5)) 4 (K5 (bA r n kk11) 4 5 59 60 61)) 5 (K7 (fE r n kk11) 4 5 8 9 59 60 61)) (K7 (fE r n kk11) 4 5 8 9 59 60 61) = aO (fun kk => D19 r n pH (xs (xs (xs x0 3 (K1 (bH r n) 5)) 4 (K5 (bA r n kk11) 4 5 59 60 61)) 5 (K7 (fE r n kk11) 4 5 8 9 59 60 61)) kk) n).trans ((bKm r n kk11 n).trans (by kernel_rfl))
theorem cAu (kk11 : cZ) : D19 r n aRf (xs (xs x0 3 (K1 (bH r n) 5)) 4 (K5 (bA r n kk11) 4 5 59 60 61)) (K7 (fE r n kk11) 4 5 8 9 59 60 61) = (K10 (zS r n kk11) 4 5 8 9 59 60 61 117 118 119) :=
 (by kernel_rfl : D19 r n aRf (xs (xs x0 3 (K1 (bH r n) 5)) 4 (K5 (bA r n kk11) 4 5 59 60 61)) (K7 (fE r n kk11) 4 5 8 9 59 60 61) = D19 r n aDk (xs (xs (xs x0 3 (K1 (bH r n) 5)) 4 (K5 (bA r n kk11) 4 5 59 60 61)) 5 (K7 (fE r n kk11) 4 5 8 9 59 60 61)) (K7 (fE r n kk11) 4 5 8 9 59 60 61)).trans
 ((cBl r n kk11).trans (by kernel_rfl))
theorem bSc (kk11 : cZ) : D19 r n aHl (xs (xs x0 3 (K1 (bH r n) 5)) 4 (K5 (bA r n kk11) 4 5 59 60 61)) (K5 (bA r n kk11) 4 5 59 60 61) = D19 r n vY (xs (xs x0 3 (K1 (bH r n) 5)) 4 (K5 (bA r n kk11) 4 5 59 60 61)) (K7 (fE r n kk11) 4 5 8 9 59 60 61) :=
 congrArg (fun k => D19 r n vY (xs (xs x0 3 (K1 (bH r n) 5)) 4 (K5 (bA r n kk11) 4 5 59 60 61)) k) (bUa r n kk11)
theorem bGa (kk11 : cZ) : D19 r n vY (xs (xs x0 3 (K1 (bH r n) 5)) 4 (K5 (bA r n kk11) 4 5 59 60 61)) (K7 (fE r n kk11) 4 5 8 9 59 60 61) = D19 r n aPb (xs (xs x0 3 (K1 (bH r n) 5)) 4 (K5 (bA r n kk11) 4 5 59 60 61)) (K10 (zS r n kk11) 4 5 8 9 59 60 61 117 118 119) :=
 congrArg (fun k => D19 r n aPb (xs (xs x0 3 (K1 (bH r n) 5)) 4 (K5 (bA r n kk11) 4 5 59 60 61)) k) (cAu r n kk11)
theorem bOb (kk11 : cZ) (q0 : aOy) (q1 : TT1) (q2 : cZ) : D19 r n aPb (xs (xs x0 3 (K1 q1 5)) 4 (K5 q2 4 5 59 60 61)) (K10 q0 4 5 8 9 59 60 61 117 118 119) = fun (env : bF) (h : Hp) =>
 bnd (r 39 [(env 13)] (resv 1 h)) fun v1 h1 =>
 bnd (aB 2 (env 8) h1) fun v2 h2 =>
 bnd (aA v2 h2) fun v3 h3 =>
 cnd (bQ (aA v2 (resv 1 h)) v3 && true) (
 bnd (r 39 [v3] h3) fun v4 h4 =>
 bnd (bY (cH 0 h.next) [(aK 0), (aK 0), (aK 0), (aK 0), (aK 0), (aK 0)] 6 [(0, 1, (env 10)), (1, 1, (env 12)), (2, 1, v1), (3, 1, (env 19)), (4, 1, (aK 0)), (5, 1, v4)] h4) fun v5 h5 =>
 bnd (cO v5 h5) fun v6 h6 =>
  q0 (env 4) (env 5) (env 8) (env 9) (env 59) (env 60) (env 61) v5 v6 (aK 0) h6) := by kernel_rfl
theorem bCt (kk11 : cZ) : (fun (env : bF) (h : Hp) =>
 bnd (r 39 [(env 13)] (resv 1 h)) fun v1 h1 =>
 bnd (aB 2 (env 8) h1) fun v2 h2 =>
 bnd (aA v2 h2) fun v3 h3 =>
 cnd (bQ (aA v2 (resv 1 h)) v3 && true) (
 bnd (r 39 [v3] h3) fun v4 h4 =>
 bnd (bY (cH 0 h.next) [(aK 0), (aK 0), (aK 0), (aK 0), (aK 0), (aK 0)] 6 [(0, 1, (env 10)), (1, 1, (env 12)), (2, 1, v1), (3, 1, (env 19)), (4, 1, (aK 0)), (5, 1, v4)] h4) fun v5 h5 =>
 bnd (cO v5 h5) fun v6 h6 =>
  zS r n kk11 (env 4) (env 5) (env 8) (env 9) (env 59) (env 60) (env 61) v5 v6 (aK 0) h6)) = (K11 (aFj r n kk11) 4 5 8 9 10 12 13 19 59 60 61) := by kernel_rfl
theorem cFt (kk11 : cZ) : D19 r n aHl (xs (xs x0 3 (K1 (bH r n) 5)) 4 (K5 (bA r n kk11) 4 5 59 60 61)) (K5 (bA r n kk11) 4 5 59 60 61) = (K11 (aFj r n kk11) 4 5 8 9 10 12 13 19 59 60 61) :=
 (bSc r n kk11).trans
 ((bGa r n kk11).trans
 ((bOb r n kk11 (zS r n kk11) (bH r n) (bA r n kk11)).trans (bCt r n kk11)))
theorem bNt (kk11 : cZ) : D19 r n aFo (xs (xs x0 3 (K1 (bH r n) 5)) 4 (K5 (bA r n kk11) 4 5 59 60 61)) (K5 (bA r n kk11) 4 5 59 60 61) = D19 r n bQw (xs (xs x0 3 (K1 (bH r n) 5)) 4 (K5 (bA r n kk11) 4 5 59 60 61)) (K11 (aFj r n kk11) 4 5 8 9 10 12 13 19 59 60 61) :=
 congrArg (fun k => D19 r n bQw (xs (xs x0 3 (K1 (bH r n) 5)) 4 (K5 (bA r n kk11) 4 5 59 60 61)) k) (cFt r n kk11)
theorem bWt (kk11 : cZ) : D19 r n aFo (xs (xs x0 3 (K1 (bH r n) 5)) 4 (K5 (bA r n kk11) 4 5 59 60 61)) (K5 (bA r n kk11) 4 5 59 60 61) = (K11 (pJ r n kk11) 4 5 8 9 10 12 13 14 59 60 61) :=
 (bNt r n kk11).trans
 ((by kernel_rfl))
theorem bRh (kk11 : cZ) : D19 r n aEo (xs (xs x0 3 (K1 (bH r n) 5)) 4 (K5 (bA r n kk11) 4 5 59 60 61)) (K5 (bA r n kk11) 4 5 59 60 61) = D19 r n aRl (xs (xs x0 3 (K1 (bH r n) 5)) 4 (K5 (bA r n kk11) 4 5 59 60 61)) (K11 (pJ r n kk11) 4 5 8 9 10 12 13 14 59 60 61) :=
 congrArg (fun k => D19 r n aRl (xs (xs x0 3 (K1 (bH r n) 5)) 4 (K5 (bA r n kk11) 4 5 59 60 61)) k) (bWt r n kk11)
theorem bNd (kk11 : cZ) (q0 : cWq) (q1 : TT1) (q2 : cZ) : D19 r n aRl (xs (xs x0 3 (K1 q1 5)) 4 (K5 q2 4 5 59 60 61)) (K11 q0 4 5 8 9 10 12 13 14 59 60 61) = fun (env : bF) (h : Hp) =>
 bnd (aD .eql (env 7) (aK 15) h) fun v1 h1 =>
 aX v1 (
 bnd (r 24 [(env 5), (.s [115, 101, 108, 101, 99, 116, 111, 114])] h1) fun v2 h2 =>
 bnd (aC 0 v2 h2) fun v3 h3 =>
 bnd (aC 1 v2 h3) fun v4 h4 =>
 bnd (r 24 [(env 5), (.s [97, 114, 103, 117, 109, 101, 110, 116, 115])] h4) fun v5 h5 =>
 bnd (aC 0 v5 h5) fun v6 h6 =>
 bnd (aC 1 v5 h6) fun v7 h7 =>
 bnd (aJ [(aK 0), (aK 0)] 2 [(0, 1, v3), (1, 1, v6)] h7) fun v8 h8 =>
      q0 (env 4) (env 5) (env 8) (env 9) (env 10) (env 12) (aK 2) v8 (env 59) (env 60) (env 61) h8) (
      q0 (env 4) (env 5) (env 8) (env 9) (env 10) (env 12) (env 13) (env 14) (env 59) (env 60) (env 61) h1) := by kernel_rfl
theorem aZz (kk11 : cZ) : (fun (env : bF) (h : Hp) =>
 bnd (aD .eql (env 7) (aK 15) h) fun v1 h1 =>
 aX v1 (
 bnd (r 24 [(env 5), (.s [115, 101, 108, 101, 99, 116, 111, 114])] h1) fun v2 h2 =>
 bnd (aC 0 v2 h2) fun v3 h3 =>
 bnd (aC 1 v2 h3) fun v4 h4 =>
 bnd (r 24 [(env 5), (.s [97, 114, 103, 117, 109, 101, 110, 116, 115])] h4) fun v5 h5 =>
 bnd (aC 0 v5 h5) fun v6 h6 =>
 bnd (aC 1 v5 h6) fun v7 h7 =>
 bnd (aJ [(aK 0), (aK 0)] 2 [(0, 1, v3), (1, 1, v6)] h7) fun v8 h8 =>
      pJ r n kk11 (env 4) (env 5) (env 8) (env 9) (env 10) (env 12) (aK 2) v8 (env 59) (env 60) (env 61) h8) (
      pJ r n kk11 (env 4) (env 5) (env 8) (env 9) (env 10) (env 12) (env 13) (env 14) (env 59) (env 60) (env 61) h1)) = (K12 (wC r n kk11) 4 5 7 8 9 10 12 13 14 59 60 61) := by kernel_rfl
theorem cGd (kk11 : cZ) : D19 r n aEo (xs (xs x0 3 (K1 (bH r n) 5)) 4 (K5 (bA r n kk11) 4 5 59 60 61)) (K5 (bA r n kk11) 4 5 59 60 61) = (K12 (wC r n kk11) 4 5 7 8 9 10 12 13 14 59 60 61) :=
 (bRh r n kk11).trans
 ((bNd r n kk11 (pJ r n kk11) (bH r n) (bA r n kk11)).trans (aZz r n kk11))
theorem bNm (kk11 : cZ) : D19 r n aFn (xs (xs x0 3 (K1 (bH r n) 5)) 4 (K5 (bA r n kk11) 4 5 59 60 61)) (K5 (bA r n kk11) 4 5 59 60 61) = D19 r n bTo (xs (xs x0 3 (K1 (bH r n) 5)) 4 (K5 (bA r n kk11) 4 5 59 60 61)) (K12 (wC r n kk11) 4 5 7 8 9 10 12 13 14 59 60 61) :=
 congrArg (fun k => D19 r n bTo (xs (xs x0 3 (K1 (bH r n) 5)) 4 (K5 (bA r n kk11) 4 5 59 60 61)) k) (cGd r n kk11)
theorem cCa (kk11 : cZ) : D19 r n aFn (xs (xs x0 3 (K1 (bH r n) 5)) 4 (K5 (bA r n kk11) 4 5 59 60 61)) (K5 (bA r n kk11) 4 5 59 60 61) = (K12 (aPl r n kk11) 4 5 7 8 9 10 12 13 14 59 60 61) :=
 (bNm r n kk11).trans
 ((by kernel_rfl))
theorem bBa (kk11 : cZ) : D19 r n aGz (xs (xs x0 3 (K1 (bH r n) 5)) 4 (K5 (bA r n kk11) 4 5 59 60 61)) (K5 (bA r n kk11) 4 5 59 60 61) = D19 r n bOi (xs (xs x0 3 (K1 (bH r n) 5)) 4 (K5 (bA r n kk11) 4 5 59 60 61)) (K12 (aPl r n kk11) 4 5 7 8 9 10 12 13 14 59 60 61) :=
 congrArg (fun k => D19 r n bOi (xs (xs x0 3 (K1 (bH r n) 5)) 4 (K5 (bA r n kk11) 4 5 59 60 61)) k) (cCa r n kk11)
theorem cDn (kk11 : cZ) : D19 r n aGz (xs (xs x0 3 (K1 (bH r n) 5)) 4 (K5 (bA r n kk11) 4 5 59 60 61)) (K5 (bA r n kk11) 4 5 59 60 61) = (K9 (aOg r n kk11) 4 5 7 8 9 10 59 60 61) :=
 (bBa r n kk11).trans
 ((by kernel_rfl))
theorem bBj (kk11 : cZ) : D19 r n aEa (xs (xs x0 3 (K1 (bH r n) 5)) 4 (K5 (bA r n kk11) 4 5 59 60 61)) (K5 (bA r n kk11) 4 5 59 60 61) = D19 r n bPp (xs (xs x0 3 (K1 (bH r n) 5)) 4 (K5 (bA r n kk11) 4 5 59 60 61)) (K9 (aOg r n kk11) 4 5 7 8 9 10 59 60 61) :=
 congrArg (fun k => D19 r n bPp (xs (xs x0 3 (K1 (bH r n) 5)) 4 (K5 (bA r n kk11) 4 5 59 60 61)) k) (cDn r n kk11)
theorem cHe (kk11 : cZ) : D19 r n aEa (xs (xs x0 3 (K1 (bH r n) 5)) 4 (K5 (bA r n kk11) 4 5 59 60 61)) (K5 (bA r n kk11) 4 5 59 60 61) = (K8 (aPi r n kk11) 4 5 7 8 9 59 60 61) :=
 (bBj r n kk11).trans
 ((by kernel_rfl))
theorem bCg (kk11 : cZ) : D19 r n aCq (xs (xs x0 3 (K1 (bH r n) 5)) 4 (K5 (bA r n kk11) 4 5 59 60 61)) (K5 (bA r n kk11) 4 5 59 60 61) = D19 r n bIf (xs (xs x0 3 (K1 (bH r n) 5)) 4 (K5 (bA r n kk11) 4 5 59 60 61)) (K8 (aPi r n kk11) 4 5 7 8 9 59 60 61) :=
 congrArg (fun k => D19 r n bIf (xs (xs x0 3 (K1 (bH r n) 5)) 4 (K5 (bA r n kk11) 4 5 59 60 61)) k) (cHe r n kk11)
theorem bTt (kk11 : cZ) : D19 r n aCq (xs (xs x0 3 (K1 (bH r n) 5)) 4 (K5 (bA r n kk11) 4 5 59 60 61)) (K5 (bA r n kk11) 4 5 59 60 61) = (K8 (aMv r n kk11) 4 5 7 8 9 59 60 61) :=
 (bCg r n kk11).trans
 ((by kernel_rfl))
theorem bAu (kk11 : cZ) : D19 r n aIn (xs (xs x0 3 (K1 (bH r n) 5)) 4 (K5 (bA r n kk11) 4 5 59 60 61)) (K5 (bA r n kk11) 4 5 59 60 61) = D19 r n bSe (xs (xs x0 3 (K1 (bH r n) 5)) 4 (K5 (bA r n kk11) 4 5 59 60 61)) (K8 (aMv r n kk11) 4 5 7 8 9 59 60 61) :=
 congrArg (fun k => D19 r n bSe (xs (xs x0 3 (K1 (bH r n) 5)) 4 (K5 (bA r n kk11) 4 5 59 60 61)) k) (bTt r n kk11)
theorem bYb (kk11 : cZ) : D19 r n aIn (xs (xs x0 3 (K1 (bH r n) 5)) 4 (K5 (bA r n kk11) 4 5 59 60 61)) (K5 (bA r n kk11) 4 5 59 60 61) = (K7 (aAa r n kk11) 4 5 7 8 59 60 61) :=
 (bAu r n kk11).trans
 ((by kernel_rfl))
theorem bAd (kk11 : cZ) : D19 r n aGi (xs x0 3 (K1 (bH r n) 5)) (K5 kk11 4 5 59 60 61) = D19 r n aEz (xs x0 3 (K1 (bH r n) 5)) (K5 (bA r n kk11) 4 5 59 60 61) :=
 congrArg (fun k => D19 r n aEz (xs x0 3 (K1 (bH r n) 5)) k) (cFa r n kk11)
theorem bBc (kk11 : cZ) : D19 r n aFd (xs (xs x0 3 (K1 (bH r n) 5)) 4 (K5 (bA r n kk11) 4 5 59 60 61)) (K5 (bA r n kk11) 4 5 59 60 61) = D19 r n aPn (xs (xs x0 3 (K1 (bH r n) 5)) 4 (K5 (bA r n kk11) 4 5 59 60 61)) (K7 (aAa r n kk11) 4 5 7 8 59 60 61) :=
 congrArg (fun k => D19 r n aPn (xs (xs x0 3 (K1 (bH r n) 5)) 4 (K5 (bA r n kk11) 4 5 59 60 61)) k) (bYb r n kk11)
theorem bCh (kk11 : cZ) (q0 : TT7) (q1 : TT1) (q2 : cZ) : D19 r n aPn (xs (xs x0 3 (K1 q1 5)) 4 (K5 q2 4 5 59 60 61)) (K7 q0 4 5 7 8 59 60 61) = fun (env : bF) (h : Hp) =>
 bnd (aF 3 (env 59) (env 61) h) fun v1 h1 =>
 bnd (aN 3 v1 h1) fun v2 h2 =>
 bnd (cF [(.s []), (aK 0), (aK 0)] h2) fun v3 h3 =>
 bnd (aI 3 v3 v2 h3) fun _ h4 =>
  q0 (env 4) (env 5) (env 61) v3 (env 59) (env 60) (env 61) h4 := by kernel_rfl
theorem aOt (kk11 : cZ) : (fun (env : bF) (h : Hp) =>
 bnd (aF 3 (env 59) (env 61) h) fun v1 h1 =>
 bnd (aN 3 v1 h1) fun v2 h2 =>
 bnd (cF [(.s []), (aK 0), (aK 0)] h2) fun v3 h3 =>
 bnd (aI 3 v3 v2 h3) fun _ h4 =>
  aAa r n kk11 (env 4) (env 5) (env 61) v3 (env 59) (env 60) (env 61) h4) = (K5 (aIo r n kk11) 4 5 59 60 61) := by kernel_rfl
theorem bXt (kk11 : cZ) : D19 r n aGi (xs x0 3 (K1 (bH r n) 5)) (K5 kk11 4 5 59 60 61) = (K5 (aIo r n kk11) 4 5 59 60 61) :=
 (bAd r n kk11).trans
 ((by kernel_rfl : D19 r n aEz (xs x0 3 (K1 (bH r n) 5)) (K5 (bA r n kk11) 4 5 59 60 61) = D19 r n aFd (xs (xs x0 3 (K1 (bH r n) 5)) 4 (K5 (bA r n kk11) 4 5 59 60 61)) (K5 (bA r n kk11) 4 5 59 60 61)).trans
 ((bBc r n kk11).trans
 ((bCh r n kk11 (aAa r n kk11) (bH r n) (bA r n kk11)).trans (aOt r n kk11))))
theorem bBy (kk11 : cZ) : D19 r n aEf (xs x0 3 (K1 (bH r n) 5)) (K5 kk11 4 5 59 60 61) = D19 r n bSt (xs x0 3 (K1 (bH r n) 5)) (K5 (aIo r n kk11) 4 5 59 60 61) :=
 congrArg (fun k => D19 r n bSt (xs x0 3 (K1 (bH r n) 5)) k) (bXt r n kk11)
theorem bTu (kk11 : cZ) : D19 r n aEf (xs x0 3 (K1 (bH r n) 5)) (K5 kk11 4 5 59 60 61) = (K6 (aNo r n kk11) 4 5 59 60 61 62) :=
 (bBy r n kk11).trans
 ((by kernel_rfl))
theorem bBh (kk11 : cZ) : D19 r n lH (xs x0 3 (K1 (bH r n) 5)) (K5 kk11 4 5 59 60 61) = D19 r n bKx (xs x0 3 (K1 (bH r n) 5)) (K6 (aNo r n kk11) 4 5 59 60 61 62) :=
 congrArg (fun k => D19 r n bKx (xs x0 3 (K1 (bH r n) 5)) k) (bTu r n kk11)
theorem bSj (kk11 : cZ) : D19 r n lH (xs x0 3 (K1 (bH r n) 5)) (K5 kk11 4 5 59 60 61) = (K5 (aSf r n kk11) 4 5 59 60 61) :=
 (bBh r n kk11).trans
 ((by kernel_rfl))
theorem bHj (m : Nat) : aO (fun kk => D19 r n lH (xs x0 3 (K1 (bH r n) 5)) kk) m = (K5 (vP r n m) 4 5 59 60 61) := by
 induction m with
 | zero => exact (by kernel_rfl : aO (fun kk => D19 r n lH (xs x0 3 (K1 (bH r n) 5)) kk) 0 = (K5 (vP r n 0) 4 5 59 60 61))
 | succ m ih =>
  refine (by kernel_rfl : aO (fun kk => D19 r n lH (xs x0 3 (K1 (bH r n) 5)) kk) (m + 1) = D19 r n lH (xs x0 3 (K1 (bH r n) 5)) (aO (fun kk => D19 r n lH (xs x0 3 (K1 (bH r n) 5)) kk) m)).trans ?_
  rw [ih]
  exact (bSj r n (vP r n m)).trans (by kernel_rfl)
theorem bTy : D19 r n aGr (xs x0 3 (K1 (bH r n) 5)) (K1 (bH r n) 5) = (K5 (bJa r n) 4 5 59 60 61) :=
 (by kernel_rfl : D19 r n aGr (xs x0 3 (K1 (bH r n) 5)) (K1 (bH r n) 5) = aO (fun kk => D19 r n lH (xs x0 3 (K1 (bH r n) 5)) kk) n).trans ((bHj r n n).trans (by kernel_rfl))
theorem cFo : D19 r n aQw x0 (K1 (bH r n) 5) = (K5 (aQy r n) 4 5 59 60 61) :=
 (by kernel_rfl : D19 r n aQw x0 (K1 (bH r n) 5) = D19 r n aGr (xs x0 3 (K1 (bH r n) 5)) (K1 (bH r n) 5)).trans
 ((bTy r n).trans (by kernel_rfl))
theorem bEp : D19 r n aXa x0 r19 = D19 r n wN x0 (K1 (bH r n) 5) :=
 congrArg (fun k => D19 r n wN x0 k) (cOy r n)
theorem bOk : D19 r n wN x0 (K1 (bH r n) 5) = D19 r n bNe x0 (K5 (aQy r n) 4 5 59 60 61) :=
 congrArg (fun k => D19 r n bNe x0 k) (cFo r n)
theorem cVi : D19 r n aXa x0 r19 = (K2 (gZ r n) 4 5) :=
 (bEp r n).trans
 ((bOk r n).trans
 ((by kernel_rfl)))
theorem bPn (kk27 : mE) : D19 r n pN (xs x0 1 (K2 (gZ r n) 4 5)) (K3 kk27 4 5 43) = (K3 (aSt r n kk27) 4 5 43) :=
 (by kernel_rfl)
theorem bFj (m : Nat) : aO (fun kk => D19 r n pN (xs x0 1 (K2 (gZ r n) 4 5)) kk) m = (K3 (uQ r n m) 4 5 43) := by
 induction m with
 | zero => exact (by kernel_rfl : aO (fun kk => D19 r n pN (xs x0 1 (K2 (gZ r n) 4 5)) kk) 0 = (K3 (uQ r n 0) 4 5 43))
 | succ m ih =>
  refine (by kernel_rfl : aO (fun kk => D19 r n pN (xs x0 1 (K2 (gZ r n) 4 5)) kk) (m + 1) = D19 r n pN (xs x0 1 (K2 (gZ r n) 4 5)) (aO (fun kk => D19 r n pN (xs x0 1 (K2 (gZ r n) 4 5)) kk) m)).trans ?_
  rw [ih]
  exact (bPn r n (uQ r n m)).trans (by kernel_rfl)
theorem cBm : D19 r n aGj (xs x0 1 (K2 (gZ r n) 4 5)) (K2 (gZ r n) 4 5) = (K3 (bFa r n) 4 5 43) :=
 (by kernel_rfl : D19 r n aGj (xs x0 1 (K2 (gZ r n) 4 5)) (K2 (gZ r n) 4 5) = aO (fun kk => D19 r n pN (xs x0 1 (K2 (gZ r n) 4 5)) kk) n).trans ((bFj r n n).trans (by kernel_rfl))
theorem bTz : D19 r n aQq x0 (K2 (gZ r n) 4 5) = (K3 (aNp r n) 4 5 43) :=
 (by kernel_rfl : D19 r n aQq x0 (K2 (gZ r n) 4 5) = D19 r n aGj (xs x0 1 (K2 (gZ r n) 4 5)) (K2 (gZ r n) 4 5)).trans
 ((cBm r n).trans (by kernel_rfl))
theorem bMt : D19 r n aYd x0 r19 = D19 r n yR x0 (K2 (gZ r n) 4 5) :=
 congrArg (fun k => D19 r n yR x0 k) (cVi r n)
theorem bFw : D19 r n yR x0 (K2 (gZ r n) 4 5) = D19 r n bFv x0 (K3 (aNp r n) 4 5 43) :=
 congrArg (fun k => D19 r n bFv x0 k) (bTz r n)
theorem cOl : D19 r n aYd x0 r19 = (K2 (aJg r n) 4 5) :=
 (bMt r n).trans
 ((bFw r n).trans
 ((by kernel_rfl)))
theorem bMp : D19 r n aZe x0 r19 = D19 r n aOe x0 (K2 (aJg r n) 4 5) :=
 congrArg (fun k => D19 r n aOe x0 k) (cOl r n)
theorem bOt (q0 : uL) : D19 r n aOe x0 (K2 q0 4 5) = fun (env : bF) (h : Hp) =>
 bnd (cJ 1 8 [(aK 0)] (aK 18) (aK 18) h) fun v1 h1 =>
 bnd (eE h1) fun v2 h2 =>
 bnd (eE h2) fun v3 h3 =>
 bnd (cI [.p0, .l0, .m0, .m0] [(0, 1, (env 4)), (1, 1, v1), (2, 1, v2), (3, 1, v3)] h3) fun v4 h4 =>
 bnd (cB v4 h4) fun v5 h5 =>
  q0 (env 4) v5 h5 := by kernel_rfl
theorem bAp : (fun (env : bF) (h : Hp) =>
 bnd (cJ 1 8 [(aK 0)] (aK 18) (aK 18) h) fun v1 h1 =>
 bnd (eE h1) fun v2 h2 =>
 bnd (eE h2) fun v3 h3 =>
 bnd (cI [.p0, .l0, .m0, .m0] [(0, 1, (env 4)), (1, 1, v1), (2, 1, v2), (3, 1, v3)] h3) fun v4 h4 =>
 bnd (cB v4 h4) fun v5 h5 =>
  aJg r n (env 4) v5 h5) = (K1 (aTe r n) 4) := by kernel_rfl
theorem cLp : D19 r n aZe x0 r19 = (K1 (aTe r n) 4) :=
 (bMp r n).trans
 ((bOt r n (aJg r n)).trans (bAp r n))
theorem bEd : D19 r n aSc x0 r19 = D19 r n bFk x0 (K1 (aTe r n) 4) :=
 congrArg (fun k => D19 r n bFk x0 k) (cLp r n)
theorem cMm : D19 r n aSc x0 r19 = (K2 (bFp r n) 0 4) :=
 (bEd r n).trans
 ((by kernel_rfl))
theorem bOl : D19 r n aTa x0 r19 = D19 r n bIe x0 (K2 (bFp r n) 0 4) :=
 congrArg (fun k => D19 r n bIe x0 k) (cMm r n)
theorem cMy : D19 r n aTa x0 r19 = (K1 (bJx r n) 0) :=
 (bOl r n).trans
 ((by kernel_rfl))
theorem cLb : D19 r n c19 x0 r19 = D19 r n bSv x0 (K1 (bJx r n) 0) :=
 congrArg (fun k => D19 r n bSv x0 k) (cMy r n)
theorem dIh : D19 r n c19 x0 r19 = (K1 (s19 r n) 0) :=
 (cLb r n).trans
 ((by kernel_rfl))
theorem dCj : aE CF r n 19 args h = s19 r n (aT args 0) h :=
 (by kernel_rfl : aE CF r n 19 args h = D19 r n c19 x0 r19 (aH args) h).trans ((congrFun (congrFun (dIh r n) (aH args)) h).trans (by kernel_rfl))
noncomputable def s21 (r : RT) (n : Nat) (x0 x1 x2 : DV) (h0 : Hp) : aG :=
 bnd (r 14 [x0] h0) fun v1 h1 =>
 bnd (aEb [v1, x1] h1) fun v2 h2 =>
 bnd (jW .not v2 h2) fun v3 h3 =>
 aX v3 (
 some ((.s [63]), h3)) (
 bnd (r 49 [x0, x1] h3) fun v4 h4 =>
 bnd (aC 0 v4 h4) fun v5 h5 =>
 bnd (aC 1 v4 h5) fun v6 h6 =>
 aX v6 (
 bnd (gU [v5] h6) fun v7 h7 =>
 some (v7, h7)) (
 bnd (isF [v1, x1] h6) fun v8 h8 =>
 bnd (jW .not v8 h8) fun v9 h9 =>
 aX v9 (
 bnd (r 51 [x1] h9) fun v10 h10 =>
 some (v10, h10)) (
 bnd (r 52 [x0, x1] h9) fun v11 h11 =>
 bnd (r 53 [x0, x1] h11) fun v12 h12 =>
 bnd (aC 0 v12 h12) fun v13 h13 =>
 bnd (aC 1 v12 h13) fun v14 h14 =>
 aX v14 (
 bnd (r 27 [x0, (.i .i64 (Int.ofNat 11))] h14) fun v15 h15 =>
 bnd (aD .eql v11 v15 h15) fun v16 h16 =>
 aX v16 (
 bnd (dA .add (.s [35]) v13 h16) fun v17 h17 =>
 some (v17, h17)) (
 bnd (gV [v13, (.s [39]), (.s [39, 39])] h16) fun v18 h18 =>
 bnd (dA .add (.s [39]) v18 h18) fun v19 h19 =>
 bnd (dA .add v19 (.s [39]) h19) fun v20 h20 =>
 some (v20, h20))) (
 bnd (r 27 [x0, (.i .i64 (Int.ofNat 9))] h14) fun v21 h21 =>
 bnd (aD .eql v11 v21 h21) fun v22 h22 =>
 aX v22 (
 bnd (r 55 [x0, x1, x2] h22) fun v23 h23 =>
 some (v23, h23)) (
 bnd (r 44 [x0, x1] h22) fun v24 h24 =>
 bnd (aD .geq v24 (.i .i64 (Int.ofNat 0)) h24) fun v25 h25 =>
 aX v25 (
 bnd (r 56 [x0, x1] h25) fun v26 h26 =>
 some (v26, h26)) (
 bnd (r 56 [x0, v11] h25) fun v27 h27 =>
 bnd (dA .neq v27 (.s []) h27) fun v28 h28 =>
 bnd (gD v28 true (some (v27, h28)) h28) fun v29 h29 =>
 bnd (gD v28 true (dP v29 (.i .i64 (Int.ofNat 0)) h29) h29) fun v30 h30 =>
 bnd (gD v28 true (r 57 [(.s [65, 69, 73, 79, 85]), v30] h30) h30) fun v31 h31 =>
 bnd (gD v28 true (aD .geq v31 (.i .i64 (Int.ofNat 0)) h31) h31) fun v32 h32 =>
 bnd (aQ v28 v32 (.b false) h32) fun v33 h33 =>
 aX v33 (
 bnd (dA .add (.s [97, 110, 32]) v27 h33) fun v34 h34 =>
 some (v34, h34)) (
 bnd (dA .add (.s [97, 32]) v27 h33) fun v35 h35 =>
 some (v35, h35))))))))
noncomputable abbrev c21 : Code := cf Tryz.f21
noncomputable abbrev r21 : K := aS CF Tryz.f21
noncomputable def D21 (r : RT) (n : Nat) (c : Code) (X : Nat → K) (k : K) : K := aP CF r 87 n c X r21 k
theorem dEp : D21 r n c21 x0 r21 = (K3 (s21 r n) 0 1 2) :=
 (by kernel_rfl)
theorem cJy : aE CF r n 21 args h = s21 r n (aT args 0) (aT args 1) (aT args 2) h :=
 (by kernel_rfl : aE CF r n 21 args h = D21 r n c21 x0 r21 (aH args) h).trans ((congrFun (congrFun (dEp r n) (aH args)) h).trans (by kernel_rfl))
end Go.Dd

namespace Go.Dd
open Go.Proofs
variable (r : RT) (n : Nat) (args : List DV) (h : Hp)
noncomputable def s22 (r : RT) (n : Nat) (x0 x1 : DV) (h0 : Hp) : aG :=
 bnd (aD .lss x1 (.i .i64 (Int.negSucc 1152921504606846975)) h0) fun v1 h1 =>
 bnd (gD v1 false (some (x1, h1)) h1) fun v2 h2 =>
 bnd (gD v1 false (aD .gtr v2 (.i .i64 (Int.ofNat 1152921504606846976)) h2) h2) fun v3 h3 =>
 bnd (aQ v1 (.b true) v3 h3) fun v4 h4 =>
 aX v4 (
 some (.t [(.i .i64 (Int.ofNat 0)), (.i .i64 (Int.ofNat 2))], h4)) (
 bnd (iG [x1] h4) fun v5 h5 =>
 bnd (aC 0 v5 h5) fun v6 h6 =>
 bnd (aC 1 v5 h6) fun v7 h7 =>
 aX v7 (
 some (.t [v6, (.i .i64 (Int.ofNat 0))], h7)) (
 bnd (r 27 [x0, (.i .i64 (Int.ofNat 8))] h7) fun v8 h8 =>
 bnd (aJ [(.i .i64 (Int.ofNat 0))] 1 [(0, 1, x1)] h8) fun v9 h9 =>
 bnd (r 33 [x0, v8, (.i .i64 (Int.ofNat 1)), v9] h9) fun v10 h10 =>
 bnd (aC 0 v10 h10) fun v11 h11 =>
 bnd (aC 1 v10 h11) fun v12 h12 =>
 some (.t [v11, v12], h12)))
noncomputable abbrev c22 : Code := cf Tryz.f22
noncomputable abbrev r22 : K := aS CF Tryz.f22
noncomputable def D22 (r : RT) (n : Nat) (c : Code) (X : Nat → K) (k : K) : K := aP CF r 29 n c X r22 k
theorem dJu : D22 r n c22 x0 r22 = (K2 (s22 r n) 0 1) :=
 (by kernel_rfl)
theorem cKf : aE CF r n 22 args h = s22 r n (aT args 0) (aT args 1) h :=
 (by kernel_rfl : aE CF r n 22 args h = D22 r n c22 x0 r22 (aH args) h).trans ((congrFun (congrFun (dJu r n) (aH args)) h).trans (by kernel_rfl))
noncomputable def s23 (r : RT) (n : Nat) (x0 x1 : DV) (h0 : Hp) : aG :=
 bnd (dI x1 h0) fun v1 h1 =>
 bnd (aD .gtr v1 (aK 250) h1) fun v2 h2 =>
 aX v2 (
 some (.t [(aK 0), (aK 1)], h2)) (
 bnd (r 27 [x0, (aK 10)] h2) fun v3 h3 =>
 bnd (r 59 [x0, v3, x1] h3) fun v4 h4 =>
 bnd (aC 0 v4 h4) fun v5 h5 =>
 bnd (aC 1 v4 h5) fun v6 h6 =>
 some (.t [v5, v6], h6))
noncomputable abbrev c23 : Code := cf Tryz.f23
noncomputable abbrev r23 : K := aS CF Tryz.f23
noncomputable def D23 (r : RT) (n : Nat) (c : Code) (X : Nat → K) (k : K) : K := aP CF r 16 n c X r23 k
theorem dHa : D23 r n c23 x0 r23 = (K2 (s23 r n) 0 1) :=
 (by kernel_rfl)
theorem cHn : aE CF r n 23 args h = s23 r n (aT args 0) (aT args 1) h :=
 (by kernel_rfl : aE CF r n 23 args h = D23 r n c23 x0 r23 (aH args) h).trans ((congrFun (congrFun (dHa r n) (aH args)) h).trans (by kernel_rfl))
noncomputable def s24 (r : RT) (n : Nat) (x0 x1 : DV) (h0 : Hp) : aG :=
 bnd (dI x1 h0) fun v1 h1 =>
 bnd (aD .lss v1 (aK 1) h1) fun v2 h2 =>
 bnd (gD v2 false (some (x1, h2)) h2) fun v3 h3 =>
 bnd (gD v2 false (dI v3 h3) h3) fun v4 h4 =>
 bnd (gD v2 false (aD .gtr v4 (aK 60) h4) h4) fun v5 h5 =>
 bnd (aQ v2 (.b true) v5 h5) fun v6 h6 =>
 aX v6 (
 some (.t [(aK 0), (aK 1)], h6)) (
 bnd (bD x0 h6) fun v7 h7 =>
 bnd (aB 2 v7 h7) fun v8 h8 =>
 bnd (aA v8 h8) fun v9 h9 =>
 bnd (dS .string (aK 0) false v9 x1 h9) fun v10 h10 =>
 bnd (aD .neq v10 (aK 0) h10) fun v11 h11 =>
 aX v11 (
 some (.t [v10, (aK 0)], h11)) (
 bnd (r 27 [x0, (aK 11)] h11) fun v12 h12 =>
 bnd (r 59 [x0, v12, x1] h12) fun v13 h13 =>
 bnd (aC 0 v13 h13) fun v14 h14 =>
 bnd (aC 1 v13 h14) fun v15 h15 =>
 bnd (aD .neq v15 (aK 0) h15) fun v16 h16 =>
 aX v16 (
 some (.t [(aK 0), v15], h16)) (
 bnd (bD x0 h16) fun v17 h17 =>
 bnd (aB 1 v17 h17) fun v18 h18 =>
 bnd (aA v18 h18) fun v19 h19 =>
 bnd (aF 1 v19 (aK 0) h19) fun v20 h20 =>
 bnd (aA v20 h20) fun v21 h21 =>
 bnd (r 40 [x0, v14, v21] h21) fun v22 h22 =>
 bnd (aC 0 v22 h22) fun v23 h23 =>
 bnd (aC 1 v22 h23) fun v24 h24 =>
 bnd (aD .neq v24 (aK 0) h24) fun v25 h25 =>
 aX v25 (
 some (.t [(aK 0), v24], h25)) (
 bnd (bD x0 h25) fun v26 h26 =>
 bnd (aB 1 v26 h26) fun v27 h27 =>
 bnd (aA v27 h27) fun v28 h28 =>
 bnd (bD x0 h28) fun v29 h29 =>
 bnd (aB 2 v29 h29) fun v30 h30 =>
 bnd (aA v30 h30) fun v31 h31 =>
 bnd (aF 1 v28 (aK 0) h31) fun v32 h32 =>
 bnd (aI 1 v32 v23 h32) fun v33 h33 =>
 bnd (gG .string (aK 0) v31 x1 h33) fun v34 h34 =>
 bnd (aC 1 v34 h34) fun v35 h35 =>
 bnd (eD v31 v35 v14 h35) fun v36 h36 =>
 some (.t [v14, (aK 0)], h36)))))
noncomputable abbrev c24 : Code := cf Tryz.f24
noncomputable abbrev r24 : K := aS CF Tryz.f24
noncomputable def D24 (r : RT) (n : Nat) (c : Code) (X : Nat → K) (k : K) : K := aP CF r 68 n c X r24 k
theorem dJn : D24 r n c24 x0 r24 = (K2 (s24 r n) 0 1) :=
 (by kernel_rfl)
theorem cHy : aE CF r n 24 args h = s24 r n (aT args 0) (aT args 1) h :=
 (by kernel_rfl : aE CF r n 24 args h = D24 r n c24 x0 r24 (aH args) h).trans ((congrFun (congrFun (dJn r n) (aH args)) h).trans (by kernel_rfl))
noncomputable def s26 (r : RT) (n : Nat) (x0 x1 : DV) (h0 : Hp) : aG :=
 bnd (bD x0 h0) fun v1 h1 =>
 bnd (aB 3 v1 h1) fun v2 h2 =>
 bnd (aA v2 h2) fun v3 h3 =>
 bnd (dS .string (.i .i64 (Int.ofNat 0)) false v3 x1 h3) fun v4 h4 =>
 some (v4, h4)
noncomputable abbrev c26 : Code := cf Tryz.f26
noncomputable abbrev r26 : K := aS CF Tryz.f26
noncomputable def D26 (r : RT) (n : Nat) (c : Code) (X : Nat → K) (k : K) : K := aP CF r 11 n c X r26 k
theorem dEq : D26 r n c26 x0 r26 = (K2 (s26 r n) 0 1) :=
 (by kernel_rfl)
theorem cKo : aE CF r n 26 args h = s26 r n (aT args 0) (aT args 1) h :=
 (by kernel_rfl : aE CF r n 26 args h = D26 r n c26 x0 r26 (aH args) h).trans ((congrFun (congrFun (dEq r n) (aH args)) h).trans (by kernel_rfl))
noncomputable def s27 (r : RT) (n : Nat) (x0 x1 : DV) (h0 : Hp) : aG :=
 bnd (aD .lss x1 (.i .i64 (Int.ofNat 0)) h0) fun v1 h1 =>
 bnd (gD v1 false (some (x1, h1)) h1) fun v2 h2 =>
 bnd (gD v1 false (aD .geq v2 (.i .i64 (Int.ofNat 16)) h2) h2) fun v3 h3 =>
 bnd (aQ v1 (.b true) v3 h3) fun v4 h4 =>
 aX v4 (
 some ((.i .i64 (Int.ofNat 0)), h4)) (
 bnd (bD x0 h4) fun v5 h5 =>
 bnd (aB 1 v5 h5) fun v6 h6 =>
 bnd (aA v6 h6) fun v7 h7 =>
 bnd (aD .add (.i .i64 (Int.ofNat 2)) x1 h7) fun v8 h8 =>
 bnd (aF 1 v7 v8 h8) fun v9 h9 =>
 bnd (aA v9 h9) fun v10 h10 =>
 some (v10, h10))
noncomputable abbrev c27 : Code := cf Tryz.f27
noncomputable abbrev r27 : K := aS CF Tryz.f27
noncomputable def D27 (r : RT) (n : Nat) (c : Code) (X : Nat → K) (k : K) : K := aP CF r 19 n c X r27 k
theorem dJz : D27 r n c27 x0 r27 = (K2 (s27 r n) 0 1) :=
 (by kernel_rfl)
theorem bKu : aE CF r n 27 args h = s27 r n (aT args 0) (aT args 1) h :=
 (by kernel_rfl : aE CF r n 27 args h = D27 r n c27 x0 r27 (aH args) h).trans ((congrFun (congrFun (dJz r n) (aH args)) h).trans (by kernel_rfl))
noncomputable def aW (r : RT) (n : Nat) (h0 : Hp) : aG :=
 some ((.s [110, 105, 108]), h0)
noncomputable def cN (r : RT) (n : Nat) (x5 : DV) (h0 : Hp) : aG :=
 bnd (dA .add x5 (.s [41]) h0) fun v1 h1 =>
 some (v1, h1)
noncomputable def hY (r : RT) (n : Nat) (kk16 : eY) (x1 x2 x5 x6 : DV) (h0 : Hp) : aG :=
 bnd (aD .add x6 (.i .i64 (Int.ofNat 1)) h0) fun v1 h1 =>
  kk16 x1 x2 x5 v1 h1
noncomputable def sM (r : RT) (n : Nat) (kk16 : eY) (x1 x2 x5 x6 : DV) (h0 : Hp) : aG :=
 bnd (aD .eql x6 (.i .i64 (Int.ofNat 20)) h0) fun v1 h1 =>
 aX v1 (
 bnd (dA .add x5 (.s [46, 46]) h1) fun v2 h2 =>
  hY r n kk16 x1 x2 v2 x6 h2) (
 bnd (aB 3 x2 h1) fun v3 h3 =>
 bnd (aA v3 h3) fun v4 h4 =>
 bnd (aF 4 v4 x6 h4) fun v5 h5 =>
 bnd (aN 4 v5 h5) fun v6 h6 =>
 bnd (aD .add x1 (.i .i64 (Int.ofNat 1)) h6) fun v7 h7 =>
 bnd (r 28 [v6, v7] h7) fun v8 h8 =>
 bnd (dA .add x5 v8 h8) fun v9 h9 =>
  hY r n kk16 x1 x2 v9 x6 h9)
noncomputable def aCk (r : RT) (n : Nat) (kk16 : eY) (x1 x2 x5 x6 : DV) (h0 : Hp) : aG :=
 bnd (aD .gtr x6 (.i .i64 (Int.ofNat 0)) h0) fun v1 h1 =>
 aX v1 (
 bnd (dA .add x5 (.s [32]) h1) fun v2 h2 =>
  sM r n kk16 x1 x2 v2 x6 h2) (
  sM r n kk16 x1 x2 x5 x6 h1)
noncomputable def kZ (r : RT) (n : Nat) (kk16 : eY) (x1 x2 x5 x6 : DV) (h0 : Hp) : aG :=
 bnd (aB 3 x2 h0) fun v1 h1 =>
 bnd (aA v1 h1) fun v2 h2 =>
 bnd (cO v2 h2) fun v3 h3 =>
 bnd (aD .lss x6 v3 h3) fun v4 h4 =>
 bnd (gD v4 true (some (x6, h4)) h4) fun v5 h5 =>
 bnd (gD v4 true (aD .leq v5 (.i .i64 (Int.ofNat 20)) h5) h5) fun v6 h6 =>
 bnd (aQ v4 v6 (.b false) h6) fun v7 h7 =>
 aX v7 (
   aCk r n kk16 x1 x2 x5 x6 h7) (
   cN r n x5 h7)
noncomputable def jY (r : RT) (n : Nat) (m : Nat) : eY :=
 Nat.rec (motive := fun _ => eY) (fun _ _ _ _ _ => none) (fun _ ih => kZ r n ih) m
noncomputable def aQv (r : RT) (n : Nat) : eY := jY r n n
noncomputable def aEn (r : RT) (n : Nat) (x1 x2 x5 x6 : DV) (h0 : Hp) : aG :=
 aQv r n x1 x2 x5 x6 h0
noncomputable def aDx (r : RT) (n : Nat) (x1 x2 x5 : DV) (h0 : Hp) : aG :=
 aEn r n x1 x2 x5 (.i .i64 (Int.ofNat 0)) h0
noncomputable def aIu (r : RT) (n : Nat) (x1 x2 : DV) (h0 : Hp) : aG :=
 aDx r n x1 x2 (.s [40]) h0
noncomputable def aAe (r : RT) (n : Nat) (x1 x2 : DV) (h0 : Hp) : aG :=
 bnd (aD .eql x1 (.i .i64 (Int.ofNat 3)) h0) fun v1 h1 =>
 aX v1 (
 some ((.s [40, 46, 46, 41]), h1)) (
  aIu r n x1 x2 h1)
noncomputable def zE (r : RT) (n : Nat) (x1 x2 x9 x25 : DV) (h0 : Hp) : aG :=
 aX x25 (
  aAe r n x1 x2 h0) (
 bnd (aD .eql x9 (.i .i64 (Int.ofNat 4)) h0) fun v1 h1 =>
 aX v1 (
 some ((.s [97, 32, 80, 111, 105, 110, 116]), h1)) (
 bnd (aD .eql x9 (.i .i64 (Int.ofNat 5)) h1) fun v2 h2 =>
 aX v2 (
 some ((.s [97, 110, 32, 69, 103, 103]), h2)) (
 bnd (aD .eql x9 (.i .i64 (Int.ofNat 6)) h2) fun v3 h3 =>
 aX v3 (
 bnd (aJ [(.s []), (.s []), (.s []), (.s []), (.s []), (.s []), (.s []), (.s []), (.s []), (.s []), (.s []), (.s []), (.s []), (.s []), (.s []), (.s [])] 16 [(0, 1, (.s [79, 98, 106, 101, 99, 116])), (1, 1, (.s [67, 108, 97, 115, 115])), (2, 1, (.s [85, 110, 100, 101, 102, 105, 110, 101, 100, 79, 98, 106, 101, 99, 116])), (3, 1, (.s [66, 111, 111, 108, 101, 97, 110])), (4, 1, (.s [84, 114, 117, 101])), (5, 1, (.s [70, 97, 108, 115, 101])), (6, 1, (.s [73, 110, 116, 101, 103, 101, 114])), (7, 1, (.s [83, 109, 97, 108, 108, 73, 110, 116, 101, 103, 101, 114])), (8, 1, (.s [76, 97, 114, 103, 101, 73, 110, 116, 101, 103, 101, 114])), (9, 1, (.s [65, 114, 114, 97, 121])), (10, 1, (.s [83, 116, 114, 105, 110, 103])), (11, 1, (.s [83, 121, 109, 98, 111, 108])), (12, 1, (.s [66, 108, 111, 99, 107])), (13, 1, (.s [67, 111, 110, 116, 101, 120, 116])), (14, 1, (.s [77, 101, 116, 104, 111, 100])), (15, 1, (.s [77, 101, 115, 115, 97, 103, 101]))] h3) fun v4 h4 =>
 bnd (aB 1 x2 h4) fun v5 h5 =>
 bnd (aA v5 h5) fun v6 h6 =>
 bnd (aF 1 v4 v6 h6) fun v7 h7 =>
 bnd (aA v7 h7) fun v8 h8 =>
 some (v8, h8)) (
 bnd (aD .eql x9 (.i .i64 (Int.ofNat 8)) h3) fun v9 h9 =>
 aX v9 (
 some ((.s [116, 114, 117, 101]), h9)) (
 bnd (aD .eql x9 (.i .i64 (Int.ofNat 9)) h9) fun v10 h10 =>
 aX v10 (
 some ((.s [102, 97, 108, 115, 101]), h10)) (
       aW r n h10))))))
noncomputable def aUe (r : RT) (n : Nat) (x1 x2 x9 : DV) (h0 : Hp) : aG :=
 bnd (aD .eql x9 (.i .i64 (Int.ofNat 3)) h0) fun v1 h1 =>
  zE r n x1 x2 x9 v1 h1
noncomputable def aLt (r : RT) (n : Nat) (x1 x2 x9 x20 : DV) (h0 : Hp) : aG :=
 aX x20 (
 bnd (aB 2 x2 h0) fun v1 h1 =>
 bnd (aA v1 h1) fun v2 h2 =>
 bnd (dA .add (.s [35]) v2 h2) fun v3 h3 =>
 some (v3, h3)) (
  aUe r n x1 x2 x9 h0)
noncomputable def aSp (r : RT) (n : Nat) (x1 x2 x9 : DV) (h0 : Hp) : aG :=
 bnd (aD .eql x9 (.i .i64 (Int.ofNat 2)) h0) fun v1 h1 =>
  aLt r n x1 x2 x9 v1 h1
noncomputable def aJj (r : RT) (n : Nat) (x1 x2 x9 x15 : DV) (h0 : Hp) : aG :=
 aX x15 (
 bnd (aB 2 x2 h0) fun v1 h1 =>
 bnd (aA v1 h1) fun v2 h2 =>
 bnd (r 63 [v2] h2) fun v3 h3 =>
 some (v3, h3)) (
  aSp r n x1 x2 x9 h0)
noncomputable def aVe (r : RT) (n : Nat) (x1 x2 x9 : DV) (h0 : Hp) : aG :=
 bnd (aD .eql x9 (.i .i64 (Int.ofNat 1)) h0) fun v1 h1 =>
  aJj r n x1 x2 x9 v1 h1
noncomputable def aJz (r : RT) (n : Nat) (x1 x2 x9 x10 : DV) (h0 : Hp) : aG :=
 aX x10 (
 bnd (aB 1 x2 h0) fun v1 h1 =>
 bnd (aA v1 h1) fun v2 h2 =>
 bnd (r 62 [v2] h2) fun v3 h3 =>
 some (v3, h3)) (
  aVe r n x1 x2 x9 h0)
noncomputable def aLp (r : RT) (n : Nat) (x1 x2 x9 : DV) (h0 : Hp) : aG :=
 bnd (aD .eql x9 (.i .i64 (Int.ofNat 0)) h0) fun v1 h1 =>
  aJz r n x1 x2 x9 v1 h1
noncomputable def yK (r : RT) (n : Nat) (x1 x2 : DV) (h0 : Hp) : aG :=
 bnd (aB 0 x2 h0) fun v1 h1 =>
 bnd (aA v1 h1) fun v2 h2 =>
  aLp r n x1 x2 v2 h2
noncomputable def s28 (r : RT) (n : Nat) (x0 x1 : DV) (h0 : Hp) : aG :=
 bnd (cB x0 h0) fun v1 h1 =>
  yK r n x1 v1 h1
noncomputable abbrev c28 : Code := cf Tryz.f28
noncomputable abbrev aZl : Code := cR c28
noncomputable abbrev dAo : Code := cR aZl
noncomputable abbrev aIz : Code := cL aZl
noncomputable abbrev bMz : Code := cR aIz
noncomputable abbrev aSo : Code := cL bMz
noncomputable abbrev aKu : Code := cR aSo
noncomputable abbrev aMb : Code := cR aKu
noncomputable abbrev aLh : Code := cR aMb
noncomputable abbrev aKr : Code := cR aLh
noncomputable abbrev wD : Code := cR aKr
noncomputable abbrev xI : Code := cR wD
noncomputable abbrev zV : Code := cR xI
noncomputable abbrev wP : Code := cL zV
noncomputable abbrev aHy : Code := cR wP
noncomputable abbrev aGn : Code := cR aHy
noncomputable abbrev cTt : Code := cR aGn
noncomputable abbrev xU : Code := cL aGn
noncomputable abbrev aNj : Code := cR xU
noncomputable abbrev aCm : Code := cL aNj
noncomputable abbrev lF : Code := cL aCm
noncomputable abbrev aHa : Code := cR lF
noncomputable abbrev cPd : Code := cR aHa
noncomputable abbrev aDh : Code := cL aHa
noncomputable abbrev aEd : Code := cL aDh
noncomputable abbrev cMr : Code := cR aEd
noncomputable abbrev bQu : Code := cL aEd
noncomputable abbrev bMw : Code := cL lF
noncomputable abbrev bMr : Code := cL xU
noncomputable abbrev bMb : Code := cL aHy
noncomputable abbrev bHw : Code := cL wP
noncomputable abbrev cVz : Code := cR zV
noncomputable abbrev bJi : Code := cL xI
noncomputable abbrev cPy : Code := cL wD
noncomputable abbrev bHh : Code := cL aKr
noncomputable abbrev cPa : Code := cL aLh
noncomputable abbrev bMu : Code := cL aMb
noncomputable abbrev cNb : Code := cL aKu
noncomputable abbrev bLu : Code := cL aSo
noncomputable abbrev bFr : Code := cL aIz
noncomputable abbrev aRb : Code := cL c28
noncomputable abbrev r28 : K := aS CF Tryz.f28
noncomputable def D28 (r : RT) (n : Nat) (c : Code) (X : Nat → K) (k : K) : K := aP CF r 76 n c X r28 k
theorem cTu : D28 r n dAo x0 r28 = (K0 (aW r n)) :=
 (by kernel_rfl)
theorem bXv : D28 r n cTt (xs x0 0 (K0 (aW r n))) (K0 (aW r n)) = (K1 (cN r n) 5) :=
 (by kernel_rfl)
theorem bWy (kk16 : eY) : D28 r n cPd (xs (xs x0 0 (K0 (aW r n))) 1 (K1 (cN r n) 5)) (K4 kk16 1 2 5 6) = (K4 (hY r n kk16) 1 2 5 6) :=
 (by kernel_rfl)
theorem cEu (kk16 : eY) : D28 r n cMr (xs (xs (xs x0 0 (K0 (aW r n))) 1 (K1 (cN r n) 5)) 2 (K4 (hY r n kk16) 1 2 5 6)) (K4 (hY r n kk16) 1 2 5 6) = (K4 (sM r n kk16) 1 2 5 6) :=
 (by kernel_rfl)
theorem bJy (kk16 : eY) : D28 r n aHa (xs (xs x0 0 (K0 (aW r n))) 1 (K1 (cN r n) 5)) (K4 kk16 1 2 5 6) = D28 r n aDh (xs (xs x0 0 (K0 (aW r n))) 1 (K1 (cN r n) 5)) (K4 (hY r n kk16) 1 2 5 6) :=
 congrArg (fun k => D28 r n aDh (xs (xs x0 0 (K0 (aW r n))) 1 (K1 (cN r n) 5)) k) (bWy r n kk16)
theorem bGh (kk16 : eY) : D28 r n aEd (xs (xs (xs x0 0 (K0 (aW r n))) 1 (K1 (cN r n) 5)) 2 (K4 (hY r n kk16) 1 2 5 6)) (K4 (hY r n kk16) 1 2 5 6) = D28 r n bQu (xs (xs (xs x0 0 (K0 (aW r n))) 1 (K1 (cN r n) 5)) 2 (K4 (hY r n kk16) 1 2 5 6)) (K4 (sM r n kk16) 1 2 5 6) :=
 congrArg (fun k => D28 r n bQu (xs (xs (xs x0 0 (K0 (aW r n))) 1 (K1 (cN r n) 5)) 2 (K4 (hY r n kk16) 1 2 5 6)) k) (cEu r n kk16)
theorem bXg (kk16 : eY) : D28 r n aHa (xs (xs x0 0 (K0 (aW r n))) 1 (K1 (cN r n) 5)) (K4 kk16 1 2 5 6) = (K4 (aCk r n kk16) 1 2 5 6) :=
 (bJy r n kk16).trans
 ((by kernel_rfl : D28 r n aDh (xs (xs x0 0 (K0 (aW r n))) 1 (K1 (cN r n) 5)) (K4 (hY r n kk16) 1 2 5 6) = D28 r n aEd (xs (xs (xs x0 0 (K0 (aW r n))) 1 (K1 (cN r n) 5)) 2 (K4 (hY r n kk16) 1 2 5 6)) (K4 (hY r n kk16) 1 2 5 6)).trans
 ((bGh r n kk16).trans
 ((by kernel_rfl))))
theorem bMj (kk16 : eY) : D28 r n lF (xs (xs x0 0 (K0 (aW r n))) 1 (K1 (cN r n) 5)) (K4 kk16 1 2 5 6) = D28 r n bMw (xs (xs x0 0 (K0 (aW r n))) 1 (K1 (cN r n) 5)) (K4 (aCk r n kk16) 1 2 5 6) :=
 congrArg (fun k => D28 r n bMw (xs (xs x0 0 (K0 (aW r n))) 1 (K1 (cN r n) 5)) k) (bXg r n kk16)
theorem bQk (kk16 : eY) : D28 r n lF (xs (xs x0 0 (K0 (aW r n))) 1 (K1 (cN r n) 5)) (K4 kk16 1 2 5 6) = (K4 (kZ r n kk16) 1 2 5 6) :=
 (bMj r n kk16).trans
 ((by kernel_rfl))
theorem bNh (m : Nat) : aO (fun kk => D28 r n lF (xs (xs x0 0 (K0 (aW r n))) 1 (K1 (cN r n) 5)) kk) m = (K4 (jY r n m) 1 2 5 6) := by
 induction m with
 | zero => exact (by kernel_rfl : aO (fun kk => D28 r n lF (xs (xs x0 0 (K0 (aW r n))) 1 (K1 (cN r n) 5)) kk) 0 = (K4 (jY r n 0) 1 2 5 6))
 | succ m ih =>
  refine (by kernel_rfl : aO (fun kk => D28 r n lF (xs (xs x0 0 (K0 (aW r n))) 1 (K1 (cN r n) 5)) kk) (m + 1) = D28 r n lF (xs (xs x0 0 (K0 (aW r n))) 1 (K1 (cN r n) 5)) (aO (fun kk => D28 r n lF (xs (xs x0 0 (K0 (aW r n))) 1 (K1 (cN r n) 5)) kk) m)).trans ?_
  rw [ih]
  exact (bQk r n (jY r n m)).trans (by kernel_rfl)
theorem cFn : D28 r n aCm (xs (xs x0 0 (K0 (aW r n))) 1 (K1 (cN r n) 5)) (K1 (cN r n) 5) = (K4 (aQv r n) 1 2 5 6) :=
 (by kernel_rfl : D28 r n aCm (xs (xs x0 0 (K0 (aW r n))) 1 (K1 (cN r n) 5)) (K1 (cN r n) 5) = aO (fun kk => D28 r n lF (xs (xs x0 0 (K0 (aW r n))) 1 (K1 (cN r n) 5)) kk) n).trans ((bNh r n n).trans (by kernel_rfl))
theorem cBk : D28 r n aNj (xs x0 0 (K0 (aW r n))) (K1 (cN r n) 5) = (K4 (aEn r n) 1 2 5 6) :=
 (by kernel_rfl : D28 r n aNj (xs x0 0 (K0 (aW r n))) (K1 (cN r n) 5) = D28 r n aCm (xs (xs x0 0 (K0 (aW r n))) 1 (K1 (cN r n) 5)) (K1 (cN r n) 5)).trans
 ((cFn r n).trans (by kernel_rfl))
theorem bGb : D28 r n aGn (xs x0 0 (K0 (aW r n))) (K0 (aW r n)) = D28 r n xU (xs x0 0 (K0 (aW r n))) (K1 (cN r n) 5) :=
 congrArg (fun k => D28 r n xU (xs x0 0 (K0 (aW r n))) k) (bXv r n)
theorem bQf : D28 r n xU (xs x0 0 (K0 (aW r n))) (K1 (cN r n) 5) = D28 r n bMr (xs x0 0 (K0 (aW r n))) (K4 (aEn r n) 1 2 5 6) :=
 congrArg (fun k => D28 r n bMr (xs x0 0 (K0 (aW r n))) k) (cBk r n)
theorem cCx : D28 r n aGn (xs x0 0 (K0 (aW r n))) (K0 (aW r n)) = (K3 (aDx r n) 1 2 5) :=
 (bGb r n).trans
 ((bQf r n).trans
 ((by kernel_rfl)))
theorem bEb : D28 r n aHy (xs x0 0 (K0 (aW r n))) (K0 (aW r n)) = D28 r n bMb (xs x0 0 (K0 (aW r n))) (K3 (aDx r n) 1 2 5) :=
 congrArg (fun k => D28 r n bMb (xs x0 0 (K0 (aW r n))) k) (cCx r n)
theorem cBn : D28 r n aHy (xs x0 0 (K0 (aW r n))) (K0 (aW r n)) = (K2 (aIu r n) 1 2) :=
 (bEb r n).trans
 ((by kernel_rfl))
theorem bHs : D28 r n wP (xs x0 0 (K0 (aW r n))) (K0 (aW r n)) = D28 r n bHw (xs x0 0 (K0 (aW r n))) (K2 (aIu r n) 1 2) :=
 congrArg (fun k => D28 r n bHw (xs x0 0 (K0 (aW r n))) k) (cBn r n)
theorem bWk : D28 r n wP (xs x0 0 (K0 (aW r n))) (K0 (aW r n)) = (K2 (aAe r n) 1 2) :=
 (bHs r n).trans
 ((by kernel_rfl))
theorem bUn : D28 r n zV (xs x0 0 (K0 (aW r n))) (K0 (aW r n)) = (K4 (zE r n) 1 2 9 25) :=
 (by kernel_rfl : D28 r n zV (xs x0 0 (K0 (aW r n))) (K0 (aW r n)) = (fun (env : bF) (h : Hp) => aX (opr env (cC zV)) (D28 r n wP (xs x0 0 (K0 (aW r n))) (K0 (aW r n)) env h) (D28 r n cVz (xs x0 0 (K0 (aW r n))) (K0 (aW r n)) env h))).trans (by rw [bWk r n]; kernel_rfl)
theorem bXz : D28 r n xI (xs x0 0 (K0 (aW r n))) (K0 (aW r n)) = D28 r n bJi (xs x0 0 (K0 (aW r n))) (K4 (zE r n) 1 2 9 25) :=
 congrArg (fun k => D28 r n bJi (xs x0 0 (K0 (aW r n))) k) (bUn r n)
theorem cOo : D28 r n xI (xs x0 0 (K0 (aW r n))) (K0 (aW r n)) = (K3 (aUe r n) 1 2 9) :=
 (bXz r n).trans
 ((by kernel_rfl))
theorem cNr : D28 r n wD (xs x0 0 (K0 (aW r n))) (K0 (aW r n)) = (K4 (aLt r n) 1 2 9 20) :=
 (by kernel_rfl : D28 r n wD (xs x0 0 (K0 (aW r n))) (K0 (aW r n)) = (fun (env : bF) (h : Hp) => aX (opr env (cC wD)) (D28 r n cPy (xs x0 0 (K0 (aW r n))) (K0 (aW r n)) env h) (D28 r n xI (xs x0 0 (K0 (aW r n))) (K0 (aW r n)) env h))).trans (by rw [cOo r n]; kernel_rfl)
theorem bZb : D28 r n aKr (xs x0 0 (K0 (aW r n))) (K0 (aW r n)) = D28 r n bHh (xs x0 0 (K0 (aW r n))) (K4 (aLt r n) 1 2 9 20) :=
 congrArg (fun k => D28 r n bHh (xs x0 0 (K0 (aW r n))) k) (cNr r n)
theorem cOj : D28 r n aKr (xs x0 0 (K0 (aW r n))) (K0 (aW r n)) = (K3 (aSp r n) 1 2 9) :=
 (bZb r n).trans
 ((by kernel_rfl))
theorem cQb : D28 r n aLh (xs x0 0 (K0 (aW r n))) (K0 (aW r n)) = (K4 (aJj r n) 1 2 9 15) :=
 (by kernel_rfl : D28 r n aLh (xs x0 0 (K0 (aW r n))) (K0 (aW r n)) = (fun (env : bF) (h : Hp) => aX (opr env (cC aLh)) (D28 r n cPa (xs x0 0 (K0 (aW r n))) (K0 (aW r n)) env h) (D28 r n aKr (xs x0 0 (K0 (aW r n))) (K0 (aW r n)) env h))).trans (by rw [cOj r n]; kernel_rfl)
theorem bIg : D28 r n aMb (xs x0 0 (K0 (aW r n))) (K0 (aW r n)) = D28 r n bMu (xs x0 0 (K0 (aW r n))) (K4 (aJj r n) 1 2 9 15) :=
 congrArg (fun k => D28 r n bMu (xs x0 0 (K0 (aW r n))) k) (cQb r n)
theorem cTp : D28 r n aMb (xs x0 0 (K0 (aW r n))) (K0 (aW r n)) = (K3 (aVe r n) 1 2 9) :=
 (bIg r n).trans
 ((by kernel_rfl))
theorem cQe : D28 r n aKu (xs x0 0 (K0 (aW r n))) (K0 (aW r n)) = (K4 (aJz r n) 1 2 9 10) :=
 (by kernel_rfl : D28 r n aKu (xs x0 0 (K0 (aW r n))) (K0 (aW r n)) = (fun (env : bF) (h : Hp) => aX (opr env (cC aKu)) (D28 r n cNb (xs x0 0 (K0 (aW r n))) (K0 (aW r n)) env h) (D28 r n aMb (xs x0 0 (K0 (aW r n))) (K0 (aW r n)) env h))).trans (by rw [cTp r n]; kernel_rfl)
theorem bNv : D28 r n aSo (xs x0 0 (K0 (aW r n))) (K0 (aW r n)) = D28 r n bLu (xs x0 0 (K0 (aW r n))) (K4 (aJz r n) 1 2 9 10) :=
 congrArg (fun k => D28 r n bLu (xs x0 0 (K0 (aW r n))) k) (cQe r n)
theorem cPx : D28 r n bMz x0 (K0 (aW r n)) = (K3 (aLp r n) 1 2 9) :=
 (by kernel_rfl : D28 r n bMz x0 (K0 (aW r n)) = D28 r n aSo (xs x0 0 (K0 (aW r n))) (K0 (aW r n))).trans
 ((bNv r n).trans
 ((by kernel_rfl)))
theorem bKl : D28 r n aZl x0 r28 = D28 r n aIz x0 (K0 (aW r n)) :=
 congrArg (fun k => D28 r n aIz x0 k) (cTu r n)
theorem bEr : D28 r n aIz x0 (K0 (aW r n)) = D28 r n bFr x0 (K3 (aLp r n) 1 2 9) :=
 congrArg (fun k => D28 r n bFr x0 k) (cPx r n)
theorem cRi : D28 r n aZl x0 r28 = (K2 (yK r n) 1 2) :=
 (bKl r n).trans
 ((bEr r n).trans
 ((by kernel_rfl)))
theorem cQh : D28 r n c28 x0 r28 = D28 r n aRb x0 (K2 (yK r n) 1 2) :=
 congrArg (fun k => D28 r n aRb x0 k) (cRi r n)
theorem cMo (q0 : uL) : D28 r n aRb x0 (K2 q0 1 2) = fun (env : bF) (h : Hp) =>
 bnd (cB (env 0) h) fun v1 h1 =>
  q0 (env 1) v1 h1 := by kernel_rfl
theorem bZz : (fun (env : bF) (h : Hp) =>
 bnd (cB (env 0) h) fun v1 h1 =>
  yK r n (env 1) v1 h1) = (K2 (s28 r n) 0 1) := by kernel_rfl
theorem dGo : D28 r n c28 x0 r28 = (K2 (s28 r n) 0 1) :=
 (cQh r n).trans
 ((cMo r n (yK r n)).trans (bZz r n))
theorem bOs : aE CF r n 28 args h = s28 r n (aT args 0) (aT args 1) h :=
 (by kernel_rfl : aE CF r n 28 args h = D28 r n c28 x0 r28 (aH args) h).trans ((congrFun (congrFun (dGo r n) (aH args)) h).trans (by kernel_rfl))
noncomputable def s31 (r : RT) (n : Nat) (x0 x1 : DV) (h0 : Hp) : aG :=
 bnd (r 67 [x0, x1] h0) fun v1 h1 =>
 bnd (aD .geq v1 (.i .i64 (Int.ofNat 0)) h1) fun v2 h2 =>
 some (v2, h2)
noncomputable abbrev c31 : Code := cf Tryz.f31
noncomputable abbrev r31 : K := aS CF Tryz.f31
noncomputable def D31 (r : RT) (n : Nat) (c : Code) (X : Nat → K) (k : K) : K := aP CF r 9 n c X r31 k
theorem dIv : D31 r n c31 x0 r31 = (K2 (s31 r n) 0 1) :=
 (by kernel_rfl)
theorem cJe : aE CF r n 31 args h = s31 r n (aT args 0) (aT args 1) h :=
 (by kernel_rfl : aE CF r n 31 args h = D31 r n c31 x0 r31 (aH args) h).trans ((congrFun (congrFun (dIv r n) (aH args)) h).trans (by kernel_rfl))
noncomputable def s32 (r : RT) (n : Nat) (x0 x1 : DV) (h0 : Hp) : aG :=
 bnd (aA x1 h0) fun v1 h1 =>
 bnd (bD v1 h1) fun v2 h2 =>
 bnd (aB 0 v2 h2) fun v3 h3 =>
 bnd (aA v3 h3) fun v4 h4 =>
 bnd (aEb [v4, x0] h4) fun v5 h5 =>
 bnd (jW .not v5 h5) fun v6 h6 =>
 some (v6, h6)
noncomputable abbrev c32 : Code := cf Tryz.f32
noncomputable abbrev r32 : K := aS CF Tryz.f32
noncomputable def D32 (r : RT) (n : Nat) (c : Code) (X : Nat → K) (k : K) : K := aP CF r 11 n c X r32 k
theorem dIg : D32 r n c32 x0 r32 = (K2 (s32 r n) 0 1) :=
 (by kernel_rfl)
theorem cJx : aE CF r n 32 args h = s32 r n (aT args 0) (aT args 1) h :=
 (by kernel_rfl : aE CF r n 32 args h = D32 r n c32 x0 r32 (aH args) h).trans ((congrFun (congrFun (dIg r n) (aH args)) h).trans (by kernel_rfl))
noncomputable def iH (r : RT) (n : Nat) (x10 : DV) (h0 : Hp) : aG :=
 some (.t [x10, (.i .i64 (Int.ofNat 0))], h0)
noncomputable def rV (r : RT) (n : Nat) (kk6 : cZ) (x0 x10 x29 x30 x31 : DV) (h0 : Hp) : aG :=
 bnd (aD .lss x31 x30 h0) fun v1 h1 =>
 aX v1 (
 bnd (aF 1 x29 x31 h1) fun v2 h2 =>
 bnd (aA v2 h2) fun v3 h3 =>
 bnd (bD x0 h3) fun v4 h4 =>
 bnd (aB 0 v4 h4) fun v5 h5 =>
 bnd (aA v5 h5) fun v6 h6 =>
 bnd (wX [v6, x10, x31, v3] h6) fun v7 h7 =>
 bnd (aD .add x31 (.i .i64 (Int.ofNat 1)) h7) fun v8 h8 =>
      kk6 x0 x10 x29 x30 v8 h8) (
      iH r n x10 h1)
noncomputable def pS (r : RT) (n : Nat) (m : Nat) : cZ :=
 Nat.rec (motive := fun _ => cZ) (fun _ _ _ _ _ _ => none) (fun _ ih => rV r n ih) m
noncomputable def bQd (r : RT) (n : Nat) : cZ := pS r n n
noncomputable def aWl (r : RT) (n : Nat) (x0 x10 x29 x30 x31 : DV) (h0 : Hp) : aG :=
 bQd r n x0 x10 x29 x30 x31 h0
noncomputable def aZi (r : RT) (n : Nat) (x0 x3 x10 : DV) (h0 : Hp) : aG :=
 bnd (cO x3 h0) fun v1 h1 =>
  aWl r n x0 x10 x3 v1 (.i .i64 (Int.ofNat 0)) h1
noncomputable def aUl (r : RT) (n : Nat) (x0 x3 x10 x11 : DV) (h0 : Hp) : aG :=
 bnd (aD .neq x11 (.i .i64 (Int.ofNat 0)) h0) fun v1 h1 =>
 aX v1 (
 some (.t [(.i .i64 (Int.ofNat 0)), x11], h1)) (
  aZi r n x0 x3 x10 h1)
noncomputable def aYr (r : RT) (n : Nat) (x0 x1 x2 x3 : DV) (h0 : Hp) : aG :=
 bnd (bD x0 h0) fun v1 h1 =>
 bnd (aB 0 v1 h1) fun v2 h2 =>
 bnd (aA v2 h2) fun v3 h3 =>
 bnd (cO x3 h3) fun v4 h4 =>
 bnd (jQ [v3, x1, x2, v4] h4) fun v5 h5 =>
 bnd (aC 0 v5 h5) fun v6 h6 =>
 bnd (aC 1 v5 h6) fun v7 h7 =>
  aUl r n x0 x3 v6 v7 h7
noncomputable def s33 (r : RT) (n : Nat) (x0 x1 x2 x3 : DV) (h0 : Hp) : aG :=
 aYr r n x0 x1 x2 x3 h0
noncomputable abbrev c33 : Code := cf Tryz.f33
noncomputable abbrev aUd : Code := cR c33
noncomputable abbrev aVy : Code := cR aUd
noncomputable abbrev aZc : Code := cR aVy
noncomputable abbrev cXm : Code := cR aZc
noncomputable abbrev aMc : Code := cL aZc
noncomputable abbrev bSq : Code := cR aMc
noncomputable abbrev aUb : Code := cL bSq
noncomputable abbrev xB : Code := cL aUb
noncomputable abbrev cKi : Code := cL aMc
noncomputable abbrev bDp : Code := cL aVy
noncomputable abbrev bFm : Code := cL aUd
noncomputable abbrev bMd : Code := cL c33
noncomputable abbrev r33 : K := aS CF Tryz.f33
noncomputable def D33 (r : RT) (n : Nat) (c : Code) (X : Nat → K) (k : K) : K := aP CF r 46 n c X r33 k
theorem cSv : D33 r n cXm x0 r33 = (K1 (iH r n) 10) :=
 (by kernel_rfl)
theorem bZj (kk6 : cZ) : D33 r n xB (xs x0 0 (K1 (iH r n) 10)) (K5 kk6 0 10 29 30 31) = (K5 (rV r n kk6) 0 10 29 30 31) :=
 (by kernel_rfl)
theorem cEb (m : Nat) : aO (fun kk => D33 r n xB (xs x0 0 (K1 (iH r n) 10)) kk) m = (K5 (pS r n m) 0 10 29 30 31) := by
 induction m with
 | zero => exact (by kernel_rfl : aO (fun kk => D33 r n xB (xs x0 0 (K1 (iH r n) 10)) kk) 0 = (K5 (pS r n 0) 0 10 29 30 31))
 | succ m ih =>
  refine (by kernel_rfl : aO (fun kk => D33 r n xB (xs x0 0 (K1 (iH r n) 10)) kk) (m + 1) = D33 r n xB (xs x0 0 (K1 (iH r n) 10)) (aO (fun kk => D33 r n xB (xs x0 0 (K1 (iH r n) 10)) kk) m)).trans ?_
  rw [ih]
  exact (bZj r n (pS r n m)).trans (by kernel_rfl)
theorem cSs : D33 r n aUb (xs x0 0 (K1 (iH r n) 10)) (K1 (iH r n) 10) = (K5 (bQd r n) 0 10 29 30 31) :=
 (by kernel_rfl : D33 r n aUb (xs x0 0 (K1 (iH r n) 10)) (K1 (iH r n) 10) = aO (fun kk => D33 r n xB (xs x0 0 (K1 (iH r n) 10)) kk) n).trans ((cEb r n n).trans (by kernel_rfl))
theorem cSu : D33 r n bSq x0 (K1 (iH r n) 10) = (K5 (aWl r n) 0 10 29 30 31) :=
 (by kernel_rfl : D33 r n bSq x0 (K1 (iH r n) 10) = D33 r n aUb (xs x0 0 (K1 (iH r n) 10)) (K1 (iH r n) 10)).trans
 ((cSs r n).trans (by kernel_rfl))
theorem bUc : D33 r n aZc x0 r33 = D33 r n aMc x0 (K1 (iH r n) 10) :=
 congrArg (fun k => D33 r n aMc x0 k) (cSv r n)
theorem cEr : D33 r n aMc x0 (K1 (iH r n) 10) = D33 r n cKi x0 (K5 (aWl r n) 0 10 29 30 31) :=
 congrArg (fun k => D33 r n cKi x0 k) (cSu r n)
theorem cNu : D33 r n aZc x0 r33 = (K3 (aZi r n) 0 3 10) :=
 (bUc r n).trans
 ((cEr r n).trans
 ((by kernel_rfl)))
theorem cCz : D33 r n aVy x0 r33 = D33 r n bDp x0 (K3 (aZi r n) 0 3 10) :=
 congrArg (fun k => D33 r n bDp x0 k) (cNu r n)
theorem cMu : D33 r n aVy x0 r33 = (K4 (aUl r n) 0 3 10 11) :=
 (cCz r n).trans
 ((by kernel_rfl))
theorem bYo : D33 r n aUd x0 r33 = D33 r n bFm x0 (K4 (aUl r n) 0 3 10 11) :=
 congrArg (fun k => D33 r n bFm x0 k) (cMu r n)
theorem cMc : D33 r n aUd x0 r33 = (K4 (aYr r n) 0 1 2 3) :=
 (bYo r n).trans
 ((by kernel_rfl))
theorem cXp : D33 r n c33 x0 r33 = D33 r n bMd x0 (K4 (aYr r n) 0 1 2 3) :=
 congrArg (fun k => D33 r n bMd x0 k) (cMc r n)
theorem dFw : D33 r n c33 x0 r33 = (K4 (s33 r n) 0 1 2 3) :=
 (cXp r n).trans
 ((by kernel_rfl))
theorem cIn : aE CF r n 33 args h = s33 r n (aT args 0) (aT args 1) (aT args 2) (aT args 3) h :=
 (by kernel_rfl : aE CF r n 33 args h = D33 r n c33 x0 r33 (aH args) h).trans ((congrFun (congrFun (dFw r n) (aH args)) h).trans (by kernel_rfl))
noncomputable def s39 (r : RT) (n : Nat) (x0 : DV) (h0 : Hp) : aG :=
 bnd (iG [x0] h0) fun v1 h1 =>
 bnd (aC 0 v1 h1) fun v2 h2 =>
 bnd (aC 1 v1 h2) fun v3 h3 =>
 some (v2, h3)
noncomputable abbrev c39 : Code := cf Tryz.f39
noncomputable abbrev r39 : K := aS CF Tryz.f39
noncomputable def D39 (r : RT) (n : Nat) (c : Code) (X : Nat → K) (k : K) : K := aP CF r 11 n c X r39 k
theorem dHn : D39 r n c39 x0 r39 = (K1 (s39 r n) 0) :=
 (by kernel_rfl)
theorem cXh : aE CF r n 39 args h = s39 r n (aT args 0) h :=
 (by kernel_rfl : aE CF r n 39 args h = D39 r n c39 x0 r39 (aH args) h).trans ((congrFun (congrFun (dHn r n) (aH args)) h).trans (by kernel_rfl))
noncomputable def s40 (r : RT) (n : Nat) (x0 x1 x2 : DV) (h0 : Hp) : aG :=
 bnd (r 27 [x0, (aK 9)] h0) fun v1 h1 =>
 bnd (aJ [(aK 0), (aK 0)] 2 [(0, 1, x1), (1, 1, x2)] h1) fun v2 h2 =>
 bnd (r 33 [x0, v1, (aK 0), v2] h2) fun v3 h3 =>
 bnd (aC 0 v3 h3) fun v4 h4 =>
 bnd (aC 1 v3 h4) fun v5 h5 =>
 some (.t [v4, v5], h5)
noncomputable abbrev c40 : Code := cf Tryz.f40
noncomputable abbrev r40 : K := aS CF Tryz.f40
noncomputable def D40 (r : RT) (n : Nat) (c : Code) (X : Nat → K) (k : K) : K := aP CF r 17 n c X r40 k
theorem dJj : D40 r n c40 x0 r40 = (K3 (s40 r n) 0 1 2) :=
 (by kernel_rfl)
theorem cIf : aE CF r n 40 args h = s40 r n (aT args 0) (aT args 1) (aT args 2) h :=
 (by kernel_rfl : aE CF r n 40 args h = D40 r n c40 x0 r40 (aH args) h).trans ((congrFun (congrFun (dJj r n) (aH args)) h).trans (by kernel_rfl))
noncomputable def s42 (r : RT) (n : Nat) (x0 x1 x2 : DV) (h0 : Hp) : aG :=
 bnd (r 26 [x0, x1] h0) fun v1 h1 =>
 bnd (aD .eql v1 (aK 0) h1) fun v2 h2 =>
 aX v2 (
 some (.t [(aK 0), (aK 0), (.s []), (aK 24)], h2)) (
 bnd (r 70 [x2] h2) fun v3 h3 =>
 bnd (aC 0 v3 h3) fun v4 h4 =>
 bnd (aC 1 v3 h4) fun v5 h5 =>
 bnd (aC 2 v3 h5) fun v6 h6 =>
 bnd (cF zr6 h6) fun v7 h7 =>
 bnd (aI 6 v7 v4 h7) fun _ h8 =>
 bnd (aD .neq v6 (aK 0) h8) fun v9 h9 =>
 aX v9 (
 some (.t [(aK 0), v5, (.s []), v6], h9)) (
 bnd (aN 6 v7 (resv 1 h9)) fun v10 h10 =>
 bnd (r 45 [x0, v1] h10) fun v11 h11 =>
 cnd (bQ (aN 6 v7 h11) v10 && true) (
 bnd (r 71 [v10, v11] h11) fun v12 h12 =>
 bnd (aC 0 v12 h12) fun v13 h13 =>
 bnd (aC 1 v12 h13) fun v14 h14 =>
 bnd (aC 2 v12 h14) fun v15 h15 =>
 bnd (mO (cH 0 h9.next) [(.s []), (aK 0), (aK 0), (aK 0), .l0, .l0] h15) fun v16 h16 =>
 bnd (aI 6 v16 v13 h16) fun v17 h17 =>
 bnd (aD .neq v15 (aK 0) h17) fun v18 h18 =>
 aX v18 (
 some (.t [(aK 0), (aK 0), v14, v15], h18)) (
 bnd (aN 6 v16 h18) fun v19 h19 =>
 bnd (r 72 [x0, v1, v19] h19) fun v20 h20 =>
 bnd (aC 0 v20 h20) fun v21 h21 =>
 bnd (aC 1 v20 h21) fun v22 h22 =>
 bnd (aD .neq v22 (aK 0) h22) fun v23 h23 =>
 aX v23 (
 some (.t [(aK 0), (aK 0), (.s []), v22], h23)) (
 some (.t [v21, (aK 0), (.s []), (aK 0)], h23))))))
noncomputable abbrev c42 : Code := cf Tryz.f42
noncomputable abbrev r42 : K := aS CF Tryz.f42
noncomputable def D42 (r : RT) (n : Nat) (c : Code) (X : Nat → K) (k : K) : K := aP CF r 56 n c X r42 k
theorem dGk : D42 r n c42 x0 r42 = (K3 (s42 r n) 0 1 2) :=
 (by kernel_rfl)
theorem dCp : aE CF r n 42 args h = s42 r n (aT args 0) (aT args 1) (aT args 2) h :=
 (by kernel_rfl : aE CF r n 42 args h = D42 r n c42 x0 r42 (aH args) h).trans ((congrFun (congrFun (dGk r n) (aH args)) h).trans (by kernel_rfl))
noncomputable def s44 (r : RT) (n : Nat) (x0 x1 : DV) (h0 : Hp) : aG :=
 bnd (r 73 [x0, x1] h0) fun v1 h1 =>
 bnd (jW .not v1 h1) fun v2 h2 =>
 aX v2 (
 some ((.i .i64 (Int.negSucc 0)), h2)) (
 bnd (r 75 [x0, x1, (.i .i64 (Int.ofNat 5))] h2) fun v3 h3 =>
 bnd (kH [v3] h3) fun v4 h4 =>
 some (v4, h4))
noncomputable abbrev c44 : Code := cf Tryz.f44
noncomputable abbrev r44 : K := aS CF Tryz.f44
noncomputable def D44 (r : RT) (n : Nat) (c : Code) (X : Nat → K) (k : K) : K := aP CF r 13 n c X r44 k
theorem dHb : D44 r n c44 x0 r44 = (K2 (s44 r n) 0 1) :=
 (by kernel_rfl)
theorem cJs : aE CF r n 44 args h = s44 r n (aT args 0) (aT args 1) h :=
 (by kernel_rfl : aE CF r n 44 args h = D44 r n c44 x0 r44 (aH args) h).trans ((congrFun (congrFun (dHb r n) (aH args)) h).trans (by kernel_rfl))
noncomputable def s49 (r : RT) (n : Nat) (x0 x1 : DV) (h0 : Hp) : aG :=
 bnd (eW [x1] h0) fun v1 h1 =>
 aX v1 (
 bnd (kH [x1] h1) fun v2 h2 =>
 some (.t [v2, (.b true)], h2)) (
 bnd (bD x0 h1) fun v3 h3 =>
 bnd (aB 0 v3 h3) fun v4 h4 =>
 bnd (aA v4 h4) fun v5 h5 =>
 bnd (isF [v5, x1] h5) fun v6 h6 =>
 bnd (gD v6 true (some (x0, h6)) h6) fun v7 h7 =>
 bnd (gD v6 true (bD v7 h7) h7) fun v8 h8 =>
 bnd (gD v6 true (aB 0 v8 h8) h8) fun v9 h9 =>
 bnd (gD v6 true (aA v9 h9) h9) fun v10 h10 =>
 bnd (gD v6 true (some (x1, h10)) h10) fun v11 h11 =>
 bnd (gD v6 true (jL [v10, v11] h11) h11) fun v12 h12 =>
 bnd (gD v6 true (some (x0, h12)) h12) fun v13 h13 =>
 bnd (gD v6 true (r 27 [v13, (.i .i64 (Int.ofNat 8))] h13) h13) fun v14 h14 =>
 bnd (gD v6 true (aD .eql v12 v14 h14) h14) fun v15 h15 =>
 bnd (aQ v6 v15 (.b false) h15) fun v16 h16 =>
 bnd (gD v16 true (some (x0, h16)) h16) fun v17 h17 =>
 bnd (gD v16 true (bD v17 h17) h17) fun v18 h18 =>
 bnd (gD v16 true (aB 0 v18 h18) h18) fun v19 h19 =>
 bnd (gD v16 true (aA v19 h19) h19) fun v20 h20 =>
 bnd (gD v16 true (some (x1, h20)) h20) fun v21 h21 =>
 bnd (gD v16 true (iW [v20, v21] h21) h21) fun v22 h22 =>
 bnd (gD v16 true (aD .eql v22 (.i .i64 (Int.ofNat 1)) h22) h22) fun v23 h23 =>
 bnd (aQ v16 v23 (.b false) h23) fun v24 h24 =>
 aX v24 (
 bnd (r 75 [x0, x1, (.i .i64 (Int.ofNat 0))] h24) fun v25 h25 =>
 some (.t [v25, (.b true)], h25)) (
 some (.t [(.i .i64 (Int.ofNat 0)), (.b false)], h24)))
noncomputable abbrev c49 : Code := cf Tryz.f49
noncomputable abbrev r49 : K := aS CF Tryz.f49
noncomputable def D49 (r : RT) (n : Nat) (c : Code) (X : Nat → K) (k : K) : K := aP CF r 41 n c X r49 k
theorem dFd : D49 r n c49 x0 r49 = (K2 (s49 r n) 0 1) :=
 (by kernel_rfl)
theorem cHq : aE CF r n 49 args h = s49 r n (aT args 0) (aT args 1) h :=
 (by kernel_rfl : aE CF r n 49 args h = D49 r n c49 x0 r49 (aH args) h).trans ((congrFun (congrFun (dFd r n) (aH args)) h).trans (by kernel_rfl))
noncomputable def s51 (r : RT) (n : Nat) (x0 : DV) (h0 : Hp) : aG :=
 bnd (aD .eql x0 (.i .i64 (Int.ofNat 2)) h0) fun v1 h1 =>
 aX v1 (
 some ((.s [116, 114, 117, 101]), h1)) (
 bnd (aD .eql x0 (.i .i64 (Int.ofNat 4)) h1) fun v2 h2 =>
 aX v2 (
 some ((.s [102, 97, 108, 115, 101]), h2)) (
 some ((.s [110, 105, 108]), h2)))
noncomputable abbrev c51 : Code := cf Tryz.f51
noncomputable abbrev r51 : K := aS CF Tryz.f51
noncomputable def D51 (r : RT) (n : Nat) (c : Code) (X : Nat → K) (k : K) : K := aP CF r 8 n c X r51 k
theorem dIz : D51 r n c51 x0 r51 = (K1 (s51 r n) 0) :=
 (by kernel_rfl)
theorem cJp : aE CF r n 51 args h = s51 r n (aT args 0) h :=
 (by kernel_rfl : aE CF r n 51 args h = D51 r n c51 x0 r51 (aH args) h).trans ((congrFun (congrFun (dIz r n) (aH args)) h).trans (by kernel_rfl))
end Go.Dd

