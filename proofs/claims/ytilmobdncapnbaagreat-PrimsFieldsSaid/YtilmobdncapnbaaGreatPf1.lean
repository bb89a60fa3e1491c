/- A part of the proof: N O CH RF1 RF2 RF3 RF4 RF5 RF6 RF7 SM SN RS RG MF Qh Q0 Q1 Q2: each text has a comment of its own. -/
import Derived.Test.YtilmobdncapnbaaGreatPf0
import Derived.LoopN
import Derived.Scope
import Derived.OrdersIn
import Derived.LoopNIn
import Derived.LoopIn
import Derived.RangeFuncIn
import Derived.RangeFuncCalls
import Derived.RangeFuncLeaves
import Derived.Test.YtilmobdncapnbaaGreatProg
import Derived.KernelRfl
set_option linter.unusedVariables false
set_option linter.unusedSimpArgs false
set_option linter.constructorNameAsVariable false
set_option maxRecDepth 100000
namespace Go.Dd
open Go.RowKit (Below)
section
variable {C : Cfg} {G : Gd} {rec : FuncId → List DV → Hp → aI} {ops : Array Oper} {nt : Nat} {p0 : Pos}
theorem qF {listed : Array Bool} {i : Nat} : i ∈ Region.ready .any ops listed ↔ i < ops.size ∧ listed.getD i true = false ∧ ∃ o, ops[i]? = some o ∧ ∀ e ∈ o.after, Region.binds .any e = true → listed.getD e.on false = true := by
 unfold Region.ready
 rw [List.mem_filter]
 simp only [List.mem_range, Bool.and_eq_true, Bool.not_eq_eq_eq_not, Bool.not_true]
 constructor
 ·rintro ⟨h1, h2, h3⟩
  refine ⟨h1, h2, ops[i], by simp [h1], fun e he hb => ?_⟩
  simp only [h1, getElem?_pos, Option.map_some, Option.getD_some] at h3
  have := (Array.all_eq_true_iff_forall_mem.1 h3) e he
  simpa [hb] using this
 ·rintro ⟨h1, h2, o, ho, h3⟩
  refine ⟨h1, h2, ?_⟩
  simp only [ho, Option.map_some, Option.getD_some]
  refine Array.all_eq_true_iff_forall_mem.2 fun e he => ?_
  cases hb : Region.binds .any e with
  | false => simp
  | true => simp [h3 e he hb]
noncomputable def idp (C : Cfg) (ops : Array Oper) (p0 : Pos) (p : Nat) : Pos := bW (cF C.P (ops.toList.take p)) p0
structure Tr1 (C : Cfg) (rec : FuncId → List DV → Hp → aI) (ops : Array Oper) (nt : Nat) (p0 : Pos) (E : Nat → aZ) (Hh : Nat → Hp) (V : Nat → DV) : Prop where
 ok : fC C.P ops = true
 st : ∀ p o, ops[p]? = some o → StepT C rec ops (Region.before ops) nt (idp C ops p0 p) E Hh V 0 [(none, Hh 0)] p o
theorem Tr1.same {E : Nat → aZ} {Hh : Nat → Hp} {V : Nat → DV} (T : Tr1 C rec ops nt p0 E Hh V) {p : Nat} {o : Oper} (ho : ops[p]? = some o) (hc : bT C.P o.op ≠ .acts) (hm : bT C.P o.op ≠ .makes) : Hh (p + 1) = Hh p := by
 have hs := (T.st p o ho).step hm
 cases hcl : bT C.P o.op with
 | pure => exact (qD hcl _ _ _ hs).1
 | reads => exact nJ hcl hs
 | makes => exact absurd hcl hm
 | acts => exact absurd hcl hc
def cYq (C : Cfg) (ops : Array Oper) (q : Nat) : Prop := q = 0 ∨ ∃ j oj, ops[j]? = some oj ∧ bT C.P oj.op = .acts ∧ q = j + 1
theorem nP {m : Array Nat} {i q : Nat} {Pv : Hp → Prop} {Hh : Nat → Hp} {tl : List (Option Nat × Hp)} : ∀ d, q ≤ d → qQ m i Pv (iE C ops Hh 0 d ++ tl) →
  (∀ j oj, ops[j]? = some oj → bT C.P oj.op = .acts → q ≤ j → j < d → ¬ gC m j i = true) → qQ m i Pv (iE C ops Hh 0 q ++ tl)
 | 0, hq, hc, _ => by have : q = 0 := by omega
                      subst this; exact hc
 | d + 1, hq, hc, hno => by
  by_cases e : q = d + 1
  ·subst e; exact hc
  ·have hq' : q ≤ d := by omega
   simp only [iE, Nat.zero_add] at hc
   cases ha : jE C ops d with
   | false =>
    rw [ha] at hc
    simp only [Bool.false_eq_true, if_false, List.nil_append] at hc
    exact nP d hq' hc fun j oj h1 h2 h3 h4 => hno j oj h1 h2 h3 (by omega)
   | true =>
    rw [ha] at hc
    simp only [if_true, List.cons_append, List.nil_append] at hc
    obtain ⟨_, h2⟩ := hc
    have ⟨oj, hoj, hcj⟩ : ∃ oj, ops[d]? = some oj ∧ bT C.P oj.op = .acts := by
     unfold jE at ha
     split at ha
     ·rename_i o ho; exact ⟨o, ho, by simpa using ha⟩
     ·cases ha
    rcases h2 with h2 | h2
    ·exact absurd h2 (hno d oj hoj hcj hq' (by omega))
    ·exact nP d hq' h2 fun j oj h1 h2 h3 h4 => hno j oj h1 h2 h3 (by omega)
theorem Tr1.value {E : Nat → aZ} {Hh : Nat → Hp} {V : Nat → DV} (T : Tr1 C rec ops nt p0 E Hh V) {listed : Array Bool} {i q : Nat} {o : Oper} (ho : ops[i]? = some o) (hc : bT C.P o.op ≠ .acts) (hm : bT C.P o.op ≠ .makes)
  (hq : cYq C ops q) (hgap : ∀ j oj, ops[j]? = some oj → bT C.P oj.op = .acts → (j < q ↔ S listed j))
  (hni : ¬ S listed i) (hdown : ∀ j x, gC (Region.before ops) j x = true → S listed x → S listed j) (hpre : ∀ j, gC (Region.before ops) j i = true → S listed j) :
  bJ C rec ops o (E i) (Hh q) = some (V i, Hh q) := by
 have hst := T.st i o ho
 cases hcl : bT C.P o.op with
 | acts => exact absurd hcl hc
 | makes => exact absurd hcl hm
 | pure => exact (qD hcl _ _ _ (hst.step hm)).2 _
 | reads =>
  rcases Nat.lt_or_ge i q with h | h
  ·rcases hq with rfl | ⟨j, oj, hj, haj, rfl⟩
   ·omega
   ·have hSj : S listed j := (hgap j oj hj haj).1 (by omega)
    have hij : i ≠ j := fun e => by subst e; exact hni hSj
    rcases (T.st j oj hj).acts haj i o (Nat.zero_le _) (by omega) ho hcl with h3 | h3
    ·exact absurd (hdown i j h3 hSj) hni
    ·exact rV hcl h3
  ·have h1 := hst.reads hcl
   rw [Nat.sub_zero] at h1
   have h2 := nP (q := q) i h h1 fun j oj hj haj hqj hji hord => by
    have := (hgap j oj hj haj).2 (hpre j hord)
    omega
   rcases hq with rfl | ⟨j, oj, hj, haj, rfl⟩
   ·exact h2.1
   ·simp only [iE, Nat.zero_add, (bFn hj).2 haj, if_true, List.cons_append, List.nil_append] at h2
    exact h2.1
theorem cQa {listed : Array Bool} {i j : Nat} (hi : i < listed.size) : S (listed.setIfInBounds i true) j ↔ (j = i ∨ S listed j) := by
 unfold S
 by_cases e : j = i
 ·subst e; simp [hi]
 ·simp [Array.getElem?_setIfInBounds_ne (Ne.symm e), e]
theorem rJ {listed : Array Bool} {i : Nat} (hi : i < listed.size) : listed.getD i true = listed.getD i false := by
 simp [hi]
theorem cYx {V : Nat → DV} {env : aZ} {listed : Array Bool} {i : Nat} {o : Oper} (ho : ops[i]? = some o) (hi : i < listed.size) (hni : ¬ S listed i) (t : Nat)
  (hlast : ∀ j oj, i < j → ops[j]? = some oj → oj.dst = some t → o.dst = some t → ¬ S listed j) :
  ∀ p, i < p → TS ops V env (listed.setIfInBounds i true) p t = if o.dst = some t then V i else TS ops V env listed p t := by
 have hbefore : ∀ p, p ≤ i → TS ops V env (listed.setIfInBounds i true) p = TS ops V env listed p := by
  intro p
  induction p with
  | zero => intro _; rfl
  | succ p ih =>
   intro h
   have e : (listed.setIfInBounds i true).getD p false = listed.getD p false := by simp [Array.getElem?_setIfInBounds_ne (show i ≠ p by omega)]
   simp only [TS, ih (by omega), e]
 intro p
 induction p with
 | zero => intro h; omega
 | succ p ih =>
  intro h
  by_cases hpi : p = i
  ·subst hpi
   have e1 : (listed.setIfInBounds p true).getD p false = true := by simp [hi]
   have e2 : ¬ listed.getD p false = true := hni
   simp only [TS, ho, hbefore p (Nat.le_refl _), e1, if_true, lD]
   rw [if_neg e2]
  ·have ih' := ih (by omega)
   have e : (listed.setIfInBounds i true).getD p false = listed.getD p false := by simp [Array.getElem?_setIfInBounds_ne (Ne.symm hpi)]
   cases hop : ops[p]? with
   | none => simp only [TS, hop]; exact ih'
   | some op =>
    simp only [TS, hop, e]
    split
    ·rename_i hl
     rw [lD, lD, ih']
     by_cases hd : op.dst = some t
     ·rw [if_pos hd, if_pos hd]
      by_cases hod : o.dst = some t
      ·exact absurd hl (hlast p op (by omega) hop hd hod)
      ·rw [if_neg hod]
     ·rw [if_neg hd, if_neg hd]
    ·exact ih'
def iH (C : Cfg) (ops : Array Oper) (listed : Array Bool) (q i : Nat) : Prop := ∃ o, ops[i]? = some o ∧ bT C.P o.op = .makes ∧ S listed i ∧ q ≤ i
def GX (G : Gd) (N : Nat) (C : Cfg) (ops : Array Oper) (listed : Array Bool) (R : Nat → Nat) (q : Nat) : Gd := ⟨G.B, fun k => G.X k ∨ ∃ i, iH C ops listed q i ∧ R i = k, N, G.W, G.ok⟩
structure Made (G : Gd) (C : Cfg) (ops : Array Oper) (p0 : Pos) (Hh : Nat → Hp) (ρ : dC) (w : World) (R : Nat → Nat) (i : Nat) : Prop where
 name : ρ (idp C ops p0 i) = some ⟨R i, 0, 0, none⟩
 low : G.B ≤ R i
 ex : ¬ G.X (R i)
 row : ∃ (arr : Array Value) (t : TypeId) (cs : List DV), w.heap[R i]? = some (.cells arr t (0, 0)) ∧ VRs ρ cs arr.toList ∧ Hh (i + 1) = ⟨(Hh i).next, Tr.set (.row .ex cs) (idp C ops p0 i) (Hh i).bl⟩
theorem aMy {E : Nat → aZ} {Hh : Nat → Hp} {V : Nat → DV} (T : Tr1 C rec ops nt p0 E Hh V) {listed : Array Bool} {R : Nat → Nat} {N q : Nat} {ρ : dC} {w : World}
  (hmade : ∀ i, iH C ops listed q i → Made G C ops p0 Hh ρ w R i) (hdist : ∀ i i', iH C ops listed q i → iH C ops listed q i' → R i = R i' → i = i') :
  ∀ p, q ≤ p → p ≤ ops.size → (∀ j oj, ops[j]? = some oj → q ≤ j → j < p → bT C.P oj.op ≠ .acts ∧ (bT C.P oj.op = .makes → S listed j)) →
  HR (GX G N C ops listed R q) ρ (Hh q) w → HR (GX G N C ops listed R p) ρ (Hh p) w := by
 intro p
 induction p with
 | zero => intro h1 _ _ H; have : q = 0 := by omega
           subst this; exact H
 | succ p ih =>
  intro h1 h2 hr H
  by_cases e : q = p + 1
  ·subst e; exact H
  ·have H' := ih (by omega) (by omega) (fun j oj hj hq hjp => hr j oj hj hq (by omega)) H
   obtain ⟨o, ho⟩ : ∃ o, ops[p]? = some o := ⟨ops[p], by simp [show p < ops.size by omega]⟩
   obtain ⟨ha, hm⟩ := hr p o ho (by omega) (by omega)
   have hsub : ∀ k, (GX G N C ops listed R (p + 1)).X k → (GX G N C ops listed R p).X k := by
    rintro k (hk | ⟨i, ⟨oi, h3, h4, h5, h6⟩, h7⟩)
    ·exact .inl hk
    ·exact .inr ⟨i, ⟨oi, h3, h4, h5, by omega⟩, h7⟩
   by_cases hmk : bT C.P o.op = .makes
   ·have hE : iH C ops listed q p := ⟨o, ho, hmk, hm hmk, by omega⟩
    have hM := hmade p hE
    obtain ⟨arr, t, cs, r1, r2, r3⟩ := hM.row
    rw [r3]
    refine dQz (G := GX G N C ops listed R (p + 1)) H' rfl hsub (Nat.le_refl _) rfl hM.name r1 r2 hM.low ?_ (.inr ⟨p, ⟨o, ho, hmk, hm hmk, Nat.le_refl _⟩, rfl⟩)
    rintro (hk | ⟨i, ⟨oi, h3, h4, h5, h6⟩, h7⟩)
    ·exact hM.ex hk
    ·have := hdist i p ⟨oi, h3, h4, h5, by omega⟩ hE h7
     omega
   ·rw [T.same ho ha hmk]
    exact H'.weak rfl hsub (Nat.le_refl _) rfl
def Inv (DD : List Deferred) (C : Cfg) (G : Gd) (ops : Array Oper) (nt : Nat) (p0 : Pos) (N : Nat) (E : Nat → aZ) (Hh : Nat → Hp) (V : Nat → DV) (ρ : dC) (w0 : World) (listed : Array Bool) (a : Act) (w : World) : Prop :=
 listed.size = ops.size ∧ (∀ j x, gC (Region.before ops) j x = true → S listed x → S listed j) ∧
 ∃ q, q ≤ ops.size ∧ cYq C ops q ∧ (∀ j oj, ops[j]? = some oj → bT C.P oj.op = .acts → (j < q ↔ S listed j)) ∧
 ∃ (ρ' : dC) (R : Nat → Nat), Ex G ρ ρ' ∧ HR (GX G N C ops listed R q) ρ' (Hh q) w ∧ EnvR ρ' (TS ops V (E 0) listed ops.size) a ∧ Kp G w0 w ∧ nt ≤ a.tmps.size ∧ a.defers = DD ∧
  (∀ i o, ops[i]? = some o → bT C.P o.op = .makes → ¬ S listed i → ρ' (idp C ops p0 i) = none) ∧
  (∀ i, iH C ops listed q i → Made G C ops p0 Hh ρ' w R i) ∧ (∀ i i', iH C ops listed q i → iH C ops listed q i' → R i = R i' → i = i')
theorem bZr {i : Nat} {o : Oper} (ho : ops[i]? = some o) (hm : bT C.P o.op = .makes) : (idp C ops p0 i).toNat < p0.toNat + cF C.P ops.toList := by
 unfold idp
 rw [dX]
 have hlt : i < ops.toList.length := by
  rcases Nat.lt_or_ge i ops.toList.length with h | h
  ·exact h
  ·simp at h; simp [Array.getElem?_eq_none h] at ho
 have key : ∀ (l : List Oper) (i : Nat), l[i]? = some o → cF C.P (l.take i) < cF C.P l := by
  intro l
  induction l with
  | nil => intro i h; simp at h
  | cons x l ih =>
   intro i h
   cases i with
   | zero => simp at h; subst h; simp [cF, hm]; omega
   | succ i => simp at h; have := ih i h; simp only [List.take_succ_cons, cF]; omega
 have := key ops.toList i (by simpa using ho)
 omega
theorem cYj {i i' : Nat} {o o' : Oper} (ho : ops[i]? = some o) (hm : bT C.P o.op = .makes) (ho' : ops[i']? = some o') (hm' : bT C.P o'.op = .makes) (hne : i ≠ i') : idp C ops p0 i ≠ idp C ops p0 i' := by
 have key : ∀ (l : List Oper) (i j : Nat) (o : Oper), l[i]? = some o → bT C.P o.op = .makes → i < j → cF C.P (l.take i) < cF C.P (l.take j) := by
  intro l
  induction l with
  | nil => intro i j o h; simp at h
  | cons x l ih =>
   intro i j o h hm hij
   cases j with
   | zero => omega
   | succ j =>
    cases i with
    | zero => simp at h; subst h; simp only [List.take_succ_cons, cF, hm, List.take_zero]; omega
    | succ i => simp at h; have := ih i j o h hm (by omega); simp only [List.take_succ_cons, cF]; omega
 intro e
 have e' := congrArg Pos.toNat e
 unfold idp at e'
 rw [dX, dX] at e'
 rcases Nat.lt_or_ge i i' with h | h
 ·have := key ops.toList i i' o (by simpa using ho) hm h; omega
 ·have := key ops.toList i' i o' (by simpa using ho') hm' (by omega); omega
theorem bJt {DD : List Deferred} (K : OkC C rec) {N : Nat} {E : Nat → aZ} {Hh : Nat → Hp} {V : Nat → DV} (T : Tr1 C rec ops nt p0 E Hh V) (hN : N = p0.toNat + cF C.P ops.toList) (hGN : G.N ≤ p0.toNat) {ρ : dC} {w0 : World} {Q : Exit → Act → World → Prop}
  (hQ : ∀ ρ' a' w', Ex G ρ ρ' → HR G ρ' (Hh ops.size) w' → EnvR ρ' (E ops.size) a' → Kp G w0 w' → nt ≤ a'.tmps.size → a'.defers = DD → Q .normal a' w') :
  ∀ (fuel : Nat) (listed : Array Bool) (a : Act) (w : World), Inv DD C G ops nt p0 N E Hh V ρ w0 listed a w → ((List.range ops.size).filter fun i => !listed.getD i false).length ≤ fuel → wpAny C.P .any ops Q fuel listed a w := by
 have hlt : ∀ p, p < ops.size → ∃ o, ops[p]? = some o := fun p hp => ⟨ops[p], by simp [hp]⟩
 have hin : ∀ (j : Nat) oj, ops[j]? = some oj → j < ops.size := fun j oj hj => by
  rcases Nat.lt_or_ge j ops.size with h | h
  ·exact h
  ·simp [Array.getElem?_eq_none h] at hj
 have hend : ∀ listed a w, Inv DD C G ops nt p0 N E Hh V ρ w0 listed a w → (∀ i, i < ops.size → S listed i) → Q .normal a w := by
  rintro listed a w ⟨hsz, hdown, q, hq, hcand, hgap, ρ', R, h1, h2, h3, h4, h5, h6, h7, h8, h9⟩ hall
  have hH := aMy (G := G) T h8 h9 ops.size hq (Nat.le_refl _) (fun j oj hj hqj hjn => ⟨fun ha => by
   have := (hgap j oj hj ha).2 (hall j hjn)
   omega, fun _ => hall j hjn⟩) h2
  have hE : ∀ t, TS ops V (E 0) listed ops.size t = E ops.size t := fun t =>
   bTx (E := E) rfl (fun p o hp ho => (T.st p o ho).env) (fun p hp => hlt p hp) (fun j o hj _ _ => hall j hj) ops.size (Nat.le_refl _)
  refine hQ ρ' a w h1 (hH.weak rfl (fun k hk => .inl hk) (by show G.N ≤ N; omega) rfl) (fun t => ?_) h4 h5 h6
  rw [← hE t]
  exact h3 t
 have hready : ∀ listed, listed.size = ops.size → Region.ready .any ops listed = [] → ∀ i, i < ops.size → S listed i := by
  intro listed hsz hr i
  induction i using Nat.strongRecOn with
  | _ i ih =>
   intro hi
   obtain ⟨o, ho⟩ := hlt i hi
   by_cases hs : S listed i
   ·exact hs
   ·exfalso
    have hmem : i ∈ Region.ready .any ops listed := by
     rw [qF]
     refine ⟨hi, ?_, o, ho, fun e he hb => ?_⟩
     ·rw [rJ (by omega)]
      unfold S at hs
      simpa using hs
     ·have := (dP T.ok ho).1 e he hb
      exact ih e.on this (by omega)
    rw [hr] at hmem
    cases hmem
 intro fuel
 induction fuel with
 | zero =>
  intro listed a w hI hfuel
  have hall : ∀ i, i < ops.size → S listed i := by
   intro i hi
   by_cases hs : S listed i
   ·exact hs
   ·exfalso
    have : i ∈ (List.range ops.size).filter fun i => !listed.getD i false := by
     rw [List.mem_filter]
     refine ⟨by simpa using hi, ?_⟩
     unfold S at hs
     simpa using hs
    have := List.length_pos_of_mem this
    omega
  refine ⟨?_, hend listed a w hI hall⟩
  cases hr : Region.ready .any ops listed with
  | nil => rfl
  | cons x xs =>
   have hx : x ∈ Region.ready .any ops listed := by rw [hr]; simp
   rw [qF] at hx
   have := hall x hx.1
   rw [rJ (by rw [hI.1]; exact hx.1)] at hx
   unfold S at this
   rw [this] at hx
   cases hx.2.1
 | succ fuel ih =>
  intro listed a w hI hfuel
  refine ⟨fun hr => hend listed a w hI (hready listed hI.1 hr), fun i hi => ?_⟩
  obtain ⟨hsz, hdown, q, hq, hcand, hgap, ρ', R, h1, h2, h3, h4, h5, h6, h7, h8, h9⟩ := hI
  rw [qF] at hi
  obtain ⟨hisz, hni, o, ho, hpre0⟩ := hi
  rw [rJ (by omega)] at hni
  have hnS : ¬ S listed i := by unfold S; rw [hni]; simp
  have hpre : ∀ j, gC (Region.before ops) j i = true → S listed j := by
   intro j hj
   obtain ⟨e, he, hb, h | h⟩ := aLt ho hj
   ·rw [← h]; exact hpre0 e he hb
   ·exact hdown j e.on h (hpre0 e he hb)
  have hst := T.st i o ho
  have hlook : ∀ t ∈ o.looksAt ops, TS ops V (E 0) listed ops.size t = E i t := by
   intro t ht
   rw [cJl (i := i) (fun j oj hij hj hd hS => ?_) ops.size (by omega)]
   ·exact bTx (E := E) rfl (fun p op hp hop => (T.st p op hop).env) (fun p hp => hlt p (by omega)) (fun j oj hj hoj hd => by
     rcases (dP T.ok ho).2.2 j oj hj hoj with h | ⟨h, _⟩
     ·exact hpre j h
     ·exact absurd ht ((Oper.apart_spec h).1 t hd)) i (Nat.le_refl _)
   ·rcases Nat.eq_or_lt_of_le hij with e | e
    ·subst e; exact hnS hS
    ·rcases (dP T.ok hj).2.2 i o e ho with h | ⟨h, _⟩
     ·exact hnS (hdown i j h hS)
     ·exact absurd ht ((Oper.apart_spec h).2.2 t hd)
  have hmkq : ∀ j oj, ops[j]? = some oj → bT C.P oj.op = .makes → j < q → S listed j := by
   intro j oj hj hmj hjq
   rcases hcand with rfl | ⟨l, ol, hl, hal, rfl⟩
   ·omega
   ·have hSl : S listed l := (hgap l ol hl hal).1 (by omega)
    have hjl : j ≠ l := fun e => by subst e; rw [hl] at hj; cases hj; rw [hal] at hmj; cases hmj
    rcases (dP T.ok hl).2.2 j oj (by omega) hj with h | ⟨_, h⟩
    ·exact hdown j l h hSl
    ·exact absurd ⟨.inr hmj, hal⟩ h
  have hdown' : ∀ j x, gC (Region.before ops) j x = true → S (listed.setIfInBounds i true) x → S (listed.setIfInBounds i true) j := by
   intro j x hjx hx
   rw [cQa (by omega)] at hx ⊢
   rcases hx with rfl | hx
   ·exact .inr (hpre j hjx)
   ·exact .inr (hdown j x hjx hx)
  have hTS : ∀ (ρ2 : dC) (v2 : Value), Ext ρ' ρ2 → VR ρ2 (V i) v2 → EnvR ρ2 (TS ops V (E 0) (listed.setIfInBounds i true) ops.size) (a.put o.dst v2) := by
   intro ρ2 v2 e1 e2 t
   rw [cYx ho (by omega) hnS t (fun j oj hij hj hd hod hS => by
    rcases (dP T.ok hj).2.2 i o hij ho with h | ⟨h, _⟩
    ·exact hnS (hdown i j h hS)
    ·exact (Oper.apart_spec h).2.1 t hod hd) ops.size (by omega)]
   have := EnvR.put h3 e1 e2 hst.fits h5 t
   rwa [lD] at this
  have hcount : ((List.range ops.size).filter fun j => !(listed.setIfInBounds i true).getD j false).length ≤ fuel := by
   have hmem : i ∈ (List.range ops.size).filter fun i => !listed.getD i false := by
    rw [List.mem_filter]
    exact ⟨by simpa using hisz, by simp [hni]⟩
   have hle : ((List.range ops.size).filter fun j => !(listed.setIfInBounds i true).getD j false).length < ((List.range ops.size).filter fun j => !listed.getD j false).length := by
    have hsub : ((List.range ops.size).filter fun j => !(listed.setIfInBounds i true).getD j false) = ((List.range ops.size).filter fun j => !listed.getD j false).filter (fun j => j != i) := by
     rw [List.filter_filter]
     apply List.filter_congr
     intro j hj
     by_cases e : j = i
     ·subst e; simp [show j < listed.size by omega]
     ·simp [Array.getElem?_setIfInBounds_ne (Ne.symm e), e]
    rw [hsub]
    exact List.length_filter_lt_length_iff_exists.2 ⟨i, hmem, by simp⟩
   omega
  have hS' : ∀ j, S (listed.setIfInBounds i true) j ↔ (j = i ∨ S listed j) := fun j => cQa (by omega)
  by_cases hmk : bT C.P o.op = .makes
  ·
   have hqi : q ≤ i := by
    rcases Nat.lt_or_ge i q with h | h
    ·exact absurd (hmkq i o ho hmk h) hnS
    ·exact h
   have hg := (dP T.ok ho).2.1 hmk
   have hbn := h7 i o ho hmk hnS
   have hst1 := hst.made hmk
   have hext : Ext ρ' (nC ρ' (idp C ops p0 i) ⟨w.heap.size, 0, 0, none⟩) := by
    intro x L hx
    by_cases e : x = idp C ops p0 i
    ·subst e; rw [hbn] at hx; cases hx
    ·rw [aX _ _ e]; exact hx
   have hE0 : dT C o (idp C ops p0 i) (TS ops V (E 0) listed ops.size) (Hh i) = some (V i, Hh (i + 1)) := by
    rw [← hst1]
    refine zO fun x hx => aAe fun t ht => hlook t ?_
    unfold Oper.looksAt
    refine List.mem_append_left _ (List.mem_filterMap.2 ⟨x, by simpa using hx, ?_⟩)
    rw [ht]
   obtain ⟨cs, arr, t, v', m1, m2, m3, m4⟩ := dAe (w := w) h3 hE0 hbn
   have hidlt := bZr (p0 := p0) ho hmk
   have H2 := h2.early hbn (by have := h2.nx; simp only [GX] at this; omega) arr t
   unfold wpOp
   simp only [ho]
   rw [if_pos (by simp [Region.wanted, hg])]
   refine .inl ?_
   unfold Oper.wp
   rw [m1]
   show wpAny C.P .any ops Q fuel (listed.setIfInBounds i true) (a.put o.dst v') (w.alloc (.cells arr t))
   have hEarly : ∀ j, iH C ops (listed.setIfInBounds i true) q j → j = i ∨ iH C ops listed q j := by
    rintro j ⟨oj, e1, e2, e3, e4⟩
    rcases (hS' j).1 e3 with e | e
    ·exact .inl e
    ·exact .inr ⟨oj, e1, e2, e, e4⟩
   have hRlt : ∀ j, iH C ops listed q j → R j < w.heap.size := fun j hj => h2.sz.2 _ (.inr ⟨j, hj, rfl⟩)
   have hjne : ∀ j, iH C ops listed q j → j ≠ i := by
    rintro j ⟨oj, e1, e2, e3, e4⟩ e
    subst e; exact hnS e3
   refine ih _ _ _ ⟨by simpa using hsz, hdown', q, hq, hcand, fun j oj hj haj => ?_, nC ρ' (idp C ops p0 i) ⟨w.heap.size, 0, 0, none⟩, fun j => if j = i then w.heap.size else R j, ?_, ?_, hTS _ _ hext m4, ?_, by rw [oW]; exact h5, by rw [lG]; exact h6, ?_, ?_, ?_⟩ hcount
   ·rw [hS' j, hgap j oj hj haj]
    constructor
    ·exact .inr
    ·rintro (h | h)
     ·subst h; rw [ho] at hj; cases hj; rw [hmk] at haj; cases haj
     ·exact h
   ·refine h1.trans ⟨hext, fun b L hb => ?_⟩
    by_cases e : b = idp C ops p0 i
    ·right
     rw [e]
     unfold idp
     rw [dX]
     omega
    ·rw [aX _ _ e] at hb; exact .inl hb
   ·refine H2.weak rfl ?_ (Nat.le_refl _) rfl
    rintro k (hk | ⟨j, hj, hjk⟩)
    ·exact .inl (.inl hk)
    ·rcases hEarly j hj with rfl | hj'
     ·right; simpa using hjk.symm
     ·left; right
      refine ⟨j, hj', ?_⟩
      simpa [hjne j hj'] using hjk
   ·exact h4.trans (fL (G := G) ⟨h2.sz.1, fun k hk => h2.sz.2 k (.inl hk)⟩ _)
   ·intro j oj hj hmj hSj
    have hji : j ≠ i := fun e => hSj ((hS' j).2 (.inl e))
    rw [aX _ _ (cYj hj hmj ho hmk hji)]
    exact h7 j oj hj hmj fun h => hSj ((hS' j).2 (.inr h))
   ·intro j hj
    rcases hEarly j hj with rfl | hj'
    ·refine ⟨by simp [cH], by simp; exact h2.sz.1, ?_, arr, t, cs, ?_, m2.mono hext, m3⟩
     ·simp only [if_true]
      intro hx
      have := h2.sz.2 _ (.inl hx)
      omega
     ·simp only [if_true]
      show (w.heap.push _)[w.heap.size]? = _
      simp
    ·have hM := h8 j hj'
     obtain ⟨arr', t', cs', r1, r2, r3⟩ := hM.row
     have hji := hjne j hj'
     refine ⟨?_, by simp [hji]; exact hM.low, by simp [hji]; exact hM.ex, arr', t', cs', ?_, r2.mono hext, r3⟩
     ·simp only [hji, if_false]; exact hext _ _ hM.name
     ·simp only [hji, if_false]
      rw [Below.heap_alloc _ _ _ (hRlt j hj')]
      exact r1
   ·intro j j' hj hj' he
    rcases hEarly j hj with rfl | hj1
    ·rcases hEarly j' hj' with rfl | hj1'
     ·rfl
     ·simp only [if_true, hjne j' hj1', if_false] at he
      have := hRlt j' hj1'
      omega
    ·rcases hEarly j' hj' with rfl | hj1'
     ·simp only [if_true, hjne j hj1, if_false] at he
      have := hRlt j hj1
      omega
     ·simp only [hjne j hj1, hjne j' hj1', if_false] at he
      exact h9 j j' hj1 hj1' he
  ·
   have hstep : ∃ q1 q2, q ≤ q1 ∧ q1 ≤ ops.size ∧ q2 ≤ ops.size ∧ q1 ≤ q2 ∧ cYq C ops q2 ∧ HR (GX G N C ops listed R q1) ρ' (Hh q1) w ∧
     bJ C rec ops o (TS ops V (E 0) listed ops.size) (Hh q1) = some (V i, Hh q2) ∧
     (∀ j oj, ops[j]? = some oj → bT C.P oj.op = .acts → (j < q2 ↔ S (listed.setIfInBounds i true) j)) ∧
     (∀ j, iH C ops (listed.setIfInBounds i true) q2 j → iH C ops listed q1 j) := by
    rw [show bJ C rec ops o (TS ops V (E 0) listed ops.size) = bJ C rec ops o (E i) from funext fun h => aKp hlook]
    by_cases ha : bT C.P o.op = .acts
    ·have hqi : q ≤ i := by
      rcases Nat.lt_or_ge i q with h | h
      ·exact absurd ((hgap i o ho ha).1 h) hnS
      ·exact h
     refine ⟨i, i + 1, hqi, by omega, by omega, by omega, .inr ⟨i, o, ho, ha, rfl⟩, ?_, hst.step hmk, fun j oj hj haj => ?_, ?_⟩
     ·refine aMy (G := G) T h8 h9 i hqi (by omega) (fun j oj hj hqj hji => ⟨fun haj => ?_, fun hmj => ?_⟩) h2
      ·rcases (dP T.ok ho).2.2 j oj hji hj with h | ⟨_, h⟩
       ·have := (hgap j oj hj haj).2 (hpre j h); omega
       ·exact absurd ⟨.inl haj, ha⟩ h
      ·rcases (dP T.ok ho).2.2 j oj hji hj with h | ⟨_, h⟩
       ·exact hpre j h
       ·exact absurd ⟨.inr hmj, ha⟩ h
     ·rw [hS' j]
      constructor
      ·intro hlt'
       by_cases e : j = i
       ·exact .inl e
       ·right
        rcases (dP T.ok ho).2.2 j oj (by omega) hj with h | ⟨_, h⟩
        ·exact hpre j h
        ·exact absurd ⟨.inl haj, ha⟩ h
      ·rintro (h | h)
       ·omega
       ·rcases Nat.lt_or_ge i j with hij | hij
        ·rcases (dP T.ok hj).2.2 i o hij ho with h' | ⟨_, h'⟩
         ·exact absurd (hdown i j h' h) hnS
         ·exact absurd ⟨.inl ha, haj⟩ h'
        ·omega
     ·rintro j ⟨oj, e1, e2, e3, e4⟩
      rcases (hS' j).1 e3 with e | e
      ·omega
      ·exact ⟨oj, e1, e2, e, by omega⟩
    ·refine ⟨q, q, Nat.le_refl _, hq, hq, Nat.le_refl _, hcand, h2, T.value ho ha hmk hcand hgap hnS hdown hpre, fun j oj hj haj => ?_, ?_⟩
     ·rw [hS' j, hgap j oj hj haj]
      constructor
      ·exact .inr
      ·rintro (h | h)
       ·subst h; rw [ho] at hj; cases hj; exact absurd haj ha
       ·exact h
     ·rintro j ⟨oj, e1, e2, e3, e4⟩
      rcases (hS' j).1 e3 with e | e
      ·subst e; rw [ho] at e1; cases e1; exact absurd e2 hmk
      ·exact ⟨oj, e1, e2, e, e4⟩
   obtain ⟨q1, q2, k1, k2, k2', k12, k3, k4, k5, k6, k7⟩ := hstep
   refine aJm (aIk K k4 h3 k5) rfl ho k4 fun ρ2 w2 v2 e1 e2 e3 e4 => ?_
   have hEq : ∀ j, iH C ops listed q1 j → iH C ops listed q j := by
    rintro j ⟨oj, f1, f2, f3, f4⟩
    exact ⟨oj, f1, f2, f3, by omega⟩
   refine ih _ _ _ ⟨by simpa using hsz, hdown', q2, k2', k3, k6, ρ2, R, ?_, ?_, hTS _ _ e1.ext e2, ?_, by rw [oW]; exact h5, by rw [lG]; exact h6, ?_, ?_, ?_⟩ hcount
   ·refine h1.trans ⟨e1.ext, fun b L hb => (e1.new b L hb).imp id fun h => ?_⟩
    simp only [GX] at h
    omega
   ·refine e3.weak rfl ?_ (Nat.le_refl _) rfl
    rintro k (hk | ⟨j, hj, hjk⟩)
    ·exact .inl hk
    ·exact .inr ⟨j, k7 j hj, hjk⟩
   ·exact h4.trans ⟨e4.low, fun k hk => e4.ex k (.inl hk)⟩
   ·intro j oj hj hmj hSj
    have hn := h7 j oj hj hmj fun h => hSj ((hS' j).2 (.inr h))
    cases hr : ρ2 (idp C ops p0 j) with
    | none => rfl
    | some L =>
     rcases e1.new _ _ hr with h | h
     ·rw [hn] at h; cases h
     ·have := bZr (p0 := p0) hj hmj
      simp only [GX] at h
      omega
   ·intro j hj
    have hj1 := k7 j hj
    have hM := h8 j (hEq j hj1)
    obtain ⟨arr', t', cs', r1, r2, r3⟩ := hM.row
    exact ⟨e1.ext _ _ hM.name, hM.low, hM.ex, arr', t', cs', by rw [e4.ex _ (.inr ⟨j, hj1, rfl⟩)]; exact r1, r2.mono e1.ext, r3⟩
   ·intro j j' hj hj' he
    exact h9 j j' (hEq j (k7 j hj)) (hEq j' (k7 j' hj')) he
theorem bKf {DD : List Deferred} (K : OkC C rec) {k : Dd.K} {r : DV × Hp} {env : aZ} {h : Hp} {ρ : dC} {a : Act} {w : World} {Q : Exit → Act → World → Prop}
  (hok : fC C.P ops = true) (hp : iI C rec nt ops k env h = some r) (H : HR G ρ h w) (he : EnvR ρ env a) (hnt : nt ≤ a.tmps.size) (hd : a.defers = DD)
  (hQ : ∀ ρ' env' h' a' w', Ex G ρ ρ' → HR G ρ' h' w' → EnvR ρ' env' a' → Kp G w w' → nt ≤ a'.tmps.size → a'.defers = DD → k env' h' = some r → Q .normal a' w') :
  wpAny C.P .any ops Q ops.size (Array.replicate ops.size false) a { w with drawn := w.drawn + 1 } := by
 obtain ⟨E, Hh, V, e1, e2, e3, e4⟩ := sA (p0 := h.next) ops.toList 0 0 false [] _ env _ r hp (by simp) (fun _ => ⟨_, _, rfl⟩)
 simp only [Nat.zero_add, Array.length_toList, Nat.sub_zero] at e3 e4
 have T : Tr1 C rec ops nt h.next E Hh V := ⟨hok, fun p o ho => by
  have := (e4 p o (Nat.zero_le _) (by
   rcases Nat.lt_or_ge p ops.size with h | h
   ·exact h
   ·simp [Array.getElem?_eq_none h] at ho) ho).1
  rw [← e2] at this
  exact this⟩
 obtain ⟨n1, n2⟩ := aAm (cF C.P ops.toList) h
 have hNN : (resv (cF C.P ops.toList) h).next.toNat = h.next.toNat + cF C.P ops.toList := by rw [n1, dX]
 refine (bJt (G := G) K T rfl H.nx (ρ := ρ) (w0 := w) (fun ρ' a' w' h1 h2 h3 h4 h5 h6 => hQ ρ' _ _ a' w' h1 h2 h3 h4 h5 h6 e3) ops.size _ a _ ?_ ?_)
 ·have hno : ∀ j, ¬ S (Array.replicate ops.size false) j := by
   intro j hj
   unfold S at hj
   simp [Array.getElem?_replicate] at hj
   split at hj <;> simp at hj
  have hnoE : ∀ j, ¬ iH C ops (Array.replicate ops.size false) 0 j := by
   rintro j ⟨oj, _, _, h3, _⟩
   exact hno j h3
  refine ⟨by simp, fun j x _ hx => absurd hx (hno x), 0, Nat.zero_le _, .inl rfl, fun j oj hj ha => ⟨fun h => by omega, fun h => absurd h (hno j)⟩, ρ, fun _ => 0, Ex.refl G ρ, ?_, ?_, ?_, hnt, hd, ?_, fun j hj => absurd hj (hnoE j), fun j j' hj => absurd hj (hnoE j)⟩
  ·rw [e2]
   have := (H.reserve (cF C.P ops.toList)).congr (w' := { w with drawn := w.drawn + 1 }) rfl
   rw [hNN] at this
   refine this.weak rfl ?_ (Nat.le_refl _) rfl
   rintro k (hk | ⟨j, hj, _⟩)
   ·exact hk
   ·exact absurd hj (hnoE j)
  ·have hT : ∀ p, TS ops V (E 0) (Array.replicate ops.size false) p = E 0 := by
    intro p
    induction p with
    | zero => rfl
    | succ p ih =>
     simp only [TS, ih]
     split
     ·rename_i o ho
      rw [if_neg (show ¬ (Array.replicate ops.size false).getD p false = true from hno p)]
     ·rfl
   intro t
   rw [hT, e1]
   exact he t
  ·exact (Kp.refl G w).drew
  ·intro j oj hj hmj _
   cases hr : ρ (idp C ops h.next j) with
   | none => rfl
   | some L =>
    have h1 := H.lt _ _ hr
    unfold idp at h1
    rw [dX] at h1
    omega
 ·have := List.length_filter_le (fun i => !(Array.replicate ops.size false).getD i false) (List.range ops.size)
  simpa using this
theorem aZq {DD : List Deferred} (K : OkC C rec) (hm : C.P.follows .mixedOrders = true) {id : Nat} {k : Dd.K} {r : DV × Hp} {env : aZ} {h : Hp} {ρ : dC} {a : Act} {w : World} {Q : Exit → Act → World → Prop}
  (hok : fC C.P ops = true) (hp : iI C rec nt ops k env h = some r) (H : HR G ρ h w) (he : EnvR ρ env a) (hnt : nt ≤ a.tmps.size) (hd : a.defers = DD)
  (hQ : ∀ ρ' env' h' a' w', Ex G ρ ρ' → HR G ρ' h' w' → EnvR ρ' env' a' → Kp G w w' → nt ≤ a'.tmps.size → a'.defers = DD → k env' h' = some r → Q .normal a' w') :
  (Code.region id ops true).wp C.P Q a w :=
 wp_region_any hm (bKf K hok hp H he hnt hd hQ)
end
end Go.Dd

namespace Go.Dd
open Go.RowKit (Below)
section
variable {C : Cfg} {G : Gd} {rec : FuncId → List DV → Hp → aI} {nt n : Nat}
def St (DD : List Deferred) (G : Gd) (nt : Nat) (ρ : dC) (w0 : World) (k : K) (r : DV × Hp) (a : Act) (w : World) : Prop :=
 ∃ ρ' env h, Ex G ρ ρ' ∧ HR G ρ' h w ∧ EnvR ρ' env a ∧ Kp G w0 w ∧ nt ≤ a.tmps.size ∧ a.defers = DD ∧ k env h = some r
def QQ (DD : List Deferred) (G : Gd) (nt : Nat) (ρ : dC) (w0 : World) (X : Nat → K) (kr k : K) (r : DV × Hp) : Exit → Act → World → Prop
 | .normal, a, w => St DD G nt ρ w0 k r a w
 | .exit id, a, w => St DD G nt ρ w0 (X id) r a w
 | .ret, a, w => St DD G nt ρ w0 kr r a w
 | _, _, _ => False
theorem cAx {DD : List Deferred} (K : OkC C rec) (hm : C.P.follows .mixedOrders = true) {ρ : dC} {w0 : World} {r : DV × Hp} : ∀ (c : Code) (X : Nat → Dd.K) (kr k : Dd.K) (a : Act) (w : World),
  St DD G nt ρ w0 (aM C rec nt n c X kr k) r a w → c.wp C.P (QQ DD G nt ρ w0 X kr k r) a w := by
 intro c
 induction c with
 | skip => intro X kr k a w h; exact wp_skip h
 | region id ops dr =>
  intro X kr k a w h
  obtain ⟨ρ', env, hp, h1, h2, h3, h4, h5, h6, h7⟩ := h
  change (Bool.rec (motive := fun _ => Dd.K) (iW C rec nt ops ops.toList k) (Bool.rec (motive := fun _ => Dd.K) dL (iI C rec nt ops k) (fC C.P ops)) dr) env hp = some r at h7
  cases dr with
  | true =>
   dsimp only at h7
   cases hok : fC C.P ops with
   | false => rw [hok] at h7; cases h7
   | true =>
    rw [hok] at h7
    exact aZq K hm hok h7 h2 h3 h5 h6 fun ρ2 env2 h2' a2 w2 e1 e2 e3 e4 e5 e6 e7 => ⟨ρ2, env2, h2', h1.trans e1, e2, e3, h4.trans e4, e5, e6, e7⟩
  | false =>
   simp only [cond_false] at h7
   obtain ⟨env', h', hr, hk⟩ := yB ops.toList k env hp r h7
   refine wp_region ?_
   have := aQk (Q := QQ DD G nt ρ w0 X kr k r) K ops.toList 0 ρ' env hp a w (by simp) hr h2 h3 h5 h6 fun ρ2 a2 w2 e1 e2 e3 e4 e5 e6 => ⟨ρ2, env', h', h1.trans e1, e2, e3, h4.trans e4, e5, e6, hk⟩
   rw [List.range_eq_range']
   simpa using this
 | seq x y ihx ihy =>
  intro X kr k a w h
  refine wp_seq (wp_mono (ihx X kr (aM C rec nt n y X kr k) a w h) fun e a' w' hq => ?_)
  cases e with
  | normal => exact ihy X kr k a' w' hq
  | exit id => exact hq
  | ret => exact hq
  | goto l => exact hq
  | panic ch => exact hq
  | outgrown => exact hq
 | cond c x y ihx ihy =>
  intro X kr k a w h
  obtain ⟨ρ', env, hp, h1, h2, h3, h4, h5, h6, h7⟩ := h
  change aS (opr env c) (aM C rec nt n x X kr k env hp) (aM C rec nt n y X kr k env hp) = some r at h7
  have hc := bH h3 c
  unfold aS at h7
  split at h7 <;> (try (cases h7; done))
  ·rename_i hcb
   rw [hcb] at hc
   generalize hcv : a.eval c = cv at hc
   cases hc
   exact wp_cond_true hcv (ihx X kr k a w ⟨ρ', env, hp, h1, h2, h3, h4, h5, h6, h7⟩)
  ·rename_i hcb
   rw [hcb] at hc
   generalize hcv : a.eval c = cv at hc
   cases hc
   exact wp_cond_false hcv (ihy X kr k a w ⟨ρ', env, hp, h1, h2, h3, h4, h5, h6, h7⟩)
 | block id x ih =>
  intro X kr k a w h
  refine wp_block (wp_mono (ih (fun j => bif Nat.beq j id then k else X j) kr k a w h) fun e a' w' hq => ?_)
  cases e with
  | normal => exact hq
  | exit id' =>
   simp only [QQ] at hq
   simp only [Exit.inBlock, QQ]
   split
   ·rename_i e
    subst e
    have hb : Nat.beq id' id' = true := Nat.beq_refl id'
    rw [hb] at hq
    exact hq
   ·rename_i e
    have : Nat.beq id' id = false := by
     cases hb : Nat.beq id' id with
     | false => rfl
     | true => exact absurd (Nat.eq_of_beq_eq_true hb) e
    rw [this] at hq
    exact hq
  | ret => exact hq
  | goto l => exact hq
  | panic ch => exact hq
  | outgrown => exact hq
 | loop x ih =>
  intro X kr k a w h
  have key : ∀ (m : Nat) (a : Act) (w : World), St DD G nt ρ w0 (aN (fun kk => aM C rec nt n x X kr kk) m) r a w → Code.rounds C.P x (QQ DD G nt ρ w0 X kr k r) m a w := by
   intro m
   induction m with
   | zero =>
    rintro a w ⟨ρ', env, hp, h1, h2, h3, h4, h5, h6, h7⟩
    cases h7
   | succ m ihm =>
    intro a w hs
    rw [rounds_succ]
    refine wp_mono (ih X kr (aN (fun kk => aM C rec nt n x X kr kk) m) a w hs) fun e a' w' hq => ?_
    cases e with
    | normal => exact ihm a' w' hq
    | exit id => exact hq
    | ret => exact hq
    | goto l => exact hq
    | panic ch => exact hq
    | outgrown => exact hq
  exact wp_loop_rounds n (key n a w h)
 | rangeFunc f ps x y ihx ihy =>
  rintro X kr k a w ⟨ρ', env, hp, h1, h2, h3, h4, h5, h6, h7⟩
  cases h7
 | exit id => intro X kr k a w h; exact wp_exit h
 | scope x ih =>
  intro X kr k a w h
  refine wp_scope_straight (wp_mono (ih X kr k a w h) fun e a' w' hq => ?_)
  cases e with
  | goto l => exact hq
  | normal => exact hq
  | exit id => exact hq
  | ret => exact hq
  | panic ch => exact hq
  | outgrown => exact hq
 | label l => intro X kr k a w h; exact wp_label h
 | goto l =>
  rintro X kr k a w ⟨ρ', env, hp, h1, h2, h3, h4, h5, h6, h7⟩
  cases h7
 | ret => intro X kr k a w h; exact wp_ret h
 | refuse why =>
  rintro X kr k a w ⟨ρ', env, hp, h1, h2, h3, h4, h5, h6, h7⟩
  cases h7
def aIe (tmps : Array Value) (rv : ResultVar) : Sem Value :=
 match rv with
 | .tmp t => pure (tmps.getD t undef)
 | .cell q t => do loadVar t (← asAddr (tmps.getD q undef))
theorem xN (fn : Func) (tmps : Array Value) : results fn tmps = (do
  let vs ← fn.results.mapM (aIe tmps)
  pure (if h : vs.size = 1 then vs[0] else .tuple vs)) := by
 unfold results
 congr 2
theorem bUt {ρ : dC} {w : World} {h : Hp} {x : DV} {x' : Value} {t : TypeId} {k : DV → aI} {r : DV × Hp} (H : HR G ρ h w) (hx : VR ρ x x') (hr : aAn C t x h k = some r) :
  ∃ v v', (do loadVar t (← asAddr x') : Sem Value).run C.P w = .ok v' w ∧ VR ρ v v' ∧ k v = some r := by
 unfold aAn at hr
 split at hr <;> (try (cases hr; done))
 rename_i d i ht hi
 obtain ⟨v, h', hl, hk⟩ := dK hr
 have hconv : ∀ b o, x = .p b o → (Instr.loadAt t x') = (do loadVar t (← asAddr x')) := by
  rintro b o rfl
  cases hx
  simp [Instr.loadAt, Instr.sureAddr, asAddr]
 cases hd : iT d with
 | true =>
  rw [hd] at hl
  simp only [cond_true] at hl
  unfold aK at hl
  split at hl <;> (try (cases hl; done))
  rename_i b o
  split at hl <;> (try (cases hl; done))
  rename_i cs hc
  simp only [bE, bQ] at hl
  obtain ⟨rfl, _⟩ := hl
  cases hx with
  | p _ _ L hL =>
   obtain ⟨c1, c2, _, vs, c4, c5, c6⟩ := eV H hc hL
   have hrun := dF (P := C.P) vs rfl c6
   rw [c5] at hrun
   refine ⟨_, .agg vs.toArray, ?_, .a cs vs.toArray (by simpa using c4), hk⟩
   simp only [asAddr, Sem.run_bind, Sem.run_pure, Result.andThen_ok, loadVar, rA ht, hd, if_true, rS hi, hrun]
 | false =>
  rw [hd] at hl
  simp only [cond_false] at hl
  unfold aA at hl
  split at hl <;> (try (cases hl; done))
  rename_i b o
  split at hl <;> (try (cases hl; done))
  rename_i u' hc
  simp only [bE, bQ] at hl
  obtain ⟨rfl, _⟩ := hl
  cases hx with
  | p _ _ L hL =>
   unfold cellD rowOf at hc
   split at hc <;> (try (cases hc; done))
   rename_i l hl
   split at hl <;> (try (cases hl; done))
   rename_i kd l0 hb
   simp only [bE] at hl
   subst hl
   split at hc <;> (try (cases hc; done))
   rename_i u0 hu
   split at hc <;> (try (cases hc; done))
   rename_i ho
   simp only [bE] at hc
   subst hc
   obtain ⟨v', h5, h6⟩ := H.cell b kd l0 L o u0 hb hL hu ho
   refine ⟨_, v', ?_, h6, hk⟩
   simp only [asAddr, Sem.run_bind, Sem.run_pure, Result.andThen_ok, loadVar, rA ht, hd, Bool.false_eq_true, if_false, run_load, h5]
theorem xO {ρ : dC} {w : World} {h : Hp} {env : aZ} {a : Act} (H : HR G ρ h w) (he : EnvR ρ env a) {r : DV × Hp} : ∀ (l : List ResultVar) (k : List DV → aI), aWw C env h l k = some r →
  ∃ vs vs', (l.mapM (aIe a.tmps)).run C.P w = .ok vs' w ∧ VRs ρ vs vs' ∧ k vs = some r
 | [], k, hr => ⟨[], [], by simp, .nil, hr⟩
 | .tmp t :: l, k, hr => by
  obtain ⟨vs, vs', h1, h2, h3⟩ := xO H he l (fun vs => k (env t :: vs)) hr
  refine ⟨env t :: vs, a.tmps.getD t undef :: vs', ?_, .cons _ _ _ _ (he t) h2, h3⟩
  simp only [List.mapM_cons, Sem.run_bind, aIe, Result.andThen_ok, h1, Sem.run_pure]
 | .cell q t :: l, k, hr => by
  obtain ⟨v, v', h1, h2, h3⟩ := bUt (x' := a.tmps.getD q undef) H (he q) hr
  obtain ⟨vs, vs', h4, h5, h6⟩ := xO H he l (fun vs => k (v :: vs)) h3
  refine ⟨v :: vs, v' :: vs', ?_, .cons _ _ _ _ h2 h5, h6⟩
  simp only [List.mapM_cons, Sem.run_bind, aIe] at h1 ⊢
  simp only [h1, Result.andThen_ok, h4, Sem.run_pure]
theorem aZd {ρ : dC} {w : World} {h h1 : Hp} {env : aZ} {a : Act} (H : HR G ρ h w) (he : EnvR ρ env a) {fn : Func} {v : DV} (hr : aU C fn env h = some (v, h1)) :
  h1 = h ∧ ∃ v', (results fn a.tmps).run C.P w = .ok v' w ∧ VR ρ v v' := by
 obtain ⟨us, vs', h2, h3, hk⟩ := xO H he _ _ hr
 unfold bPz at hk
 split at hk
 ·rename_i u
  simp only [bE, bQ] at hk
  obtain ⟨rfl, rfl⟩ := hk
  cases h3 with
  | cons _ v' _ l' hv hn =>
   cases hn
   refine ⟨rfl, v', ?_, hv⟩
   rw [xN, Array.mapM_eq_mapM_toList]
   simp only [Sem.run_bind, Sem.run_map, h2, Result.andThen_ok, Sem.run_pure]
   simp
 ·rename_i hne
  simp only [bE, bQ] at hk
  obtain ⟨rfl, rfl⟩ := hk
  have hl := h3.length
  have hne1 : vs'.length ≠ 1 := by
   intro e
   rw [e] at hl
   match us, hl with
   | [x], _ => exact hne x rfl
  refine ⟨rfl, .tuple vs'.toArray, ?_, .t _ _ (by simpa using h3)⟩
  rw [xN, Array.mapM_eq_mapM_toList]
  simp only [Sem.run_bind, Sem.run_map, h2, Result.andThen_ok, Sem.run_pure]
  rw [dif_neg (by simpa using hne1)]
structure POk (P : Program) : Prop where
 mixed : P.follows .mixedOrders = true
 names : ∀ (f : Nat) (fn : Func), P.funcs[f]? = some fn → (fn.name == "runtime.NumGoroutine") = false
theorem pO (K : OkC C rec) (hP : POk C.P) (n : Nat) (f : FuncId) : lW C.P G f (aF C rec n f) := by
 intro args h v h1 hr ρ w args' H hargs
 unfold aF at hr
 split at hr <;> (try (cases hr; done))
 rename_i fn hf
 split at hr <;> (try (cases hr; done))
 rename_i c hb
 refine .inl ⟨?_, ?_⟩
 ·unfold callFunc
  have hn : ¬ fn.name = "runtime.NumGoroutine" := by simpa using hP.names f fn hf
  simp [hf, hn, hb]
 ·refine calls_of_wp hf hb ?_
  have he : EnvR ρ (aH args) { tmps := args' ++ Array.replicate (fn.ntmps - args'.size) undef, defers := [] } := by
   intro t
   unfold aH
   have hlen := hargs.length
   simp only [Array.length_toList] at hlen
   by_cases ht : t < args.length
   ·have hg : args[t]? = some args[t] := by simp [ht]
    obtain ⟨v', h2, h3⟩ := hargs.get t _ hg
    simp only [Array.getElem?_toList] at h2
    rw [show args.getD t aV = args[t] by simp [List.getD, hg]]
    have : (args' ++ Array.replicate (fn.ntmps - args'.size) undef).getD t undef = v' := by
     simp [Array.getElem?_append_left (show t < args'.size by omega), h2]
    rw [this]
    exact h3
   ·have hg : args.getD t aV = aV := by simp [List.getD, List.getElem?_eq_none (Nat.le_of_not_lt ht)]
    rw [hg]
    have : (args' ++ Array.replicate (fn.ntmps - args'.size) undef).getD t undef = undef := by
     rw [Array.getD_eq_getD_getElem?, Array.getElem?_append_right (by omega)]
     simp only [Array.getElem?_replicate]
     split <;> rfl
    rw [this]
    exact .t [] #[] .nil
  have hst : St [] G fn.ntmps ρ w (aM C rec fn.ntmps n c (fun _ => dL) (aU C fn) (aU C fn)) (v, h1) { tmps := args' ++ Array.replicate (fn.ntmps - args'.size) undef, defers := [] } w :=
   ⟨ρ, aH args, h, Ex.refl G ρ, H, he, Kp.refl G w, by simp; omega, rfl, hr⟩
  refine wp_mono (cAx K hP.mixed c _ _ _ _ _ hst) fun e a' w' hq => ?_
  have hfin : St [] G fn.ntmps ρ w (aU C fn) (v, h1) a' w' → a'.defers = [] ∧ ∃ v', (results fn a'.tmps).run C.P w' = .ok v' w' ∧ lO G ρ w v h1 (.returned v') w' := by
   rintro ⟨ρ', env, h', e1, e2, e3, e4, e5, e6, e7⟩
   obtain ⟨rfl, v', r1, r2⟩ := aZd e2 e3 e7
   exact ⟨e6, v', r1, ρ', v', rfl, e1, r2, e2, e4⟩
  cases e with
  | normal => exact hfin hq
  | ret => exact hfin hq
  | exit id =>
   obtain ⟨ρ', env, h', e1, e2, e3, e4, e5, e6, e7⟩ := hq
   cases e7
  | goto l => exact hq.elim
  | panic ch => exact hq.elim
  | outgrown => exact hq.elim
theorem bMe (hP : POk C.P) (hI : ∀ G g F, C.I g = some F → lW C.P G g F) : ∀ (n : Nat) (G : Gd) (f : FuncId), lW C.P G f (fnD C n f)
 | 0, G, f => fun args h v h1 hr => by cases hr
 | n + 1, G, f => pO (rec := fnD C n) ⟨hI, fun G g => bMe hP hI n G g⟩ hP n f
end
end Go.Dd

namespace Go.Dd
open Go.RowKit (Below)
section
variable {C : Cfg} {G : Gd} {rec : FuncId → List DV → Hp → aI} {nt : Nat}
def mZ (h : Hp) : Prop := ∀ b o, h.bl.get b = some o → b.toNat < h.next.toNat
theorem HR.isFresh {ρ : dC} {h : Hp} {w : World} (H : HR G ρ h w) : mZ h := fun b o hb => by
 obtain ⟨L, hL⟩ := H.dom b o hb
 exact H.lt b L hL
def aKi (C : Cfg) (rec : FuncId → List DV → Hp → aI) (nt : Nat) (ops : Array Oper) (lO : aZ → Hp → Prop) : Nat → Array Bool → aZ → Hp → Prop
 | 0, listed, env, h => Region.ready .any ops listed = [] ∧ lO env h
 | f + 1, listed, env, h => (Region.ready .any ops listed = [] → lO env h) ∧
   ∀ i ∈ Region.ready .any ops listed, ∃ o v h', ops[i]? = some o ∧ cY nt o.dst = true ∧ bJ C rec ops o env h = some (v, h') ∧
    aKi C rec nt ops lO f (listed.setIfInBounds i true) (bO env o.dst v) h'
theorem bRt (K : OkC C rec) {ops : Array Oper} {lO : aZ → Hp → Prop} {Q : Exit → Act → World → Prop} : ∀ (fuel : Nat) (listed : Array Bool) (ρ : dC) (env : aZ) (h : Hp) (a : Act) (w : World),
  aKi C rec nt ops lO fuel listed env h → HR G ρ h w → EnvR ρ env a → nt ≤ a.tmps.size → a.defers = [] →
  (∀ ρ' env' h' a' w', lO env' h' → Ex G ρ ρ' → HR G ρ' h' w' → EnvR ρ' env' a' → Kp G w w' → nt ≤ a'.tmps.size → a'.defers = [] → Q .normal a' w') →
  wpAny C.P .any ops Q fuel listed a w
 | 0, listed, ρ, env, h, a, w, hp, H, he, hnt, hd, hQ => ⟨hp.1, hQ ρ env h a w hp.2 (Ex.refl G ρ) H he (Kp.refl G w) hnt hd⟩
 | f + 1, listed, ρ, env, h, a, w, hp, H, he, hnt, hd, hQ => by
  refine ⟨fun hr => hQ ρ env h a w (hp.1 hr) (Ex.refl G ρ) H he (Kp.refl G w) hnt hd, fun i hi => ?_⟩
  obtain ⟨o, v, h', ho, hf, hs, hn⟩ := hp.2 i hi
  refine aJm (aIk K H he hs) rfl ho H fun ρ' w' v' h2 h3 h4 h5 => ?_
  exact bRt K f _ ρ' _ h' _ w' hn h4 (he.put h2.ext h3 hf hnt) (by rw [oW]; exact hnt) (by rw [lG]; exact hd)
   fun ρ2 env2 hh a2 w2 e0 e1 e2 e3 e4 e5 e6 => hQ ρ2 env2 hh a2 w2 e0 (h2.trans e1) e2 e3 (h5.trans e4) e5 e6
def qE (C : Cfg) (rec : FuncId → List DV → Hp → aI) (nt : Nat) : Code → (Nat → aZ → Hp → Prop) → (aZ → Hp → Prop) → (aZ → Hp → Prop) → aZ → Hp → Prop
 | .skip, _, _, N => N
 | .region _ ops dr, _, _, N => fun env h => if dr then (aKi C rec nt ops (fun e h => mZ h → N e h) ops.size (Array.replicate ops.size false) env h ∨
    (fC C.P ops = true ∧ ∃ k r, iI C rec nt ops k env h = some r ∧ ∀ env' h', k env' h' = some r → mZ h' → N env' h'))
   else ∃ env' h', aDa C rec nt ops ops.toList env h env' h' ∧ (mZ h' → N env' h')
 | .seq a b, X, R, N => qE C rec nt a X R (qE C rec nt b X R N)
 | .cond c a b, X, R, N => fun env h => (opr env c = .b true ∧ qE C rec nt a X R N env h) ∨ (opr env c = .b false ∧ qE C rec nt b X R N env h)
 | .block id a, X, R, N => qE C rec nt a (fun j => if j = id then N else X j) R N
 | .exit id, X, _, _ => X id
 | .scope a, X, R, N => qE C rec nt a X R N
 | .ret, _, R, _ => R
 | _, _, _, _ => fun _ _ => False
def StP (G : Gd) (nt : Nat) (ρ : dC) (w0 : World) (N : aZ → Hp → Prop) (a : Act) (w : World) : Prop :=
 ∃ ρ' env h, Ex G ρ ρ' ∧ HR G ρ' h w ∧ EnvR ρ' env a ∧ Kp G w0 w ∧ nt ≤ a.tmps.size ∧ a.defers = [] ∧ N env h
def QP (G : Gd) (nt : Nat) (ρ : dC) (w0 : World) (X : Nat → aZ → Hp → Prop) (R N : aZ → Hp → Prop) : Exit → Act → World → Prop
 | .normal, a, w => StP G nt ρ w0 N a w
 | .exit id, a, w => StP G nt ρ w0 (X id) a w
 | .ret, a, w => StP G nt ρ w0 R a w
 | _, _, _ => False
theorem bLv (K : OkC C rec) (hm : C.P.follows .mixedOrders = true) {ρ : dC} {w0 : World} : ∀ (c : Code) (X : Nat → aZ → Hp → Prop) (R N : aZ → Hp → Prop) (a : Act) (w : World),
  StP G nt ρ w0 (qE C rec nt c X R N) a w → c.wp C.P (QP G nt ρ w0 X R N) a w := by
 intro c
 induction c with
 | skip => intro X R N a w h; exact wp_skip h
 | region id ops dr =>
  intro X R N a w h
  obtain ⟨ρ', env, hp, h1, h2, h3, h4, h5, h6, h7⟩ := h
  cases dr with
  | true =>
   simp only [qE, if_true] at h7
   rcases h7 with h7 | ⟨hok, k, r, h7, h8⟩
   ·refine wp_region_any hm (bRt K ops.size _ ρ' env hp a _ h7 (h2.congr rfl) h3 h5 h6 fun ρ2 env2 h2' a2 w2 e0 e1 e2 e3 e4 e5 e6 => ?_)
    exact ⟨ρ2, env2, h2', h1.trans e1, e2, e3, (h4.trans ((Kp.refl G w).drew)).trans e4, e5, e6, e0 e2.isFresh⟩
   ·exact aZq K hm hok h7 h2 h3 h5 h6 fun ρ2 env2 h2' a2 w2 e1 e2 e3 e4 e5 e6 e7 => ⟨ρ2, env2, h2', h1.trans e1, e2, e3, h4.trans e4, e5, e6, h8 _ _ e7 e2.isFresh⟩
  | false =>
   simp only [qE, Bool.false_eq_true, if_false] at h7
   obtain ⟨env', h', hr, hk⟩ := h7
   refine wp_region ?_
   have := aQk (Q := QP G nt ρ w0 X R N) K ops.toList 0 ρ' env hp a w (by simp) hr h2 h3 h5 h6 fun ρ2 a2 w2 e1 e2 e3 e4 e5 e6 => ⟨ρ2, env', h', h1.trans e1, e2, e3, h4.trans e4, e5, e6, hk e2.isFresh⟩
   rw [List.range_eq_range']
   simpa using this
 | seq x y ihx ihy =>
  intro X R N a w h
  refine wp_seq (wp_mono (ihx X R (qE C rec nt y X R N) a w h) fun e a' w' hq => ?_)
  cases e with
  | normal => exact ihy X R N a' w' hq
  | exit id => exact hq
  | ret => exact hq
  | goto l => exact hq
  | panic ch => exact hq
  | outgrown => exact hq
 | cond c x y ihx ihy =>
  intro X R N a w h
  obtain ⟨ρ', env, hp, h1, h2, h3, h4, h5, h6, h7⟩ := h
  have hc := bH h3 c
  rcases h7 with ⟨hcb, h7⟩ | ⟨hcb, h7⟩
  ·rw [hcb] at hc
   generalize hcv : a.eval c = cv at hc
   cases hc
   exact wp_cond_true hcv (ihx X R N a w ⟨ρ', env, hp, h1, h2, h3, h4, h5, h6, h7⟩)
  ·rw [hcb] at hc
   generalize hcv : a.eval c = cv at hc
   cases hc
   exact wp_cond_false hcv (ihy X R N a w ⟨ρ', env, hp, h1, h2, h3, h4, h5, h6, h7⟩)
 | block id x ih =>
  intro X R N a w h
  refine wp_block (wp_mono (ih (fun j => if j = id then N else X j) R N a w h) fun e a' w' hq => ?_)
  cases e with
  | normal => exact hq
  | exit id' =>
   simp only [QP] at hq
   simp only [Exit.inBlock]
   split
   ·rename_i e
    rw [if_pos e] at hq
    exact hq
   ·rename_i e
    rw [if_neg e] at hq
    exact hq
  | ret => exact hq
  | goto l => exact hq
  | panic ch => exact hq
  | outgrown => exact hq
 | loop x ih => rintro X R N a w ⟨ρ', env, hp, h1, h2, h3, h4, h5, h6, h7⟩; exact h7.elim
 | rangeFunc f ps x y ihx ihy => rintro X R N a w ⟨ρ', env, hp, h1, h2, h3, h4, h5, h6, h7⟩; exact h7.elim
 | exit id => intro X R N a w h; exact wp_exit h
 | scope x ih =>
  intro X R N a w h
  refine wp_scope_straight (wp_mono (ih X R N a w h) fun e a' w' hq => ?_)
  cases e with
  | goto l => exact hq
  | normal => exact hq
  | exit id => exact hq
  | ret => exact hq
  | panic ch => exact hq
  | outgrown => exact hq
 | label l => rintro X R N a w ⟨ρ', env, hp, h1, h2, h3, h4, h5, h6, h7⟩; exact h7.elim
 | goto l => rintro X R N a w ⟨ρ', env, hp, h1, h2, h3, h4, h5, h6, h7⟩; exact h7.elim
 | ret => intro X R N a w h; exact wp_ret h
 | refuse why => rintro X R N a w ⟨ρ', env, hp, h1, h2, h3, h4, h5, h6, h7⟩; exact h7.elim
def Le (h2 h1 : Hp) : Prop := ∀ G ρ w, HR G ρ h2 w → HR G ρ h1 w
theorem dAc (K : OkC C rec) (hP : POk C.P) {f : FuncId} {fn : Func} {c : Code} (hf : C.P.funcs[f]? = some fn) (hb : fn.body = some c) {F : List DV → Hp → aI}
  (hF : ∀ args h v h1, F args h = some (v, h1) → mZ h → qE C rec fn.ntmps c (fun _ _ _ => False) (fun env h' => ∃ h2, aU C fn env h' = some (v, h2) ∧ Le h2 h1)
   (fun env h' => ∃ h2, aU C fn env h' = some (v, h2) ∧ Le h2 h1) (aH args) h) : lW C.P G f F := by
 intro args h v h1 hr ρ w args' H hargs
 refine .inl ⟨?_, ?_⟩
 ·unfold callFunc
  have hn : ¬ fn.name = "runtime.NumGoroutine" := by simpa using hP.names f fn hf
  simp [hf, hn, hb]
 ·refine calls_of_wp hf hb ?_
  have he : EnvR ρ (aH args) { tmps := args' ++ Array.replicate (fn.ntmps - args'.size) undef, defers := [] } := by
   intro t
   unfold aH
   have hlen := hargs.length
   simp only [Array.length_toList] at hlen
   by_cases ht : t < args.length
   ·have hg : args[t]? = some args[t] := by simp [ht]
    obtain ⟨v', h2, h3⟩ := hargs.get t _ hg
    simp only [Array.getElem?_toList] at h2
    rw [show args.getD t aV = args[t] by simp [List.getD, hg]]
    have : (args' ++ Array.replicate (fn.ntmps - args'.size) undef).getD t undef = v' := by
     simp [Array.getElem?_append_left (show t < args'.size by omega), h2]
    rw [this]
    exact h3
   ·have hg : args.getD t aV = aV := by simp [List.getD, List.getElem?_eq_none (Nat.le_of_not_lt ht)]
    rw [hg]
    have : (args' ++ Array.replicate (fn.ntmps - args'.size) undef).getD t undef = undef := by
     rw [Array.getD_eq_getD_getElem?, Array.getElem?_append_right (by omega)]
     simp only [Array.getElem?_replicate]
     split <;> rfl
    rw [this]
    exact .t [] #[] .nil
  have hst : StP G fn.ntmps ρ w _ { tmps := args' ++ Array.replicate (fn.ntmps - args'.size) undef, defers := [] } w :=
   ⟨ρ, aH args, h, Ex.refl G ρ, H, he, Kp.refl G w, by simp; omega, rfl, hF args h v h1 hr H.isFresh⟩
  refine wp_mono (bLv K hP.mixed c _ _ _ _ _ hst) fun e a' w' hq => ?_
  have hfin : StP G fn.ntmps ρ w (fun env h' => ∃ h2, aU C fn env h' = some (v, h2) ∧ Le h2 h1) a' w' → a'.defers = [] ∧ ∃ v', (results fn a'.tmps).run C.P w' = .ok v' w' ∧ lO G ρ w v h1 (.returned v') w' := by
   rintro ⟨ρ', env, h', e1, e2, e3, e4, e5, e6, h2, e7, e8⟩
   obtain ⟨rfl, v', r1, r2⟩ := aZd e2 e3 e7
   exact ⟨e6, v', r1, ρ', v', rfl, e1, r2, e8 _ _ _ e2, e4⟩
  cases e with
  | normal => exact hfin hq
  | ret => exact hfin hq
  | exit id => obtain ⟨ρ', env, h', e1, e2, e3, e4, e5, e6, e7⟩ := hq; exact e7.elim
  | goto l => exact hq.elim
  | panic ch => exact hq.elim
  | outgrown => exact hq.elim
end
end Go.Dd

namespace Go.Dd
open Go.RowKit (Below)
section
variable {ro : Option Nat} {n : Nat} {P : Program} {Q : Exit → Act → World → Prop}
end
section
variable {C : Cfg} {G : Gd} {rec : FuncId → List DV → Hp → aI} {nt n : Nat}
end
end Go.Dd

namespace Go.Dd
open Go.RowKit (Below)
section
variable {G G' : Gd} {ρ : dC} {h : Hp} {w : World}
end
end Go.Dd

namespace Go.Dd
open Go.RowKit (Below)
structure ItC where
 gf : FuncId
 nt : Nat
 pre : Code
 b0 : Nat
 test : Code
 b1 : Nat
 rid : Nat
 front : List Oper
 y : Oper
 back : List Oper
 after : Code
 post : Code
 step : Code
 yd : Tmp
 yt : Tmp
 yx : Tmp
def ItC.ops (I : ItC) : Array Oper := (I.front ++ I.y :: I.back).toArray
def aLh : Nat → K := fun _ => dL
def ylB (v : DV) (b : Pos) : Bool := match v with
 | .yl b' => b' == b
 | _ => false
section
variable (C : Cfg) (rec : FuncId → List DV → Hp → aI) (n : Nat) (I : ItC)
noncomputable def aMk (b : Bool) (kr k : K) (e1 : aZ) : Hp → aI := fun h =>
 cnd (cY I.nt (some I.yd)) (iW C rec I.nt I.ops I.back (aM C rec I.nt n I.after aLh kr k) (bO e1 (some I.yd) (.b b)) h)
noncomputable def aOu (nt : Nat) (p : Tmp) (x y : Code) (env : aZ) (X : Nat → K) (kr kk : K) : K := fun e1 h1 =>
 cnd (cY nt (some p)) (aM C rec nt n x aLh dL (aM C rec nt n y
   (fun i _ h2 => aMk C rec n I false (fun _ h3 => X i env h3) dL e1 h2)
   (fun _ h2 => aMk C rec n I false (fun _ h3 => kr env h3) dL e1 h2)
   (fun _ h2 => aMk C rec n I true dL (aM C rec I.nt n I.post aLh dL (aM C rec I.nt n I.step aLh dL kk)) e1 h2))
  (bO env (some p) (e1 I.yx)) h1)
noncomputable def aEm (nt : Nat) (g : Operand) (p : Tmp) (x y : Code) (X : Nat → K) (kr k : K) : K := fun env h =>
 match opr env g with
 | .f gf [] cap => cnd (Nat.beq gf I.gf) (aM C rec I.nt n I.pre aLh dL
   (aN (fun kk => aM C rec I.nt n I.test (fun j => bif Nat.beq j I.b0 then (fun _ h => k env h) else dL) dL
    (iW C rec I.nt I.ops I.front (fun e1 h1 => cnd (ylB (e1 I.yt) h.next) (aOu C rec n I nt p x y env X kr kk e1 h1)))) n)
   (aH (.yl h.next :: cap)) (resv 2 h))
 | _ => none
end
section
variable {C : Cfg} {G : Gd} {rec : FuncId → List DV → Hp → aI} {n : Nat} {I : ItC} {N : Nat}
end
end Go.Dd

namespace Go.Dd
open Go.RowKit (Below)
section
variable {C : Cfg} {G : Gd} {rec : FuncId → List DV → Hp → aI} {n : Nat} {I : ItC} {N : Nat}
section
variable {ρ : dC} {w0 : World} {D l : Nat} {nt : Nat} {p : Tmp} {x y : Code} {f0 : FuncId} {a0 : Act} {env : aZ} {X : Nat → Dd.K} {kr k : Dd.K} {r : DV × Hp} {b : Pos}
end
end
end Go.Dd

namespace Go.Dd
open Go.RowKit (Below)
section
variable {C : Cfg} {G : Gd} {rec : FuncId → List DV → Hp → aI} {n : Nat} {I : ItC} {N : Nat}
variable {ρ : dC} {w0 : World} {D l : Nat} {nt : Nat} {p : Tmp} {x y : Code} {f0 : FuncId} {a0 : Act} {env : aZ} {X : Nat → Dd.K} {kr k : Dd.K} {r : DV × Hp} {b : Pos}
end
end Go.Dd

namespace Go.Dd
open Go.RowKit (Below)
section
variable {C : Cfg} {G : Gd} {rec : FuncId → List DV → Hp → aI} {n : Nat} {I : ItC} {N : Nat}
end
end Go.Dd

namespace Go.Dd
open Go.RowKit (Below)
noncomputable def dPf (ps : Array Tmp) (k : Tmp → K) : K := match ps.toList with
 | [p] => k p
 | _ => dL
section
variable (C : Cfg) (rec : FuncId → List DV → Hp → aI) (nt n : Nat) (I : ItC)
noncomputable def bKu (c : Code) : (Nat → K) → K → K → K :=
 Code.rec (motive := fun _ => (Nat → K) → K → K → K)
  (fun _ _ k => k)
  (fun _ ops dr _ _ k => Bool.rec (motive := fun _ => K) (iW C rec nt ops ops.toList k) (Bool.rec (motive := fun _ => K) dL (iI C rec nt ops k) (fC C.P ops)) dr)
  (fun _ _ iha ihb X kr k => iha X kr (ihb X kr k))
  (fun c _ _ iha ihb X kr k => fun env h => aS (opr env c) (iha X kr k env h) (ihb X kr k env h))
  (fun id _ ih X kr k => ih (fun j => bif Nat.beq j id then k else X j) kr k)
  (fun _ ih X kr _ => aN (fun kk => ih X kr kk) n)
  (fun g ps x y _ _ X kr k => dPf ps fun p => aEm C rec n I nt g p x y X kr k)
  (fun id X _ _ => X id)
  (fun _ _ _ _ _ => dL)
  (fun _ _ _ _ => dL)
  (fun _ _ _ _ => dL)
  (fun _ kr _ => kr)
  (fun _ _ _ _ => dL) c
noncomputable def mF (f : FuncId) (args : List DV) (h : Hp) : aI :=
 match C.P.funcs[f]? with
 | some fn => match fn.body with
  | some c => bKu C rec fn.ntmps n I c (fun _ => dL) (aU C fn) (aU C fn) (aH args) h
  | none => none
 | none => none
end
section
variable {C : Cfg} {G : Gd} {rec : FuncId → List DV → Hp → aI} {nt n : Nat} {I : ItC}
end
end Go.Dd

namespace Go.Dd
noncomputable section
def WT.get (t : WT) : Nat → Int :=
 WT.rec (motive := fun _ => Nat → Int) (fun _ => .ofNat 0)
  (fun _ v _ ihl ihr k => bif Nat.beq k 0 then v else bif Nat.beq (Nat.mod k 2) 1 then ihl (Nat.div k 2) else ihr (Nat.div (Nat.sub k 1) 2)) t
def dQj (x : Int) (fuel : Nat) : Nat → WT → WT :=
 Nat.rec (motive := fun _ => Nat → WT → WT) (fun _ t => t)
  (fun _ ih k t => WT.rec (motive := fun _ => WT)
   (bif Nat.beq k 0 then .n .e x .e else bif Nat.beq (Nat.mod k 2) 1 then .n (ih (Nat.div k 2) .e) (.ofNat 0) .e else .n .e (.ofNat 0) (ih (Nat.div (Nat.sub k 1) 2) .e))
   (fun l v r _ _ => bif Nat.beq k 0 then .n l x r else bif Nat.beq (Nat.mod k 2) 1 then .n (ih (Nat.div k 2) l) v r else .n l v (ih (Nat.div (Nat.sub k 1) 2) r)) t) fuel
def WT.set (t : WT) (k : Nat) (x : Int) : WT := dQj x 24 k t
theorem WT.get_e (k : Nat) : WT.e.get k = 0 := rfl
theorem dQg (l : WT) (v : Int) (r : WT) (k : Nat) : (WT.n l v r).get k = if k = 0 then v else if k % 2 = 1 then l.get (k / 2) else r.get ((k - 1) / 2) := by
 show (bif Nat.beq k 0 then v else bif Nat.beq (Nat.mod k 2) 1 then l.get (Nat.div k 2) else r.get (Nat.div (Nat.sub k 1) 2)) = _
 cases h0 : Nat.beq k 0 with
 | true => have := Nat.eq_of_beq_eq_true h0; subst this; rfl
 | false =>
  have n0 : k ≠ 0 := by intro e; subst e; cases h0
  rw [if_neg n0]
  cases h1 : Nat.beq (Nat.mod k 2) 1 with
  | true => have : k % 2 = 1 := Nat.eq_of_beq_eq_true h1; rw [if_pos this]; rfl
  | false =>
   have n1 : k % 2 ≠ 1 := by intro e; have e' : Nat.mod k 2 = 1 := e; rw [e'] at h1; cases h1
   rw [if_neg n1]; rfl
theorem dQs (x : Int) (f k : Nat) (t : WT) : dQj x (f + 1) k t = match t with
  | .e => if k = 0 then .n .e x .e else if k % 2 = 1 then .n (dQj x f (k / 2) .e) 0 .e else .n .e 0 (dQj x f ((k - 1) / 2) .e)
  | .n l v r => if k = 0 then .n l x r else if k % 2 = 1 then .n (dQj x f (k / 2) l) v r else .n l v (dQj x f ((k - 1) / 2) r) := by
 have hb : ∀ {α : Type} (a b c : α), (bif Nat.beq k 0 then a else bif Nat.beq (Nat.mod k 2) 1 then b else c) = if k = 0 then a else if k % 2 = 1 then b else c := by
  intro α a b c
  cases h0 : Nat.beq k 0 with
  | true => have := Nat.eq_of_beq_eq_true h0; subst this; rfl
  | false =>
   have n0 : k ≠ 0 := by intro e; subst e; cases h0
   rw [if_neg n0]
   cases h1 : Nat.beq (Nat.mod k 2) 1 with
   | true => have : k % 2 = 1 := Nat.eq_of_beq_eq_true h1; rw [if_pos this]; rfl
   | false =>
    have n1 : k % 2 ≠ 1 := by intro e; have e' : Nat.mod k 2 = 1 := e; rw [e'] at h1; cases h1
    rw [if_neg n1]; rfl
 cases t with
 | e => exact hb _ _ _
 | n l v r => exact hb _ _ _
theorem dQm (x : Int) : ∀ (f k : Nat) (t : WT) (j : Nat), k + 1 < 2 ^ f → (dQj x f k t).get j = if j = k then x else t.get j
 | 0, k, t, j, h => by simp at h
 | f + 1, k, t, j, h => by
  have h2 : 2 ^ (f + 1) = 2 * 2 ^ f := by rw [Nat.pow_succ]; omega
  have ih := fun k t j (h : k + 1 < 2 ^ f) => dQm x f k t j h
  rw [dQs]
  cases t with
  | e =>
   simp only
   split
   ·subst_vars
    rw [dQg]
    split
    ·rfl
    ·simp [WT.get_e]
   ·split
    ·rw [dQg]
     split
     ·subst_vars; rw [if_neg (by omega)]; rfl
     ·split
      ·rw [ih _ _ _ (by omega), WT.get_e, WT.get_e]
       by_cases hj : j = k
       ·rw [if_pos hj, if_pos (by omega)]
       ·rw [if_neg hj, if_neg (by omega)]
      ·rw [WT.get_e, if_neg (by omega)]; rfl
    ·rw [dQg]
     split
     ·subst_vars; rw [if_neg (by omega)]; rfl
     ·split
      ·rw [WT.get_e, if_neg (by omega)]; rfl
      ·rw [ih _ _ _ (by omega), WT.get_e, WT.get_e]
       by_cases hj : j = k
       ·rw [if_pos hj, if_pos (by omega)]
       ·rw [if_neg hj, if_neg (by omega)]
  | n l v r =>
   simp only
   split
   ·subst_vars
    rw [dQg, dQg]
    split
    ·rfl
    ·rfl
   ·split
    ·rw [dQg, dQg]
     split
     ·subst_vars; rw [if_neg (by omega)]
     ·split
      ·rw [ih _ _ _ (by omega)]
       by_cases hj : j = k
       ·rw [if_pos hj, if_pos (by omega)]
       ·rw [if_neg hj, if_neg (by omega)]
      ·rw [if_neg (by omega)]
    ·rw [dQg, dQg]
     split
     ·subst_vars; rw [if_neg (by omega)]
     ·split
      ·rw [if_neg (by omega)]
      ·rw [ih _ _ _ (by omega)]
       by_cases hj : j = k
       ·rw [if_pos hj, if_pos (by omega)]
       ·rw [if_neg hj, if_neg (by omega)]
theorem WT.get_set (t : WT) (k : Nat) (x : Int) (j : Nat) (h : k < 16000000) : (t.set k x).get j = if j = k then x else t.get j :=
 dQm x 24 k t j (by omega)
def gW (n : Nat) (t : WT) : List DV := (List.range n).map fun i => .i .i64 (t.get i)
def sN (g : Bool) : Ob → Ob → Prop
 | .big n t, o => if g then o = .big n t else o = .row .ex (gW n t)
 | .mi t, o => if g then o = .mi t else ∃ es, o = .mp es ∧ ∀ a : Int, dI (.int .i64) (.i .i64 a) es = some (if 0 ≤ a ∧ t.get a.toNat ≠ 0 then some (.b true) else none)
 | o, o' => o' = o
structure Sim (g : Bool) (h h' : Hp) : Prop where
 next : h'.next = h.next
 get : ∀ b o, h.bl.get b = some o → ∃ o', h'.bl.get b = some o' ∧ sN g o o'
def SimR (g : Bool) (r r' : aI) : Prop := ∀ v h, r = some (v, h) → ∃ h', r' = some (v, h') ∧ Sim g h h'
def SimP (g : Bool) (p p' : Hp → aI) : Prop := ∀ h h', Sim g h h' → SimR g (p h) (p' h')
variable {h h' : Hp} {g : Bool}
theorem Sim.row (S : Sim g h h') {b : Pos} {k : Kind} {l : List DV} (hb : h.bl.get b = some (.row k l)) : h'.bl.get b = some (.row k l) := by
 obtain ⟨o', h1, h2⟩ := S.get b _ hb
 rw [h1, show o' = .row k l from h2]
theorem Sim.it (S : Sim g h h') {b : Pos} {s : List Nat} {p : Nat} (hb : h.bl.get b = some (.it s p)) : h'.bl.get b = some (.it s p) := by
 obtain ⟨o', h1, h2⟩ := S.get b _ hb
 rw [h1, show o' = .it s p from h2]
theorem Sim.mp (S : Sim g h h') {b : Pos} {es : List (DV × DV)} (hb : h.bl.get b = some (.mp es)) : h'.bl.get b = some (.mp es) := by
 obtain ⟨o', h1, h2⟩ := S.get b _ hb
 rw [h1, show o' = .mp es from h2]
theorem Sim.set (S : Sim g h h') {o o' : Ob} (hr : sN g o o') (b n : Pos) : Sim g ⟨n, Tr.set o b h.bl⟩ ⟨n, Tr.set o' b h'.bl⟩ := by
 refine ⟨rfl, fun x ob hx => ?_⟩
 by_cases e : x = b
 ·subst e
  simp only [dPo, bE] at hx ⊢
  subst hx
  exact ⟨o', rfl, hr⟩
 ·simp only [dPn _ _ _ _ e] at hx ⊢
  exact S.get x ob hx
theorem Sim.setR (S : Sim g h h') (k : Kind) (l : List DV) (b n : Pos) : Sim g ⟨n, Tr.set (.row k l) b h.bl⟩ ⟨n, Tr.set (.row k l) b h'.bl⟩ := S.set (show sN g (.row k l) (.row k l) from rfl) b n
theorem Sim.setM (S : Sim g h h') (es : List (DV × DV)) (b n : Pos) : Sim g ⟨n, Tr.set (.mp es) b h.bl⟩ ⟨n, Tr.set (.mp es) b h'.bl⟩ := S.set (show sN g (.mp es) (.mp es) from rfl) b n
theorem Sim.setI (S : Sim g h h') (s : List Nat) (p : Nat) (b n : Pos) : Sim g ⟨n, Tr.set (.it s p) b h.bl⟩ ⟨n, Tr.set (.it s p) b h'.bl⟩ := S.set (show sN g (.it s p) (.it s p) from rfl) b n
theorem Sim.new (S : Sim g h h') {o o' : Ob} (hr : sN g o o') : Sim g ⟨h.next.succ, Tr.set o h.next h.bl⟩ ⟨h'.next.succ, Tr.set o' h'.next h'.bl⟩ := by
 rw [S.next]; exact S.set hr _ _
theorem SimR.none (r : aI) : SimR g none r := fun v h e => by cases e
theorem SimR.some (S : Sim g h h') (v : DV) : SimR g (some (v, h)) (some (v, h')) := fun u k e => by
 simp only [bE, bQ] at e
 obtain ⟨rfl, rfl⟩ := e
 exact ⟨h', rfl, S⟩
theorem dPr {F : Hp → aI} (hF : PureP F) : SimP g F F := fun h h' S v k e => by
 obtain ⟨rfl, h2⟩ := hF h v k e
 exact ⟨h', h2 h', S⟩
theorem Sim.rowOf (S : Sim g h h') {b : Pos} {l : List DV} (hb : rowOf b h = some l) : rowOf b h' = some l := by
 unfold Dd.rowOf at hb ⊢
 split at hb <;> (try (cases hb; done))
 rename_i k l0 h0
 rw [S.row h0]; exact hb
theorem Sim.cellsAt (S : Sim g h h') {b : Pos} {o n : Nat} {cs : List DV} (hb : cellsAt b o n h = some cs) : cellsAt b o n h' = some cs := by
 unfold Dd.cellsAt at hb ⊢
 split at hb <;> (try (cases hb; done))
 rename_i l h0
 rw [S.rowOf h0]; exact hb
theorem Sim.cellD (S : Sim g h h') {b : Pos} {o : Nat} {v : DV} (hb : cellD b o h = some v) : cellD b o h' = some v := by
 unfold Dd.cellD at hb ⊢
 split at hb <;> (try (cases hb; done))
 rename_i l h0
 rw [S.rowOf h0]; exact hb
theorem Sim.storeAt (S : Sim g h h') {b : Pos} {o : Nat} {vs : List DV} {k : Hp} (hb : dB b o vs h = some k) : ∃ k', dB b o vs h' = some k' ∧ Sim g k k' := by
 unfold dB at hb ⊢
 split at hb <;> (try (cases hb; done))
 rename_i kd l h0
 rw [S.row h0]
 dsimp only
 split at hb <;> (try (cases hb; done))
 rename_i hw
 rw [if_pos hw]
 split at hb <;> (try (cases hb; done))
 rename_i l' hp
 simp only [bE] at hb
 subst hb
 try simp only [hp]
 exact ⟨_, rfl, by rw [S.next]; exact S.set (show sN g (.row kd l') (.row kd l') from rfl) _ _⟩
theorem aEe (cs : List DV) : SimP g (bL cs) (bL cs) := fun h h' S v k e => by
 simp only [bL, bE, bQ] at e ⊢
 obtain ⟨rfl, rfl⟩ := e
 exact ⟨_, ⟨by rw [S.next], rfl⟩, S.new rfl⟩
theorem aAg (b : Pos) (cs : List DV) : SimP g (iK b cs) (iK b cs) := fun h h' S v k e => by
 simp only [iK, bE, bQ] at e ⊢
 obtain ⟨rfl, rfl⟩ := e
 exact ⟨_, ⟨rfl, rfl⟩, by rw [S.next]; first | exact S.setR _ _ _ _ | exact S.setM _ _ _ | exact S.setI _ _ _ _⟩
theorem cMb (x : DV) : SimP g (bR x) (bR x) := by
 unfold bR
 cases cZ x with
 | none => exact fun h h' S => SimR.none _
 | some cs => exact aEe cs
theorem bEn (b : Pos) (x : DV) : SimP g (xV b x) (xV b x) := by
 unfold xV
 cases cZ x with
 | none => exact fun h h' S => SimR.none _
 | some cs => exact aAg b cs
theorem kG (x : DV) : SimP g (aA x) (aA x) := fun h h' S v k e => by
 unfold aA at e ⊢
 split at e <;> (try (cases e; done))
 split at e <;> (try (cases e; done))
 rename_i hc
 simp only [bE, bQ] at e
 obtain ⟨rfl, rfl⟩ := e
 simp only [S.cellD hc]
 exact ⟨_, rfl, S⟩
theorem kN (n : Nat) (x : DV) : SimP g (aK n x) (aK n x) := fun h h' S v k e => by
 unfold aK at e ⊢
 split at e <;> (try (cases e; done))
 split at e <;> (try (cases e; done))
 rename_i hc
 simp only [bE, bQ] at e
 obtain ⟨rfl, rfl⟩ := e
 simp only [S.cellsAt hc]
 exact ⟨_, rfl, S⟩
theorem kP (n : Nat) (x y : DV) : SimP g (aG n x y) (aG n x y) := fun h h' S v k e => by
 unfold aG at e ⊢
 split at e <;> (try (cases e; done))
 rename_i b o cs hc
 try rw [hc]
 try dsimp only
 split at e <;> (try (cases e; done))
 rename_i hn
 rw [if_pos hn]
 split at e <;> (try (cases e; done))
 rename_i k0 hs
 simp only [bE, bQ] at e
 obtain ⟨rfl, rfl⟩ := e
 obtain ⟨k', h1, h2⟩ := S.storeAt hs
 try simp only [h1]
 exact ⟨_, rfl, h2⟩
theorem bBr (size : Nat) (x : DV) (lo hi : Option DV) : SimP g (cU size x lo hi) (cU size x lo hi) := fun h h' S v k e => by
 unfold cU at e ⊢
 split at e <;> (try (cases e; done))
 ·split at e <;> (try (cases e; done))
  rename_i en he
  try simp only [he]
  split at e <;> (try (cases e; done))
  rename_i s hs
  try simp only [hs]
  split at e <;> (try (cases e; done))
  ·rename_i l0 hb
   rw [S.row hb]
   simp only [bE, bQ] at e
   obtain ⟨rfl, rfl⟩ := e
   exact ⟨_, rfl, S⟩
  ·rename_i l0 hb
   rw [S.row hb]
   simp only [bE, bQ] at e
   obtain ⟨rfl, rfl⟩ := e
   exact ⟨_, rfl, S⟩
  ·rename_i k0 l0 n1 n2 hb
   rw [S.row hb]
   cases k0 with
   | ro => exact absurd rfl n1
   | ex => exact absurd rfl n2
   | gr es =>
    dsimp only
    split at e
    ·rename_i hcs
     simp only [bE, bQ] at e
     obtain ⟨rfl, rfl⟩ := e
     rw [if_pos hcs]
     exact ⟨_, rfl, S⟩
    ·rename_i hcs
     simp only [bE, bQ] at e
     obtain ⟨rfl, rfl⟩ := e
     rw [if_neg hcs]
     exact ⟨_, rfl, S⟩
   | sp =>
    dsimp only
    split at e
    ·rename_i hcs
     simp only [bE, bQ] at e
     obtain ⟨rfl, rfl⟩ := e
     rw [if_pos hcs]
     exact ⟨_, rfl, S⟩
    ·rename_i hcs
     simp only [bE, bQ] at e
     obtain ⟨rfl, rfl⟩ := e
     rw [if_neg hcs]
     exact ⟨_, rfl, S⟩
 all_goals
  split at e <;> (try (cases e; done))
  rename_i en he
  try simp only [he]
  split at e <;> (try (cases e; done))
  rename_i s hs
  try simp only [hs]
  simp only [bE, bQ] at e
  obtain ⟨rfl, rfl⟩ := e
  exact ⟨_, rfl, S⟩
theorem aQp (x : DV) (lo : Option DV) (hi mx : DV) : SimP g (mO x lo hi mx) (mO x lo hi mx) := fun h h' S v k e => by
 unfold mO at e ⊢
 split at e <;> (try (cases e; done))
 all_goals
  split at e <;> (try (cases e; done))
 ·rename_i m e1
  try simp only [e1]
  split at e <;> (try (cases e; done))
  rename_i n e2
  try simp only [e2]
  simp only [bE, bQ] at e
  obtain ⟨rfl, rfl⟩ := e
  exact ⟨_, rfl, S⟩
 ·rename_i m e1
  try simp only [e1]
  split at e <;> (try (cases e; done))
  rename_i n e2
  try simp only [e2]
  simp only [bE, bQ] at e
  obtain ⟨rfl, rfl⟩ := e
  exact ⟨_, rfl, S⟩
 ·rename_i n1 n2 e1 e2
  try simp only [e1, e2]
  simp only [bE, bQ] at e
  obtain ⟨rfl, rfl⟩ := e
  exact ⟨_, rfl, S⟩
 ·rename_i n1 n2 e1 e2
  try simp only [e1, e2]
  simp only [bE, bQ] at e
  obtain ⟨rfl, rfl⟩ := e
  exact ⟨_, rfl, S⟩
theorem bBw (x : DV) : SimP g (gP x) (gP x) := fun h h' S v k e => by
 unfold gP at e ⊢
 split at e <;> (try (cases e; done))
 ·simp only [bE, bQ] at e
  obtain ⟨rfl, rfl⟩ := e
  exact ⟨_, rfl, S⟩
 ·split at e <;> (try (cases e; done))
  rename_i cs hc
  simp only [S.cellsAt hc]
  split at e <;> (try (cases e; done))
  rename_i l hl
  try simp only [hl]
  simp only [bE, bQ] at e
  obtain ⟨rfl, rfl⟩ := e
  exact ⟨_, rfl, S⟩
theorem yX (z : List DV) (n : Nat) (ps : List (Nat × Nat × DV)) : SimP g (aL z n ps) (aL z n ps) := fun h h' S v k e => by
 unfold aL at e ⊢
 split at e <;> (try (cases e; done))
 rename_i cs hf
 try simp only [hf]
 simp only [bE, bQ] at e ⊢
 obtain ⟨rfl, rfl⟩ := e
 exact ⟨_, ⟨by rw [S.next], rfl⟩, S.new rfl⟩
theorem rF (b : Pos) (z : List DV) (n : Nat) (ps : List (Nat × Nat × DV)) : SimP g (bK b z n ps) (bK b z n ps) := fun h h' S v k e => by
 unfold bK at e ⊢
 split at e <;> (try (cases e; done))
 rename_i cs hf
 try simp only [hf]
 simp only [bE, bQ] at e ⊢
 obtain ⟨rfl, rfl⟩ := e
 exact ⟨_, ⟨rfl, rfl⟩, by rw [S.next]; first | exact S.setR _ _ _ _ | exact S.setM _ _ _ | exact S.setI _ _ _ _⟩
theorem aKr : SimP g dY dY := fun h h' S v k e => by
 simp only [dY, bE, bQ] at e ⊢
 obtain ⟨rfl, rfl⟩ := e
 exact ⟨_, ⟨by rw [S.next], rfl⟩, S.new rfl⟩
theorem Sim.entries (S : Sim g h h') {x : DV} {es : List (DV × DV)} (he : fP x h = some es) : fP x h' = some es := by
 unfold fP at he ⊢
 split at he <;> (try (cases he; done))
 ·exact he
 ·split at he <;> (try (cases he; done))
  rename_i hb
  rw [S.mp hb]; exact he
theorem aQg (d : TypeDesc) (z : DV) (ok : Bool) (x key : DV) : SimP g (dM d z ok x key) (dM d z ok x key) := fun h h' S v k e => by
 unfold dM at e ⊢
 split at e <;> (try (cases e; done))
 rename_i es he
 simp only [S.entries he]
 split at e <;> (try (cases e; done))
 all_goals
  rename_i hf
  try simp only [hf]
  simp only [bE, bQ] at e
  obtain ⟨rfl, rfl⟩ := e
  exact ⟨_, rfl, S⟩
theorem aSs (d : TypeDesc) (x key y : DV) : SimP g (gA d x key y) (gA d x key y) := fun h h' S v k e => by
 unfold gA at e ⊢
 split at e <;> (try (cases e; done))
 split at e <;> (try (cases e; done))
 rename_i b _ es hb
 rw [S.mp hb]
 dsimp only
 split at e <;> (try (cases e; done))
 rename_i hf
 try simp only [hf]
 simp only [bE, bQ] at e
 obtain ⟨rfl, rfl⟩ := e
 exact ⟨_, rfl, by rw [S.next]; first | exact S.setR _ _ _ _ | exact S.setM _ _ _ | exact S.setI _ _ _ _⟩
theorem aEj (d : TypeDesc) (z x key : DV) : SimP g (fR d z x key) (fR d z x key) := fun h h' S v k e => by
 unfold fR at e ⊢
 split at e <;> (try (cases e; done))
 split at e <;> (try (cases e; done))
 rename_i b _ es hb
 rw [S.mp hb]
 dsimp only
 split at e <;> (try (cases e; done))
 all_goals
  rename_i hf
  try simp only [hf]
  simp only [bE, bQ] at e
  obtain ⟨rfl, rfl⟩ := e
  exact ⟨_, rfl, by rw [S.next]; first | exact S.setR _ _ _ _ | exact S.setM _ _ _ | exact S.setI _ _ _ _⟩
theorem vJ (x s y : DV) : SimP g (dW x s y) (dW x s y) := fun h h' S v k e => by
 unfold dW at e ⊢
 split at e <;> (try (cases e; done))
 split at e <;> (try (cases e; done))
 rename_i es hb
 rw [S.mp hb]
 dsimp only
 split at e <;> (try (cases e; done))
 rename_i hf
 try simp only [hf]
 simp only [bE, bQ] at e
 obtain ⟨rfl, rfl⟩ := e
 exact ⟨_, rfl, by rw [S.next]; first | exact S.setR _ _ _ _ | exact S.setM _ _ _ | exact S.setI _ _ _ _⟩
theorem zL (size bytes : Nat) (z : List DV) (n c : DV) : SimP g (cK size bytes z n c) (cK size bytes z n c) := fun h h' S v k e => by
 unfold cK at e ⊢
 split at e <;> (try (cases e; done))
 split at e <;> (try (cases e; done))
 rename_i hc
 rw [if_pos hc]
 simp only [bE, bQ] at e ⊢
 obtain ⟨rfl, rfl⟩ := e
 exact ⟨_, ⟨by rw [S.next], rfl⟩, S.new rfl⟩
theorem bDg (z : List DV) (x : DV) : SimP g (jI z x) (jI z x) := fun h h' S v k e => by
 unfold jI at e ⊢
 split at e <;> (try (cases e; done))
 ·simp only [bE, bQ] at e
  obtain ⟨rfl, rfl⟩ := e
  exact ⟨_, rfl, S⟩
 ·simp only [bE, bQ] at e
  obtain ⟨rfl, rfl⟩ := e
  exact ⟨_, rfl, S⟩
 ·split at e
  ·rename_i hn
   simp only [bE, bQ] at e
   obtain ⟨rfl, rfl⟩ := e
   simp only [hn, if_true]
   exact ⟨_, rfl, S⟩
  ·rename_i hn
   rw [if_neg hn]
   split at e <;> (try (cases e; done))
   rename_i k0 hs
   simp only [bE, bQ] at e
   obtain ⟨rfl, rfl⟩ := e
   obtain ⟨k', h1, h2⟩ := S.storeAt hs
   try simp only [h1]
   exact ⟨_, rfl, h2⟩
theorem Sim.src (S : Sim g h h') {size : Nat} {x : DV} {r : Nat × List DV} (hs : sF size x h = some r) : sF size x h' = some r := by
 unfold sF at hs ⊢
 split at hs <;> (try (cases hs; done))
 ·exact hs
 ·exact hs
 ·split at hs <;> (try (cases hs; done))
  rename_i hc
  simp only [S.cellsAt hc]; exact hs
 ·split at hs <;> (try (cases hs; done))
  rename_i hc
  simp only [S.cellsAt hc]; exact hs
 ·exact hs
theorem aTg (size bytes : Nat) (s x : DV) : SimP g (bA size bytes s x) (bA size bytes s x) := fun h h' S v k e => by
 unfold bA at e ⊢
 split at e <;> (try (cases e; done))
 rename_i n new hs
 simp only [S.src hs]
 split at e <;> (try (cases e; done))
 ·split at e
  ·rename_i hn
   rw [if_pos hn]
   simp only [bE, bQ] at e
   obtain ⟨rfl, rfl⟩ := e
   exact ⟨_, rfl, S⟩
  ·rename_i hn
   rw [if_neg hn]
   split at e <;> (try (cases e; done))
   rename_i hr
   rw [if_pos hr]
   simp only [bE, bQ] at e ⊢
   obtain ⟨rfl, rfl⟩ := e
   exact ⟨_, ⟨by rw [S.next], rfl⟩, S.new rfl⟩
 ·split at e <;> (try (cases e; done))
  rename_i hn
  rw [if_pos hn]
  simp only [bE, bQ] at e
  obtain ⟨rfl, rfl⟩ := e
  exact ⟨_, rfl, S⟩
 ·rename_i b o len cap
  split at e
  ·rename_i hle
   rw [if_pos hle]
   split at e <;> (try (cases e; done))
   rename_i k0 hst
   simp only [bE, bQ] at e
   obtain ⟨rfl, rfl⟩ := e
   obtain ⟨k', h1, h2⟩ := S.storeAt hst
   try simp only [h1]
   exact ⟨_, rfl, h2⟩
  ·rename_i hle
   rw [if_neg hle]
   split at e <;> (try (cases e; done))
   rename_i k0 l old hb hold
   rw [S.row hb, S.cellsAt hold]
   dsimp only
   split at e <;> (try (cases e; done))
   rename_i hroom
   rw [if_pos hroom]
   split at e <;> (try (cases e; done))
   ·simp only [bE, bQ] at e ⊢
    obtain ⟨rfl, rfl⟩ := e
    exact ⟨_, ⟨by rw [S.next], rfl⟩, S.new rfl⟩
   ·simp only [bE, bQ] at e ⊢
    obtain ⟨rfl, rfl⟩ := e
    exact ⟨_, ⟨by rw [S.next], rfl⟩, S.new rfl⟩
   ·split at e <;> (try (cases e; done))
    rename_i hes
    rw [if_pos hes]
    simp only [bE, bQ] at e ⊢
    obtain ⟨rfl, rfl⟩ := e
    refine ⟨_, ⟨by rw [S.next], rfl⟩, ?_⟩
    have S1 : Sim g ⟨h.next, Tr.set (.row .sp (bS o l)) b h.bl⟩ ⟨h'.next, Tr.set (.row .sp (bS o l)) b h'.bl⟩ := by
     rw [S.next]; exact S.set (show sN g (.row .sp (bS o l)) (.row .sp (bS o l)) from rfl) _ _
    exact S1.new rfl
 ·rename_i b o len cap
  split at e
  ·rename_i hn
   rw [if_pos hn]
   split at e <;> (try (cases e; done))
   rename_i hc
   rw [if_pos hc]
   simp only [bE, bQ] at e
   obtain ⟨rfl, rfl⟩ := e
   exact ⟨_, rfl, S⟩
  ·rename_i hn
   rw [if_neg hn]
   split at e <;> (try (cases e; done))
   rename_i hc
   rw [if_neg hc]
   split at e <;> (try (cases e; done))
   rename_i old hold
   simp only [S.cellsAt hold]
   split at e <;> (try (cases e; done))
   rename_i hr
   rw [if_pos hr]
   simp only [bE, bQ] at e ⊢
   obtain ⟨rfl, rfl⟩ := e
   exact ⟨_, ⟨by rw [S.next], rfl⟩, S.new rfl⟩
theorem bEe (x : DV) : SimP g (nW x) (nW x) := fun h h' S v k e => by
 unfold nW at e ⊢
 split at e <;> (try (cases e; done))
 simp only [bE, bQ] at e ⊢
 obtain ⟨rfl, rfl⟩ := e
 exact ⟨_, ⟨by rw [S.next], rfl⟩, S.new rfl⟩
theorem bQj (x : DV) : SimP g (vA x) (vA x) := fun h h' S v k e => by
 unfold vA at e ⊢
 split at e <;> (try (cases e; done))
 split at e <;> (try (cases e; done))
 rename_i b _ l pos hb
 rw [S.it hb]
 dsimp only
 split at e
 ·rename_i c hc
  try simp only [hc]
  split at e <;> (try (cases e; done))
  rename_i hlt
  rw [if_pos hlt]
  simp only [bE, bQ] at e ⊢
  obtain ⟨rfl, rfl⟩ := e
  exact ⟨_, ⟨rfl, rfl⟩, by rw [S.next]; first | exact S.setR _ _ _ _ | exact S.setM _ _ _ | exact S.setI _ _ _ _⟩
 ·rename_i hc
  try simp only [hc]
  simp only [bE, bQ] at e ⊢
  obtain ⟨rfl, rfl⟩ := e
  exact ⟨_, ⟨rfl, rfl⟩, S⟩
end
end Go.Dd

namespace Go.Dd
theorem SimP.none {gg : Bool} (p : Hp → aI) : SimP gg (fun _ => Option.none) p := fun h h' S => SimR.none _
theorem SimP.val {gg : Bool} (v : DV) : SimP gg (fun h => some (v, h)) (fun h => some (v, h)) := fun h h' S => SimR.some S v
section
variable {gg : Bool} {P : Program} {I2 I1 : FuncId → Option (List DV → Hp → aI)} {rec2 rec1 : FuncId → List DV → Hp → aI}
theorem aKq (b : Builtin) (ts : List TypeId) (args : List DV) : SimP gg (jM ⟨P, I2⟩ b ts args) (jM ⟨P, I1⟩ b ts args) := by
 unfold jM
 cases b <;> try exact SimP.none _
 case len =>
  match ts, args with
  | [t], [x] =>
   dsimp only
   cases P.underlying t with
   | none => exact SimP.none _
   | some d => cases d <;> first | exact SimP.none _ | exact dPr (aAf x) | exact dPr (lS x)
  | [], _ => exact SimP.none _
  | [_], [] => exact SimP.none _
  | [_], _ :: _ :: _ => exact SimP.none _
  | _ :: _ :: _, _ => exact SimP.none _
 case min =>
  show SimP gg (rD args) (rD args)
  unfold rD
  match args with
  | [x, y] => exact dPr (aMj x y)
  | [] => exact SimP.none _
  | [_] => exact SimP.none _
  | _ :: _ :: _ :: _ => exact SimP.none _
 case max =>
  show SimP gg (qT args) (qT args)
  unfold qT
  match args with
  | [x, y] => exact dPr (aLv x y)
  | [] => exact SimP.none _
  | [_] => exact SimP.none _
  | _ :: _ :: _ :: _ => exact SimP.none _
 case clear =>
  match ts, args with
  | [t], [x] =>
   dsimp only
   cases P.underlying t with
   | none => exact SimP.none _
   | some d =>
    cases d <;> try exact SimP.none _
    rename_i e
    dsimp only
    cases P.info? e with
    | none => exact SimP.none _
    | some i =>
     dsimp only
     cases i.zero with
     | none => exact SimP.none _
     | some z =>
      dsimp only
      by_cases h0 : 0 < z.cells.size
      ·simp only [h0, if_true]; exact bDg _ _
      ·simp only [h0, if_false]; exact SimP.none _
  | [], _ => exact SimP.none _
  | [_], [] => exact SimP.none _
  | [_], _ :: _ :: _ => exact SimP.none _
  | _ :: _ :: _, _ => exact SimP.none _
 case append =>
  match ts, args with
  | [t, u], [s, x] =>
   dsimp only
   have hmain : ∀ e, SimP gg (fun h => match P.info? e with
     | some i => match i.zero with
      | some z => if 0 < i.size ∧ 0 < i.bytes ∧ z.cells.size = i.size then bA i.size i.bytes s x h else none
      | none => none
     | none => none) (fun h => match P.info? e with
     | some i => match i.zero with
      | some z => if 0 < i.size ∧ 0 < i.bytes ∧ z.cells.size = i.size then bA i.size i.bytes s x h else none
      | none => none
     | none => none) := by
    intro e
    cases P.info? e with
    | none => exact SimP.none _
    | some i =>
     dsimp only
     cases i.zero with
     | none => exact SimP.none _
     | some z =>
      dsimp only
      split
      ·exact aTg _ _ _ _
      ·exact SimP.none _
   cases P.underlying t with
   | none => exact SimP.none _
   | some d =>
    cases d <;> try exact SimP.none _
    rename_i e
    cases P.underlying u with
    | none => exact SimP.none _
    | some d2 => cases d2 <;> first | exact SimP.none _ | exact hmain e
  | [], _ => exact SimP.none _
  | [_], _ => exact SimP.none _
  | [_, _], [] => exact SimP.none _
  | [_, _], [_] => exact SimP.none _
  | [_, _], _ :: _ :: _ :: _ => exact SimP.none _
  | _ :: _ :: _ :: _, _ => exact SimP.none _
theorem aAc (HC : ∀ g args, SimP gg (bP ⟨P, I2⟩ rec2 g args) (bP ⟨P, I1⟩ rec1 g args)) (o : Oper) (env : aZ) : SimP gg (iS ⟨P, I2⟩ rec2 o env) (iS ⟨P, I1⟩ rec1 o env) := by
 obtain ⟨dst, op, ty, pos, after, guard⟩ := o
 unfold iS
 cases op <;> (try dsimp only) <;> try exact SimP.none _
 case move x => exact SimP.val _
 case assign x => exact SimP.val _
 case pick c x y => exact dPr (aAj _ _ _)
 case alloc t =>
  cases P.info? t with
  | none => exact SimP.none _
  | some i =>
   try dsimp only
   cases i.zero with
   | none => exact SimP.none _
   | some z => exact aEe _
 case box t x => exact cMb _
 case build t ps =>
  cases P.underlying t with
  | none => exact SimP.none _
  | some d =>
   cases d <;> (try dsimp only) <;> try exact SimP.none _
   rename_i fs
   cases P.info? t with
   | none => exact SimP.none _
   | some i =>
    try dsimp only
    cases i.zero with
    | none => exact SimP.none _
    | some z =>
     try dsimp only
     generalize fs.toList.mapM (fun f => (P.info? f.type).map fun fi => (f.offset, fi.size)) = pl
     cases pl with
     | none => exact SimP.none _
     | some pl =>
      try dsimp only
      generalize ps.toList.mapM (fun (q : Nat × Operand) => (pl[q.1]?).map fun s => (s.1, s.2, opr env q.2)) = l
      cases l with
      | none => exact SimP.none _
      | some l => exact dPr (vZ _ _)
 case buildSlice t n ps =>
  cases P.underlying t with
  | none => exact SimP.none _
  | some d =>
   cases d <;> (try dsimp only) <;> try exact SimP.none _
   rename_i e
   cases P.info? e with
   | none => exact SimP.none _
   | some i =>
    try dsimp only
    cases i.zero with
    | none => exact SimP.none _
    | some z =>
     try dsimp only
     split
     ·exact yX _ _ _
     ·exact SimP.none _
 case load t x =>
  cases P.underlying t with
  | none => exact SimP.none _
  | some d =>
   cases P.info? t with
   | none => exact SimP.none _
   | some i =>
    try dsimp only
    cases iT d with
    | true => exact kN _ _
    | false => exact kG _
 case store t x y =>
  cases P.info? t with
  | none => exact SimP.none _
  | some i => exact kP _ _ _
 case nilCheck x => exact dPr (aLf _)
 case binOp op t x y yt =>
  cases P.underlying t with
  | none => exact SimP.none _
  | some d => exact dPr (aMp _ _ _ _)
 case unOp op t x => exact dPr (aVa _ _)
 case convert src dst x =>
  cases P.underlying src with
  | none => exact SimP.none _
  | some d =>
   cases P.underlying dst with
   | none => cases d <;> exact SimP.none _
   | some d2 =>
    cases d2 <;> cases d <;> (try dsimp only) <;> first | exact SimP.none _ | exact dPr (nI _ _) | exact dPr (nO _) | skip
    all_goals
     rename_i e
     cases P.underlying e with
     | none => exact SimP.none _
     | some d3 =>
      cases d3 <;> (try dsimp only) <;> try exact SimP.none _
      rename_i k
      cases k <;> first | exact SimP.none _ | exact bBw _
 case makeFunc fn first cap =>
  cases fn <;> first | exact SimP.none _ | exact SimP.val _
 case slice t x lo hi mx =>
  cases P.underlying t with
  | none => exact SimP.none _
  | some d =>
   cases mx with
   | none =>
    cases d <;> (try dsimp only) <;> first | exact SimP.none _ | exact dPr (mM _ _ _) | skip
    rename_i e
    cases P.info? e with
    | none => exact SimP.none _
    | some i => exact bBr _ _ _ _
   | some m =>
    cases d <;> (try dsimp only) <;> try exact SimP.none _
    rename_i e
    cases P.info? e with
    | none => exact SimP.none _
    | some i =>
     cases hi with
     | none => exact SimP.none _
     | some hv => exact aQp _ _ _ _
 case fieldAddr t x f =>
  cases P.underlying t with
  | none => exact SimP.none _
  | some d =>
   cases d <;> (try dsimp only) <;> try exact SimP.none _
   rename_i fs
   cases fs[f]? with
   | none => exact SimP.none _
   | some fl =>
    try dsimp only
    cases P.info? fl.type with
    | none => exact SimP.none _
    | some i =>
     try dsimp only
     split
     ·exact SimP.none _
     ·exact dPr (yL _ _)
 case field t x f =>
  cases P.underlying t with
  | none => exact SimP.none _
  | some d =>
   cases d <;> (try dsimp only) <;> try exact SimP.none _
   rename_i fs
   cases fs[f]? with
   | none => exact SimP.none _
   | some fl =>
    try dsimp only
    cases P.underlying fl.type with
    | none => exact SimP.none _
    | some d2 =>
     cases P.info? fl.type with
     | none => exact SimP.none _
     | some i =>
      try dsimp only
      cases iT d2 with
      | true => exact dPr (wM _ _ _)
      | false => exact dPr (wU _ _)
 case indexAddr t x ix =>
  cases P.underlying t with
  | none => exact SimP.none _
  | some d =>
   cases d <;> (try dsimp only) <;> try exact SimP.none _
   ·rename_i e
    cases P.info? e with
    | none => exact SimP.none _
    | some i => exact dPr (mL _ _ _)
   ·rename_i n e
    cases P.info? e with
    | none => exact SimP.none _
    | some i => exact dPr (nH _ _ _ _)
 case index t x ix =>
  cases P.underlying t with
  | none => exact SimP.none _
  | some d => cases d <;> first | exact SimP.none _ | exact dPr (rW _ _)
 case extract x i => exact dPr (pM _ _)
 case range t x =>
  cases P.underlying t with
  | none => exact SimP.none _
  | some d => cases d <;> first | exact SimP.none _ | exact bEe _
 case next x str =>
  cases str with
  | true => simp only [if_true]; exact bQj _
  | false => simp only [Bool.false_eq_true, if_false]; exact SimP.none _
 case makeMap t r => cases r <;> first | exact SimP.none _ | exact aKr
 case lookup t x k ok =>
  cases P.underlying t with
  | none => exact SimP.none _
  | some d =>
   cases d <;> (try dsimp only) <;> try exact SimP.none _
   rename_i kt et
   cases P.underlying kt with
   | none => exact SimP.none _
   | some d2 =>
    cases P.info? et with
    | none => exact SimP.none _
    | some i =>
     try dsimp only
     cases i.zero with
     | none => exact SimP.none _
     | some z =>
      try dsimp only
      cases jO d2 with
      | true => exact aQg _ _ _ _ _
      | false => exact SimP.none _
 case mapUpdate t m k x =>
  cases P.underlying t with
  | none => exact SimP.none _
  | some d =>
   cases d <;> (try dsimp only) <;> try exact SimP.none _
   rename_i kt et
   cases P.underlying kt with
   | none => exact SimP.none _
   | some d2 =>
    try dsimp only
    cases jO d2 with
    | true => exact aSs _ _ _ _
    | false => exact SimP.none _
 case mapEntry t m k =>
  cases P.underlying t with
  | none => exact SimP.none _
  | some d =>
   cases d <;> (try dsimp only) <;> try exact SimP.none _
   rename_i kt et
   cases P.underlying kt with
   | none => exact SimP.none _
   | some d2 =>
    cases P.info? et with
    | none => exact SimP.none _
    | some i =>
     try dsimp only
     cases i.zero with
     | none => exact SimP.none _
     | some z =>
      try dsimp only
      cases jO d2 with
      | true => exact aEj _ _ _ _
      | false => exact SimP.none _
 case entryStore t m s x => exact vJ _ _ _
 case makeSlice t n c =>
  cases P.underlying t with
  | none => exact SimP.none _
  | some d =>
   cases d <;> (try dsimp only) <;> try exact SimP.none _
   rename_i e
   cases P.info? e with
   | none => exact SimP.none _
   | some i =>
    try dsimp only
    cases i.zero with
    | none => exact SimP.none _
    | some z =>
     try dsimp only
     split
     ·exact zL _ _ _ _ _
     ·exact SimP.none _
 case call c =>
  obtain ⟨callee, args, ats⟩ := c
  cases callee with
  | value f =>
   try dsimp only
   unfold cX
   cases opr env f <;> first | exact SimP.none _ | exact HC _ _
  | invoke r m => exact SimP.none _
  | builtin b => exact aKq _ _ _
theorem kK (HC : ∀ g args, SimP gg (bP ⟨P, I2⟩ rec2 g args) (bP ⟨P, I1⟩ rec1 g args)) (all : Array Oper) (o : Oper) (env : aZ) :
  SimP gg (bJ ⟨P, I2⟩ rec2 all o env) (bJ ⟨P, I1⟩ rec1 all o env) := by
 unfold bJ
 cases o.guard with
 | none => exact aAc HC o env
 | some g =>
  obtain ⟨j, want⟩ := g
  dsimp only
  unfold gD
  cases bAl all j env <;> try exact SimP.none _
  ·rename_i x
   dsimp only
   split
   ·exact aAc HC o env
   ·exact SimP.val _
  ·rename_i vs
   cases vs with
   | nil => exact SimP.val _
   | cons a b => exact SimP.none _
def SimK (gg : Bool) (k k' : K) : Prop := ∀ env, SimP gg (k env) (k' env)
theorem dPv {r r' : aI} {k k' : DV → Hp → aI} (h : SimR gg r r') (hk : ∀ v, SimP gg (k v) (k' v)) : SimR gg (bnd r k) (bnd r' k') := by
 intro v h1 e
 obtain ⟨u, h0, e1, e2⟩ := dK e
 obtain ⟨h0', f1, S⟩ := h u h0 e1
 obtain ⟨h1', g1, S1⟩ := hk u h0 h0' S v h1 e2
 exact ⟨h1', by rw [f1]; exact g1, S1⟩
theorem dQk {b b' : Bool} {r r' : aI} (hb : b = true → b' = true) (h : SimR gg r r') : SimR gg (cnd b r) (cnd b' r') := by
 cases b with
 | false => exact fun v k e => by cases e
 | true => rw [hb rfl]; exact h
theorem oP (HC : ∀ g args, SimP gg (bP ⟨P, I2⟩ rec2 g args) (bP ⟨P, I1⟩ rec1 g args)) (nt : Nat) (all : Array Oper) {k k' : K} (hk : SimK gg k k') :
  ∀ l : List Oper, SimK gg (iW ⟨P, I2⟩ rec2 nt all l k) (iW ⟨P, I1⟩ rec1 nt all l k')
 | [] => hk
 | o :: l => fun env h h' S => by
  change SimR gg (cnd (cY nt o.dst) (bnd (bJ ⟨P, I2⟩ rec2 all o env h) fun v h1 => iW ⟨P, I2⟩ rec2 nt all l k (bO env o.dst v) h1))
   (cnd (cY nt o.dst) (bnd (bJ ⟨P, I1⟩ rec1 all o env h') fun v h1 => iW ⟨P, I1⟩ rec1 nt all l k' (bO env o.dst v) h1))
  exact dQk id (dPv (kK HC all o env h h' S) fun v => oP HC nt all hk l _)
theorem dAv (o : Oper) (b : Pos) (env : aZ) : SimP gg (dT ⟨P, I2⟩ o b env) (dT ⟨P, I1⟩ o b env) := by
 obtain ⟨dst, op, ty, pos, after, guard⟩ := o
 unfold dT
 cases op <;> (try dsimp only) <;> try exact SimP.none _
 case alloc t =>
  cases P.info? t with
  | none => exact SimP.none _
  | some i =>
   dsimp only
   cases i.zero with
   | none => exact SimP.none _
   | some z => exact aAg _ _
 case box t x => exact bEn _ _
 case buildSlice t n ps =>
  cases P.underlying t with
  | none => exact SimP.none _
  | some d =>
   cases d <;> (try dsimp only) <;> try exact SimP.none _
   rename_i e
   cases P.info? e with
   | none => exact SimP.none _
   | some i =>
    dsimp only
    cases i.zero with
    | none => exact SimP.none _
    | some z =>
     dsimp only
     split
     ·exact rF _ _ _ _
     ·exact SimP.none _
theorem SimR.same {r r' : aI} (h : SimR gg r r') {v : DV} (hs : bG r v = true) : bG r' v = true := by
 unfold bG at hs ⊢
 split at hs
 ·rename_i x k
  obtain ⟨k', e, _⟩ := h x k rfl
  rw [e]; exact hs
 ·cases hs
inductive SimHs (gg : Bool) : List (Option Nat × Hp) → List (Option Nat × Hp) → Prop
 | nil : SimHs gg [] []
 | cons {j : Option Nat} {h h' : Hp} {l l' : List (Option Nat × Hp)} (S : Sim gg h h') (T : SimHs gg l l') : SimHs gg ((j, h) :: l) ((j, h') :: l')
theorem rN (m : Array Nat) (i : Nat) (v : DV) {look look' : Hp → aI} (hl : SimP gg look look') : ∀ (dirty : Bool) {hs hs' : List (Option Nat × Hp)}, SimHs gg hs hs' →
  eK m i v look dirty hs = true → eK m i v look' dirty hs' = true
 | dirty, _, _, .nil, h => h
 | dirty, _, _, .cons (j := j) S T, h => by
  unfold eK at h ⊢
  rw [Bool.and_eq_true] at h ⊢
  refine ⟨?_, ?_⟩
  ·have h1 := h.1
   cases dirty with
   | true => exact SimR.same (hl _ _ S) h1
   | false => exact h1
  ·have h2 := h.2
   cases j with
   | none => exact h2
   | some j =>
    dsimp only at h2 ⊢
    cases ho : gC m j i with
    | true => rfl
    | false =>
     rw [ho] at h2
     exact rN m i v hl true T h2
inductive SimSeen (gg : Bool) : List Seen → List Seen → Prop
 | nil : SimSeen gg [] []
 | cons {i : Nat} {look look' : Hp → aI} {v : DV} {l l' : List Seen} (S : SimP gg look look') (T : SimSeen gg l l') : SimSeen gg (⟨i, look, v⟩ :: l) (⟨i, look', v⟩ :: l')
theorem SimSeen.all {m : Array Nat} {i : Nat} {h h' : Hp} (S : Sim gg h h') : ∀ {l l' : List Seen}, SimSeen gg l l' →
  l.all (fun q => gC m q.at_ i || bG (q.look h) q.v) = true → l'.all (fun q => gC m q.at_ i || bG (q.look h') q.v) = true
 | _, _, .nil, e => e
 | _, _, .cons (i := i0) (v := v) S1 T, e => by
  rw [List.all_cons, Bool.and_eq_true] at e ⊢
  refine ⟨?_, SimSeen.all S T e.2⟩
  have h1 := e.1
  rw [Bool.or_eq_true] at h1 ⊢
  exact h1.imp id fun hs => SimR.same (S1 _ _ S) hs
theorem lT (HC : ∀ g args, SimP gg (bP ⟨P, I2⟩ rec2 g args) (bP ⟨P, I1⟩ rec1 g args)) (nt : Nat) (all : Array Oper) (m : Array Nat) (p0 : Pos) {k k' : K} (hk : SimK gg k k') :
  ∀ (l : List Oper) (i c : Nat) (dirty : Bool) {rd rd' : List Seen} {hs hs' : List (Option Nat × Hp)}, SimSeen gg rd rd' → SimHs gg hs hs' →
   SimK gg (eH ⟨P, I2⟩ rec2 nt all m p0 l k i c dirty rd hs) (eH ⟨P, I1⟩ rec1 nt all m p0 l k' i c dirty rd' hs')
 | [], i, c, dirty, rd, rd', hs, hs', R, T => hk
 | o :: l, i, c, dirty, rd, rd', hs, hs', R, T => fun env h h' S => by
  change SimR gg (cnd (cY nt o.dst) (
   match bT P o.op with
   | .pure => bnd (bJ ⟨P, I2⟩ rec2 all o env h) fun v h' => eH ⟨P, I2⟩ rec2 nt all m p0 l k (i + 1) c dirty rd hs (bO env o.dst v) h'
   | .reads => bnd (bJ ⟨P, I2⟩ rec2 all o env h) fun v h' =>
     cnd (eK m i v (bJ ⟨P, I2⟩ rec2 all o env) dirty hs) (eH ⟨P, I2⟩ rec2 nt all m p0 l k (i + 1) c dirty (⟨i, bJ ⟨P, I2⟩ rec2 all o env, v⟩ :: rd) hs (bO env o.dst v) h')
   | .makes => bnd (dT ⟨P, I2⟩ o (bW c p0) env h) fun v h' => eH ⟨P, I2⟩ rec2 nt all m p0 l k (i + 1) (c + 1) true rd hs (bO env o.dst v) h'
   | .acts => bnd (bJ ⟨P, I2⟩ rec2 all o env h) fun v h' =>
     cnd (rd.all (fun q => gC m q.at_ i || bG (q.look h') q.v)) (eH ⟨P, I2⟩ rec2 nt all m p0 l k (i + 1) c false rd ((some i, h') :: hs) (bO env o.dst v) h')))
   (cnd (cY nt o.dst) (
   match bT P o.op with
   | .pure => bnd (bJ ⟨P, I1⟩ rec1 all o env h') fun v h' => eH ⟨P, I1⟩ rec1 nt all m p0 l k' (i + 1) c dirty rd' hs' (bO env o.dst v) h'
   | .reads => bnd (bJ ⟨P, I1⟩ rec1 all o env h') fun v h' =>
     cnd (eK m i v (bJ ⟨P, I1⟩ rec1 all o env) dirty hs') (eH ⟨P, I1⟩ rec1 nt all m p0 l k' (i + 1) c dirty (⟨i, bJ ⟨P, I1⟩ rec1 all o env, v⟩ :: rd') hs' (bO env o.dst v) h')
   | .makes => bnd (dT ⟨P, I1⟩ o (bW c p0) env h') fun v h' => eH ⟨P, I1⟩ rec1 nt all m p0 l k' (i + 1) (c + 1) true rd' hs' (bO env o.dst v) h'
   | .acts => bnd (bJ ⟨P, I1⟩ rec1 all o env h') fun v h' =>
     cnd (rd'.all (fun q => gC m q.at_ i || bG (q.look h') q.v)) (eH ⟨P, I1⟩ rec1 nt all m p0 l k' (i + 1) c false rd' ((some i, h') :: hs') (bO env o.dst v) h')))
  refine dQk id ?_
  cases bT P o.op with
  | pure => exact dPv (kK HC all o env h h' S) fun v => lT HC nt all m p0 hk l _ _ _ R T _
  | reads =>
   exact dPv (kK HC all o env h h' S) fun v h1 h1' S1 => dQk (rN m i v (kK HC all o env) dirty T)
    (lT HC nt all m p0 hk l _ _ _ (.cons (kK HC all o env) R) T _ _ _ S1)
  | makes => exact dPv (dAv o _ env h h' S) fun v => lT HC nt all m p0 hk l _ _ _ R T _
  | acts =>
   exact dPv (kK HC all o env h h' S) fun v h1 h1' S1 => dQk (SimSeen.all S1 R)
    (lT HC nt all m p0 hk l _ _ _ R (.cons S1 T) _ _ _ S1)
theorem Sim.resv {gg : Bool} {h h' : Hp} (S : Sim gg h h') (k : Nat) : Sim gg (resv k h) (resv k h') := by
 cases k with
 | zero => exact S
 | succ k => exact ⟨by show bW (k + 1) h'.next = bW (k + 1) h.next; rw [S.next], S.get⟩
theorem bWk (HC : ∀ g args, SimP gg (bP ⟨P, I2⟩ rec2 g args) (bP ⟨P, I1⟩ rec1 g args)) (nt : Nat) (ops : Array Oper) {k k' : K} (hk : SimK gg k k') :
  SimK gg (iI ⟨P, I2⟩ rec2 nt ops k) (iI ⟨P, I1⟩ rec1 nt ops k') := fun env h h' S => by
 unfold iI
 rw [S.next]
 exact lT HC nt ops _ _ hk _ _ _ _ .nil (.cons (S.resv _) .nil) env _ _ (S.resv _)
theorem aJi {c : DV} {a b a' b' : aI} (ha : SimR gg a a') (hb : SimR gg b b') : SimR gg (aS c a b) (aS c a' b') := by
 unfold aS
 cases c <;> try exact SimR.none _
 rename_i x
 cases x
 ·exact hb
 ·exact ha
theorem oX {b b' : K → K} (hb : ∀ k k', SimK gg k k' → SimK gg (b k) (b' k')) : ∀ (n d : Nat), SimK gg (aN b n) (aN b' (n + d))
 | 0, d => fun env h h' S v k e => by cases e
 | n + 1, d => by
  rw [show n + 1 + d = (n + d) + 1 from by omega]
  exact hb _ _ (oX hb n d)
theorem fW (HC : ∀ g args, SimP gg (bP ⟨P, I2⟩ rec2 g args) (bP ⟨P, I1⟩ rec1 g args)) (nt n d : Nat) : ∀ (c : Code) (X X' : Nat → K) (kr kr' k k' : K), (∀ j, SimK gg (X j) (X' j)) → SimK gg kr kr' → SimK gg k k' →
  SimK gg (aM ⟨P, I2⟩ rec2 nt n c X kr k) (aM ⟨P, I1⟩ rec1 nt (n + d) c X' kr' k') := by
 intro c
 have hfail : ∀ k', SimK gg dL k' := fun k' env h h' S v k e => by cases e
 induction c with
 | skip => intro X X' kr kr' k k' hX hr hk; exact hk
 | region id ops dr =>
  intro X X' kr kr' k k' hX hr hk
  change SimK gg (Bool.rec (motive := fun _ => K) (iW ⟨P, I2⟩ rec2 nt ops ops.toList k) (Bool.rec (motive := fun _ => K) dL (iI ⟨P, I2⟩ rec2 nt ops k) (fC P ops)) dr)
   (Bool.rec (motive := fun _ => K) (iW ⟨P, I1⟩ rec1 nt ops ops.toList k') (Bool.rec (motive := fun _ => K) dL (iI ⟨P, I1⟩ rec1 nt ops k') (fC P ops)) dr)
  cases dr with
  | false => exact oP HC nt ops hk _
  | true =>
   cases fC P ops with
   | false => exact hfail _
   | true => exact bWk HC nt ops hk
 | seq x y ihx ihy => intro X X' kr kr' k k' hX hr hk; exact ihx _ _ _ _ _ _ hX hr (ihy _ _ _ _ _ _ hX hr hk)
 | cond c x y ihx ihy =>
  intro X X' kr kr' k k' hX hr hk env h h' S
  exact aJi (ihx _ _ _ _ _ _ hX hr hk env h h' S) (ihy _ _ _ _ _ _ hX hr hk env h h' S)
 | block id x ih =>
  intro X X' kr kr' k k' hX hr hk
  refine ih _ _ _ _ _ _ (fun j => ?_) hr hk
  cases hj : Nat.beq j id with
  | true => exact hk
  | false => exact hX j
 | loop x ih =>
  intro X X' kr kr' k k' hX hr hk
  exact oX (fun k k' hk => ih _ _ _ _ _ _ hX hr hk) n d
 | rangeFunc f ps x y ihx ihy => intro X X' kr kr' k k' hX hr hk; exact hfail _
 | exit id => intro X X' kr kr' k k' hX hr hk; exact hX id
 | scope x ih => intro X X' kr kr' k k' hX hr hk; exact ih _ _ _ _ _ _ hX hr hk
 | label l => intro X X' kr kr' k k' hX hr hk; exact hk
 | goto l => intro X X' kr kr' k k' hX hr hk; exact hfail _
 | ret => intro X X' kr kr' k k' hX hr hk; exact hr
 | refuse why => intro X X' kr kr' k k' hX hr hk; exact hfail _
theorem bBx {h h' : Hp} (S : Sim gg h h') (t : TypeId) (x : DV) {k k' : DV → aI} (hk : ∀ v, SimR gg (k v) (k' v)) : SimR gg (aAn ⟨P, I2⟩ t x h k) (aAn ⟨P, I1⟩ t x h' k') := by
 unfold aAn
 dsimp only
 cases P.underlying t with
 | none => exact SimR.none _
 | some d =>
  cases P.info? t with
  | none => exact SimR.none _
  | some i =>
   dsimp only
   refine dPv ?_ fun v _ _ _ => hk v
   cases iT d with
   | true => exact kN _ _ h h' S
   | false => exact kG _ h h' S
theorem pX {h h' : Hp} (S : Sim gg h h') (env : aZ) : ∀ (l : List ResultVar) (k k' : List DV → aI), (∀ vs, SimR gg (k vs) (k' vs)) → SimR gg (aWw ⟨P, I2⟩ env h l k) (aWw ⟨P, I1⟩ env h' l k')
 | [], k, k', hk => hk []
 | .tmp t :: l, k, k', hk => pX S env l _ _ fun vs => hk _
 | .cell a t :: l, k, k', hk => bBx S t (env a) fun v => pX S env l _ _ fun vs => hk _
theorem oQ (fn : Func) : SimK gg (aU ⟨P, I2⟩ fn) (aU ⟨P, I1⟩ fn) := fun env h h' S => by
 unfold aU
 refine pX S env _ _ _ fun vs => ?_
 unfold bPz
 match vs with
 | [v] => exact SimR.some S _
 | [] => exact SimR.some S _
 | _ :: _ :: _ => exact SimR.some S _
theorem mH (HC : ∀ g args, SimP gg (bP ⟨P, I2⟩ rec2 g args) (bP ⟨P, I1⟩ rec1 g args)) (n d : Nat) (f : FuncId) (args : List DV) :
  SimP gg (aF ⟨P, I2⟩ rec2 n f args) (aF ⟨P, I1⟩ rec1 (n + d) f args) := by
 intro h h' S
 unfold aF
 dsimp only
 cases P.funcs[f]? with
 | none => exact SimR.none _
 | some fn =>
  dsimp only
  cases fn.body with
  | none => exact SimR.none _
  | some c => exact fW HC fn.ntmps n d c _ _ _ _ _ _ (fun _ _ _ _ _ _ _ e => by cases e) (oQ fn) (oQ fn) _ h h' S
end
theorem bWe {gg : Bool} {P : Program} {I2 I1 : FuncId → Option (List DV → Hp → aI)} (d : Nat) (h0 : ∀ g, I2 g = none → I1 g = none)
  (hI : ∀ g F, I2 g = some F → ∀ n args, SimP gg (F args) (bP ⟨P, I1⟩ (fnD ⟨P, I1⟩ (n + d)) g args)) : ∀ (n : Nat) (f : FuncId) (args : List DV), SimP gg (fnD ⟨P, I2⟩ n f args) (fnD ⟨P, I1⟩ (n + d) f args)
 | 0, f, args => fun h h' S v k e => by cases e
 | n + 1, f, args => by
  rw [show n + 1 + d = (n + d) + 1 from by omega]
  refine mH (fun g az => ?_) n d f args
  unfold bP
  dsimp only
  cases hg : I2 g with
  | none =>
   rw [h0 g hg]
   exact bWe d h0 hI n g az
  | some F =>
   have := hI g F hg n az
   unfold bP at this
   exact this
end Go.Dd

namespace Go.Dd
section
variable {gg : Bool} {P : Program} {I2 I1 : FuncId → Option (List DV → Hp → aI)} {rec2 rec1 : FuncId → List DV → Hp → aI}
theorem mU {c : Bool} {q q' : aI} (h : SimR gg q q') : SimR gg (cnd c q) (cnd c q') := by
 cases c with
 | false => exact SimR.none _
 | true => exact h
theorem dPt (k' : K) : SimK gg dL k' := fun env h h' S v k e => by cases e
theorem uU (HC : ∀ g args, SimP gg (bP ⟨P, I2⟩ rec2 g args) (bP ⟨P, I1⟩ rec1 g args)) (n d : Nat) (I : ItC) (b : Bool) {kr kr' k k' : K} (hr : SimK gg kr kr') (hk : SimK gg k k') (e1 : aZ) :
  SimP gg (aMk ⟨P, I2⟩ rec2 n I b kr k e1) (aMk ⟨P, I1⟩ rec1 (n + d) I b kr' k' e1) := fun h h' S =>
 mU (oP HC I.nt I.ops (fW HC I.nt n d I.after _ _ _ _ _ _ (fun _ => dPt _) hr hk) _ _ h h' S)
theorem bFk (HC : ∀ g args, SimP gg (bP ⟨P, I2⟩ rec2 g args) (bP ⟨P, I1⟩ rec1 g args)) (n d : Nat) (I : ItC) (nt : Nat) (p : Tmp) (x y : Code) (env : aZ) {X X' : Nat → K} {kr kr' kk kk' : K} (hX : ∀ j, SimK gg (X j) (X' j)) (hr : SimK gg kr kr') (hk : SimK gg kk kk') :
  SimK gg (aOu ⟨P, I2⟩ rec2 n I nt p x y env X kr kk) (aOu ⟨P, I1⟩ rec1 (n + d) I nt p x y env X' kr' kk') := fun e1 h h' S =>
 mU (fW HC nt n d x _ _ _ _ _ _ (fun _ => dPt _) (dPt _)
  (fW HC nt n d y _ _ _ _ _ _ (fun i _ => uU HC n d I false (fun _ => hX i env) (dPt _) e1) (fun _ => uU HC n d I false (fun _ => hr env) (dPt _) e1)
   (fun _ => uU HC n d I true (dPt _) (fW HC I.nt n d I.post _ _ _ _ _ _ (fun _ => dPt _) (dPt _) (fW HC I.nt n d I.step _ _ _ _ _ _ (fun _ => dPt _) (dPt _) hk)) e1)) _ h h' S)
theorem aQv (HC : ∀ g args, SimP gg (bP ⟨P, I2⟩ rec2 g args) (bP ⟨P, I1⟩ rec1 g args)) (n d : Nat) (I : ItC) (nt : Nat) (g : Operand) (p : Tmp) (x y : Code) {X X' : Nat → K} {kr kr' k k' : K} (hX : ∀ j, SimK gg (X j) (X' j)) (hr : SimK gg kr kr') (hk : SimK gg k k') :
  SimK gg (aEm ⟨P, I2⟩ rec2 n I nt g p x y X kr k) (aEm ⟨P, I1⟩ rec1 (n + d) I nt g p x y X' kr' k') := by
 intro env h h' S
 unfold aEm
 cases opr env g with
 | f gf first cap =>
  cases first with
  | cons _ _ => exact SimR.none _
  | nil =>
   refine mU ?_
   rw [S.next]
   refine fW HC I.nt n d I.pre _ _ _ _ _ _ (fun _ => dPt _) (dPt _) (oX (fun kk kk' hkk => ?_) n d) _ _ _ (S.resv 2)
   refine fW HC I.nt n d I.test _ _ _ _ _ _ (fun j => ?_) (dPt _) (oP HC I.nt I.ops ?_ I.front)
   ·cases Nat.beq j I.b0 with
    | true => exact fun _ => hk env
    | false => exact dPt _
   ·intro e1 h1 h1' S1
    exact mU (c := ylB (e1 I.yt) h.next) (bFk HC n d I nt p x y env hX hr hkk e1 h1 h1' S1)
 | _ => exact SimR.none _
theorem bDm (HC : ∀ g args, SimP gg (bP ⟨P, I2⟩ rec2 g args) (bP ⟨P, I1⟩ rec1 g args)) (nt n d : Nat) (I : ItC) : ∀ (c : Code) (X X' : Nat → K) (kr kr' k k' : K), (∀ j, SimK gg (X j) (X' j)) → SimK gg kr kr' → SimK gg k k' →
  SimK gg (bKu ⟨P, I2⟩ rec2 nt n I c X kr k) (bKu ⟨P, I1⟩ rec1 nt (n + d) I c X' kr' k') := by
 intro c
 induction c with
 | skip => intro X X' kr kr' k k' hX hr hk; exact hk
 | region id ops dr => intro X X' kr kr' k k' hX hr hk; exact fW HC nt n d (.region id ops dr) _ _ _ _ _ _ hX hr hk
 | seq x y ihx ihy => intro X X' kr kr' k k' hX hr hk; exact ihx _ _ _ _ _ _ hX hr (ihy _ _ _ _ _ _ hX hr hk)
 | cond c x y ihx ihy =>
  intro X X' kr kr' k k' hX hr hk env h h' S
  exact aJi (ihx _ _ _ _ _ _ hX hr hk env h h' S) (ihy _ _ _ _ _ _ hX hr hk env h h' S)
 | block id x ih =>
  intro X X' kr kr' k k' hX hr hk
  refine ih _ _ _ _ _ _ (fun j => ?_) hr hk
  cases hj : Nat.beq j id with
  | true => exact hk
  | false => exact hX j
 | loop x ih =>
  intro X X' kr kr' k k' hX hr hk
  exact oX (fun k k' hk => ih _ _ _ _ _ _ hX hr hk) n d
 | rangeFunc g ps x y ihx ihy =>
  intro X X' kr kr' k k' hX hr hk
  obtain ⟨l⟩ := ps
  match l with
  | [p] => exact aQv HC n d I nt g p x y hX hr hk
  | [] => exact dPt _
  | _ :: _ :: _ => exact dPt _
 | exit id => intro X X' kr kr' k k' hX hr hk; exact hX id
 | ret => intro X X' kr kr' k k' hX hr hk; exact hr
 | _ => intros; exact dPt _
theorem bDu (HC : ∀ g args, SimP gg (bP ⟨P, I2⟩ rec2 g args) (bP ⟨P, I1⟩ rec1 g args)) (n d : Nat) (I : ItC) (f : FuncId) (args : List DV) :
  SimP gg (mF ⟨P, I2⟩ rec2 n I f args) (mF ⟨P, I1⟩ rec1 (n + d) I f args) := by
 intro h h' S
 unfold mF
 dsimp only
 cases P.funcs[f]? with
 | none => exact SimR.none _
 | some fn =>
  dsimp only
  cases fn.body with
  | none => exact SimR.none _
  | some c => exact bDm HC fn.ntmps n d I c _ _ _ _ _ _ (fun _ => dPt _) (oQ fn) (oQ fn) _ h h' S
end
end Go.Dd

namespace Go.Dd
noncomputable def fnR (C : Cfg) (I : ItC) (q : FuncId → Bool) (n : Nat) : FuncId → List DV → Hp → aI :=
 Nat.rec (motive := fun _ => FuncId → List DV → Hp → aI) (fun _ _ _ => none) (fun m ih f => bif q f then mF C ih m I f else aF C ih m f) n
theorem aEt {gg : Bool} {P : Program} {I2 I1 : FuncId → Option (List DV → Hp → aI)} {I : ItC} {q : FuncId → Bool} (d : Nat) (h0 : ∀ g, I2 g = none → I1 g = none)
  (hI : ∀ g F, I2 g = some F → ∀ n args, SimP gg (F args) (bP ⟨P, I1⟩ (fnR ⟨P, I1⟩ I q (n + d)) g args)) : ∀ (n : Nat) (f : FuncId) (args : List DV), SimP gg (fnR ⟨P, I2⟩ I q n f args) (fnR ⟨P, I1⟩ I q (n + d) f args)
 | 0, f, args => fun h h' S v k e => by cases e
 | n + 1, f, args => by
  rw [show n + 1 + d = (n + d) + 1 from by omega]
  have HC : ∀ g az, SimP gg (bP ⟨P, I2⟩ (fnR ⟨P, I2⟩ I q n) g az) (bP ⟨P, I1⟩ (fnR ⟨P, I1⟩ I q (n + d)) g az) := fun g az => by
   unfold bP
   dsimp only
   cases hg : I2 g with
   | none =>
    rw [h0 g hg]
    exact aEt d h0 hI n g az
   | some F =>
    have := hI g F hg n az
    unfold bP at this
    exact this
  show SimP gg ((bif q f then mF ⟨P, I2⟩ (fnR ⟨P, I2⟩ I q n) n I f else aF ⟨P, I2⟩ (fnR ⟨P, I2⟩ I q n) n f) args) ((bif q f then mF ⟨P, I1⟩ (fnR ⟨P, I1⟩ I q (n + d)) (n + d) I f else aF ⟨P, I1⟩ (fnR ⟨P, I1⟩ I q (n + d)) (n + d) f) args)
  cases q f with
  | true => exact bDu HC n d I f args
  | false => exact mH HC n d f args
end Go.Dd

namespace Go.Dd
noncomputable section
def iF (w : Int) : Nat :=
 match w with
 | .ofNat w => bif Nat.beq (Nat.mod w 2) 0 && (Nat.ble 6 w && Nat.ble w 262144) then Nat.div w 2 else 0
 | .negSucc _ => 0
def cT (w : Int) : Bool :=
 match w with
 | .ofNat w => Nat.beq (Nat.mod w 2) 1 && Nat.blt w 2147483648
 | .negSucc w => Nat.beq (Nat.mod w 2) 0 && Nat.blt w 2147483648
def pC (w : Int) : Int :=
 match w with
 | .ofNat w => .ofNat (Nat.div w 2)
 | .negSucc w => .negSucc (Nat.div w 2)
structure MemV where
 wb : Pos
 n : Nat
 fin : Nat
 made : Nat
 pb : Pos
 t : WT
 pl : WT
def kW (m : Pos) (h : Hp) : Option MemV :=
 match h.bl.get m with
 | some (.row .ex [.l wb 0 n c, .i .i64 (.ofNat fin), .i .i64 (.ofNat made), .m pb]) =>
  match h.bl.get wb, h.bl.get pb with
  | some (.big n' t), some (.mi pl) => bif Nat.beq n n' && Nat.beq n c then (bif Nat.blt n 1000000 && (Nat.ble fin n && Nat.blt made 1000000) then some ⟨wb, n, fin, made, pb, t, pl⟩ else none) else none
  | _, _ => none
 | _ => none
def bX (o : Int) (pl : WT) : Nat :=
 bif Nat.beq (iF o) 0 then 0 else match pl.get (iF o) with
  | .ofNat 0 => 0
  | _ => iF o
def dS (w : Int) (pl : WT) : Bool :=
 match w with
 | .ofNat 0 => true
 | .ofNat 2 => true
 | .ofNat 4 => true
 | w => cT w || !(Nat.beq (bX w pl) 0)
def rB (w : Int) (pl : WT) : Bool :=
 match w with
 | .ofNat 0 => true
 | w => !(Nat.beq (bX w pl) 0)
def iV (args : List DV) (h : Hp) (k : MemV → List DV → aI) : aI :=
 match args with
 | .p m 0 :: rest => match kW m h with
  | some M => k M rest
  | none => none
 | _ => none
def err (e : Nat) (h : Hp) : aI := some (.t [.i .i64 (.ofNat 0), .i .i64 (.ofNat e)], h)
def isF (args : List DV) (h : Hp) : aI := iV args h fun M r => match r with
 | [.i .i64 w] => some (.b (!(Nat.beq (bX w M.pl) 0)), h)
 | _ => none
def aDc (args : List DV) (h : Hp) : aI := iV args h fun M r => match r with
 | [.i .i64 w] => some (.b (dS w M.pl), h)
 | _ => none
def zZ (args : List DV) (h : Hp) : aI := iV args h fun M r => match r with
 | [] => some (.i .i64 (.ofNat M.n), h)
 | _ => none
def aYo (args : List DV) (h : Hp) : aI := iV args h fun M r => match r with
 | [] => some (.i .i64 (.ofNat (Nat.sub M.n M.fin)), h)
 | _ => none
def gZ (M : MemV) (o : Int) (k : Nat → aI) : aI :=
 bif Nat.blt (Nat.add (bX o M.pl) 1) M.n then (match M.t.get (bX o M.pl) with
  | .ofNat hd => bif Nat.blt hd 1000000000000 then k hd else none
  | .negSucc _ => none) else none
def iO (args : List DV) (h : Hp) : aI := iV args h fun M r => match r with
 | [.i .i64 o] => gZ M o fun _ => some (.i .i64 (M.t.get (Nat.add (bX o M.pl) 1)), h)
 | _ => none
def jP (args : List DV) (h : Hp) : aI := iV args h fun M r => match r with
 | [.i .i64 o] => gZ M o fun hd => some (.i .i64 (.ofNat (Nat.mod hd 4)), h)
 | _ => none
def eJ (args : List DV) (h : Hp) : aI := iV args h fun M r => match r with
 | [.i .i64 o] => gZ M o fun hd => some (.i .i64 (.ofNat (Nat.div hd 4)), h)
 | _ => none
def gS (M : MemV) (o i : Int) (bad : Nat → aI) (k : Nat → Nat → aI) : aI :=
 bif Nat.beq (bX o M.pl) 0 then bad 1 else match i with
  | .negSucc _ => bad 5
  | .ofNat i => gZ M o fun hd => bif Nat.ble (Nat.div hd 4) i then bad 5 else
    (bif Nat.blt (Nat.add (Nat.add (bX o M.pl) 3) i) M.n then k hd (Nat.add (Nat.add (bX o M.pl) 3) i) else none)
def oZ (args : List DV) (h : Hp) : aI := iV args h fun M r => match r with
 | [.i .i64 o, .i .i64 i] => gS M o i (fun e => err e h) fun _ a => some (.t [.i .i64 (M.t.get a), .i .i64 (.ofNat 0)], h)
 | _ => none
def mD (M : MemV) (a : Nat) (w : Int) (h : Hp) : aI := some (.i .i64 (.ofNat 0), ⟨h.next, Tr.set (.big M.n (M.t.set a w)) M.wb h.bl⟩)
def zN (args : List DV) (h : Hp) : aI := iV args h fun M r => match r with
 | [.i .i64 o, .i .i64 i, .i .i64 w] => gS M o i (fun e => some (.i .i64 (.ofNat e), h)) fun hd a =>
   match Nat.mod hd 4 with
   | 0 => bif dS w M.pl then mD M a w h else some (.i .i64 (.ofNat 6), h)
   | 2 => (match w with
    | .ofNat c => bif Nat.ble c 255 then mD M a w h else some (.i .i64 (.ofNat 6), h)
    | .negSucc _ => some (.i .i64 (.ofNat 6), h))
   | _ => mD M a w h
 | _ => none
def kQ (args : List DV) (h : Hp) : aI := iV args h fun M r => match r with
 | [.i .i64 o, .i .i64 c] => bif Nat.beq (bX o M.pl) 0 || !(rB c M.pl) then some (.i .i64 (.ofNat 1), h) else
   (bif Nat.blt (Nat.add (bX o M.pl) 1) M.n then mD M (Nat.add (bX o M.pl) 1) c h else none)
 | _ => none
def kF (t : WT) (c : Nat) : Nat → WT :=
 Nat.rec (motive := fun _ => Nat → WT) (fun _ => t) (fun _ ih a => (ih (Nat.add a 1)).set a (.ofNat 0)) c
def iR (args : List DV) (h : Hp) : aI :=
 match args with
 | [.p m 0, .i .i64 cls, .i .i64 fmt, .i .i64 cnt] => match kW m h with
  | none => none
  | some M => bif !(rB cls M.pl) then err 1 h else match fmt, cnt with
   | .ofNat f, .ofNat c => bif Nat.ble f 2 && Nat.ble c 256 then
     (bif Nat.blt (Nat.sub M.n M.fin) (Nat.add c 3) then err 4 h else
      (bif Nat.ble 3 M.fin && Nat.ble M.fin 131072 then
       some (.t [.i .i64 (.ofNat (Nat.mul M.fin 2)), .i .i64 (.ofNat 0)],
        ⟨h.next, Tr.set (.row .ex [.l M.wb 0 M.n M.n, .i .i64 (.ofNat (Nat.add M.fin (Nat.add c 3))), .i .i64 (.ofNat (Nat.succ M.made)), .m M.pb]) m
         (Tr.set (.mi (M.pl.set M.fin (.ofNat 1))) M.pb
          (Tr.set (.big M.n (kF (((M.t.set M.fin (.ofNat (Nat.add (Nat.mul c 4) f))).set (Nat.add M.fin 1) cls).set (Nat.add M.fin 2) (.ofNat (Nat.succ M.made))) c (Nat.add M.fin 3))) M.wb h.bl))⟩)
       else none))
     else err 1 h
   | _, _ => err 1 h
 | _ => none
def aRy (args : List DV) (h : Hp) : aI :=
 match args with
 | [.i .i64 (.ofNat n)] => bif Nat.blt n 16 || Nat.blt 131072 n then some (.p0, h) else
   some (.p (bW 2 h.next) 0, ⟨bW 3 h.next, Tr.set (.row .ex [.l h.next 0 n n, .i .i64 (.ofNat 3), .i .i64 (.ofNat 0), .m (bW 1 h.next)]) (bW 2 h.next)
    (Tr.set (.mi .e) (bW 1 h.next) (Tr.set (.big n .e) h.next h.bl))⟩)
 | [.i .i64 (.negSucc _)] => some (.p0, h)
 | _ => none
def eM (args : List DV) (h : Hp) : aI :=
 match args with
 | [.i .i64 w] => some (.b (cT w), h)
 | _ => none
def jF (args : List DV) (h : Hp) : aI :=
 match args with
 | [.i .i64 w] => bif cT w then some (.i .i64 (pC w), h) else some (.i .i64 (.ofNat 0), h)
 | _ => none
def gO (args : List DV) (h : Hp) : aI :=
 match args with
 | [.i .i64 (.ofNat n)] => bif Nat.blt n 1073741824 then some (.t [.i .i64 (.ofNat (Nat.succ (Nat.mul n 2))), .b true], h) else some (.t [.i .i64 (.ofNat 0), .b false], h)
 | [.i .i64 (.negSucc n)] => bif Nat.blt n 1073741824 then some (.t [.i .i64 (.negSucc (Nat.mul n 2)), .b true], h) else some (.t [.i .i64 (.ofNat 0), .b false], h)
 | _ => none
def zR (g : Nat) : Option (List DV → Hp → aI) :=
 bif Nat.beq g 24 then some aDc else bif Nat.beq g 31 then some isF else bif Nat.beq g 102 then some zZ else bif Nat.beq g 86 then some aYo else
 bif Nat.beq g 47 then some iR else bif Nat.beq g 68 then some aRy else bif Nat.beq g 70 then some kQ else bif Nat.beq g 72 then some zN else
 bif Nat.beq g 50 then some iO else bif Nat.beq g 38 then some jP else bif Nat.beq g 27 then some eJ else bif Nat.beq g 48 then some eM else
 bif Nat.beq g 81 then some gO else bif Nat.beq g 49 then some jF else bif Nat.beq g 28 then some oZ else none
end
end Go.Dd

namespace Go.Dd
open Go.Proofs
def cf (f : Func) : Code := match f.body with
 | some c => c
 | none => .skip
def cL : Code → Code
 | .seq a _ => a
 | .cond _ a _ => a
 | .block _ a => a
 | .loop a => a
 | .scope a => a
 | c => c
def cR : Code → Code
 | .seq _ b => b
 | .cond _ _ b => b
 | c => c
def cC : Code → Operand
 | .cond c _ _ => c
 | _ => .const .nilFunc
def x0 : Nat → K := fun _ => dL
def xs (X : Nat → K) (i : Nat) (k : K) : Nat → K := fun j => bif Nat.beq j i then k else X j
def aMe (c : Nat) : List Nat → Nat → Int
 | [], _ => .negSucc 0
 | x :: l, i => bif Nat.beq x c then .ofNat i else aMe c l (i + 1)
def lN (args : List DV) (h : Hp) : aI :=
 match args with
 | [.s l, .i .u8 (.ofNat c)] => bif Nat.blt c 256 then some (.i .i64 (aMe c l 0), h) else none
 | _ => none
noncomputable def CF0 : Cfg := ⟨Tryz.prog, fun _ => none⟩
noncomputable def lL (p : Pos) : Pos → Bool := Pos.rec (motive := fun _ => Pos → Bool) (fun q => Pos.rec (motive := fun _ => Bool) true (fun _ _ => false) (fun _ _ => false) q)
 (fun _ ih q => Pos.rec (motive := fun _ => Bool) false (fun q _ => ih q) (fun _ _ => false) q) (fun _ ih q => Pos.rec (motive := fun _ => Bool) false (fun _ _ => false) (fun q _ => ih q) q) p
noncomputable def jH (q : Pos) (l1 : DV) (cs : List DV) (h : Hp) : aI :=
 match l1 with
 | .l0 => some (.l h.next 0 1 1, ⟨h.next.succ, Tr.set (.row (.gr 4) cs) h.next h.bl⟩)
 | .l b o len cap => cnd (Nat.ble cap len && !(lL b q)) (match h.bl.get b, cellsAt b o (len * 4) h with
  | some (.row (.gr es) l), some old => if es = 4 ∧ o + cap * 4 = l.length ∧ (len + 1) * 56 ≤ lU then
    some (.l h.next 0 (len + 1) (len + 1), ⟨h.next.succ, Tr.set (.row (.gr 4) (old ++ cs)) h.next (Tr.set (.row .sp (bS o l)) b h.bl)⟩) else none
  | _, _ => none)
 | _ => none
noncomputable def rH (c q : Pos) (h : Hp) : aI :=
 bnd (aA (.p c 4) h) fun l1 _ =>
 bnd (bZ l1 h) fun n _ =>
 bnd (aK 4 (.p q 0) h) fun x _ =>
 match x with
 | .a cs => cnd (!(lL c q)) (
  bnd (jH q l1 cs ⟨h.next.succ.succ, h.bl⟩) fun l2 h3 =>
  bnd (aG 1 (.p c 4) l2 h3) fun _ h4 => some (n, h4))
 | _ => none
noncomputable def lK (args : List DV) (h : Hp) : aI :=
 match args with
 | [.p c 0, .a lit] =>
  bnd (bL lit h) fun _ h1 =>
  bnd (aA (.p c 4) h1) fun ls h2 =>
  bnd (fnD CF0 60 187 [ls, .f 188 [] [.p h.next 0]] h2) fun i h3 =>
  bnd (aD .lss i (.i .i64 (Int.ofNat 0)) h3) fun t h4 =>
  aS t (rH c h.next h4) (some (i, h4))
 | _ => none
noncomputable def CF1 : Cfg := ⟨Tryz.prog, fun g => bif Nat.beq g 176 then some lN else bif Nat.beq g 159 then some lK else none⟩
noncomputable def CF : Cfg := ⟨Tryz.prog, fun g => bif Nat.beq g 176 then some lN else bif Nat.beq g 159 then some lK else zR g⟩
def fU : Code → Array Oper
 | .region _ ops _ => ops
 | _ => #[]
def itm : ItC := { gf := 0, nt := 0, pre := .skip, b0 := 0, test := .skip, b1 := 1, rid := 0, front := [], y := ⟨none, .move (.const .nilFunc), 0, "", #[], none⟩, back := [], after := .skip, post := .skip, step := .skip, yd := 0, yt := 0, yx := 0 }
def rgB (g : FuncId) : Bool := false
noncomputable abbrev fS (C : Cfg) (n : Nat) : FuncId → List DV → Hp → aI := fnR C itm rgB n
theorem cE (f : FuncId) (hf : rgB f = false) (C : Cfg) (n : Nat) (args : List DV) (h : Hp) : fS C (n + 1) f args h = aF C (fS C n) n f args h := by
 show (bif rgB f then mF C (fS C n) n itm f else aF C (fS C n) n f) args h = _
 rw [hf]
 rfl
abbrev RT := FuncId → List DV → Hp → aI
abbrev TT0 := Hp → aI
abbrev TT1 := DV → Hp → aI
abbrev oK := DV → DV → Hp → aI
abbrev mN := DV → DV → DV → Hp → aI
abbrev dJ := DV → DV → DV → DV → Hp → aI
abbrev cG := DV → DV → DV → DV → DV → Hp → aI
abbrev fF := DV → DV → DV → DV → DV → DV → Hp → aI
abbrev TT7 := DV → DV → DV → DV → DV → DV → DV → Hp → aI
abbrev TT8 := DV → DV → DV → DV → DV → DV → DV → DV → Hp → aI
abbrev TT9 := DV → DV → DV → DV → DV → DV → DV → DV → DV → Hp → aI
abbrev aRw := DV → DV → DV → DV → DV → DV → DV → DV → DV → DV → Hp → aI
abbrev dEz := DV → DV → DV → DV → DV → DV → DV → DV → DV → DV → DV → Hp → aI
abbrev dMr := DV → DV → DV → DV → DV → DV → DV → DV → DV → DV → DV → DV → Hp → aI
abbrev dNg := DV → DV → DV → DV → DV → DV → DV → DV → DV → DV → DV → DV → DV → Hp → aI
abbrev dOj := DV → DV → DV → DV → DV → DV → DV → DV → DV → DV → DV → DV → DV → DV → Hp → aI
abbrev dNv := DV → DV → DV → DV → DV → DV → DV → DV → DV → DV → DV → DV → DV → DV → DV → Hp → aI
abbrev dMy := DV → DV → DV → DV → DV → DV → DV → DV → DV → DV → DV → DV → DV → DV → DV → DV → Hp → aI
abbrev dLk := DV → DV → DV → DV → DV → DV → DV → DV → DV → DV → DV → DV → DV → DV → DV → DV → DV → Hp → aI
abbrev dKz := DV → DV → DV → DV → DV → DV → DV → DV → DV → DV → DV → DV → DV → DV → DV → DV → DV → DV → Hp → aI
abbrev dNm := DV → DV → DV → DV → DV → DV → DV → DV → DV → DV → DV → DV → DV → DV → DV → DV → DV → DV → DV → Hp → aI
abbrev dMq := DV → DV → DV → DV → DV → DV → DV → DV → DV → DV → DV → DV → DV → DV → DV → DV → DV → DV → DV → DV → Hp → aI
abbrev K0 (f : TT0) : K := fun env h => f h
abbrev K1 (f : TT1) (a0 : Nat) : K := fun env h => f (env a0) h
abbrev K2 (f : oK) (a0 a1 : Nat) : K := fun env h => f (env a0) (env a1) h
abbrev K3 (f : mN) (a0 a1 a2 : Nat) : K := fun env h => f (env a0) (env a1) (env a2) h
abbrev K4 (f : dJ) (a0 a1 a2 a3 : Nat) : K := fun env h => f (env a0) (env a1) (env a2) (env a3) h
abbrev K5 (f : cG) (a0 a1 a2 a3 a4 : Nat) : K := fun env h => f (env a0) (env a1) (env a2) (env a3) (env a4) h
abbrev K6 (f : fF) (a0 a1 a2 a3 a4 a5 : Nat) : K := fun env h => f (env a0) (env a1) (env a2) (env a3) (env a4) (env a5) h
abbrev K7 (f : TT7) (a0 a1 a2 a3 a4 a5 a6 : Nat) : K := fun env h => f (env a0) (env a1) (env a2) (env a3) (env a4) (env a5) (env a6) h
abbrev K8 (f : TT8) (a0 a1 a2 a3 a4 a5 a6 a7 : Nat) : K := fun env h => f (env a0) (env a1) (env a2) (env a3) (env a4) (env a5) (env a6) (env a7) h
abbrev K9 (f : TT9) (a0 a1 a2 a3 a4 a5 a6 a7 a8 : Nat) : K := fun env h => f (env a0) (env a1) (env a2) (env a3) (env a4) (env a5) (env a6) (env a7) (env a8) h
abbrev K10 (f : aRw) (a0 a1 a2 a3 a4 a5 a6 a7 a8 a9 : Nat) : K := fun env h => f (env a0) (env a1) (env a2) (env a3) (env a4) (env a5) (env a6) (env a7) (env a8) (env a9) h
abbrev K11 (f : dEz) (a0 a1 a2 a3 a4 a5 a6 a7 a8 a9 a10 : Nat) : K := fun env h => f (env a0) (env a1) (env a2) (env a3) (env a4) (env a5) (env a6) (env a7) (env a8) (env a9) (env a10) h
abbrev K12 (f : dMr) (a0 a1 a2 a3 a4 a5 a6 a7 a8 a9 a10 a11 : Nat) : K := fun env h => f (env a0) (env a1) (env a2) (env a3) (env a4) (env a5) (env a6) (env a7) (env a8) (env a9) (env a10) (env a11) h
abbrev K13 (f : dNg) (a0 a1 a2 a3 a4 a5 a6 a7 a8 a9 a10 a11 a12 : Nat) : K := fun env h => f (env a0) (env a1) (env a2) (env a3) (env a4) (env a5) (env a6) (env a7) (env a8) (env a9) (env a10) (env a11) (env a12) h
abbrev K14 (f : dOj) (a0 a1 a2 a3 a4 a5 a6 a7 a8 a9 a10 a11 a12 a13 : Nat) : K := fun env h => f (env a0) (env a1) (env a2) (env a3) (env a4) (env a5) (env a6) (env a7) (env a8) (env a9) (env a10) (env a11) (env a12) (env a13) h
abbrev K15 (f : dNv) (a0 a1 a2 a3 a4 a5 a6 a7 a8 a9 a10 a11 a12 a13 a14 : Nat) : K := fun env h => f (env a0) (env a1) (env a2) (env a3) (env a4) (env a5) (env a6) (env a7) (env a8) (env a9) (env a10) (env a11) (env a12) (env a13) (env a14) h
abbrev K16 (f : dMy) (a0 a1 a2 a3 a4 a5 a6 a7 a8 a9 a10 a11 a12 a13 a14 a15 : Nat) : K := fun env h => f (env a0) (env a1) (env a2) (env a3) (env a4) (env a5) (env a6) (env a7) (env a8) (env a9) (env a10) (env a11) (env a12) (env a13) (env a14) (env a15) h
abbrev K17 (f : dLk) (a0 a1 a2 a3 a4 a5 a6 a7 a8 a9 a10 a11 a12 a13 a14 a15 a16 : Nat) : K := fun env h => f (env a0) (env a1) (env a2) (env a3) (env a4) (env a5) (env a6) (env a7) (env a8) (env a9) (env a10) (env a11) (env a12) (env a13) (env a14) (env a15) (env a16) h
abbrev K18 (f : dKz) (a0 a1 a2 a3 a4 a5 a6 a7 a8 a9 a10 a11 a12 a13 a14 a15 a16 a17 : Nat) : K := fun env h => f (env a0) (env a1) (env a2) (env a3) (env a4) (env a5) (env a6) (env a7) (env a8) (env a9) (env a10) (env a11) (env a12) (env a13) (env a14) (env a15) (env a16) (env a17) h
abbrev K19 (f : dNm) (a0 a1 a2 a3 a4 a5 a6 a7 a8 a9 a10 a11 a12 a13 a14 a15 a16 a17 a18 : Nat) : K := fun env h => f (env a0) (env a1) (env a2) (env a3) (env a4) (env a5) (env a6) (env a7) (env a8) (env a9) (env a10) (env a11) (env a12) (env a13) (env a14) (env a15) (env a16) (env a17) (env a18) h
abbrev K20 (f : dMq) (a0 a1 a2 a3 a4 a5 a6 a7 a8 a9 a10 a11 a12 a13 a14 a15 a16 a17 a18 a19 : Nat) : K := fun env h => f (env a0) (env a1) (env a2) (env a3) (env a4) (env a5) (env a6) (env a7) (env a8) (env a9) (env a10) (env a11) (env a12) (env a13) (env a14) (env a15) (env a16) (env a17) (env a18) (env a19) h
theorem okG {d s : K} (m : d = s) (args : List DV) (h : Hp) {a b : aI} (e1 : a = d (aH args) h) (e2 : s (aH args) h = b) : a = b :=
 e1.trans ((congrFun (congrFun m (aH args)) h).trans e2)
abbrev aE (n : Nat) : DV := .i .i64 (Int.ofNat n)
abbrev jZ : List DV := [(.i .i64 (Int.ofNat 0)), (.s []), (.i .i64 (Int.ofNat 0)), .l0, .l0, .l0]
abbrev aR (args : List DV) (i : Nat) : DV := args.getD i aV
end Go.Dd

namespace Go.Dd
open Go.Proofs
variable (r : RT) (n : Nat) (args : List DV) (h : Hp)
noncomputable def s12 (r : RT) (n : Nat) (h0 : Hp) : aI :=
 bnd (r 40 [(aE 30000)] h0) fun v1 h1 =>
 bnd (aC 0 v1 h1) fun v2 h2 =>
 bnd (aC 1 v1 h2) fun v3 h3 =>
 bnd (pEq (.pointer 64) true v2 .p0 h3) fun v4 h4 =>
 bnd (gD v4 false (some (v3, h4)) h4) fun v5 h5 =>
 bnd (gD v4 false (aD .neq v5 (aE 0) h5) h5) fun v6 h6 =>
 bnd (aP v4 (.b true) v6 h6) fun v7 h7 =>
 aS v7 (
 some (.p0, h7)) (
 bnd (aL [(.s []), (.s [])] 2 [(0, 1, (.s [120])), (1, 1, (.s [121]))] h7) fun v8 h8 =>
 bnd (r 41 [v2, (.s [80, 111, 105, 110, 116]), (.s [79, 98, 106, 101, 99, 116]), v8] h8) fun v9 h9 =>
 bnd (aC 0 v9 h9) fun v10 h10 =>
 bnd (aC 1 v9 h10) fun v11 h11 =>
 bnd (aD .neq v11 (aE 0) h11) fun v12 h12 =>
 aS v12 (
 some (.p0, h12)) (
 some (v2, h12)))
noncomputable abbrev c12 : Code := cf Tryz.f12
noncomputable abbrev r12 : K := aU CF Tryz.f12
noncomputable def D12 (r : RT) (n : Nat) (c : Code) (X : Nat → K) (k : K) : K := aM CF r 24 n c X r12 k
theorem dNu : D12 r n c12 x0 r12 = (K0 (s12 r n)) :=
 (by kernel_rfl)
theorem cPi : aF CF r n 12 args h = s12 r n h :=
 (by kernel_rfl : aF CF r n 12 args h = D12 r n c12 x0 r12 (aH args) h).trans ((congrFun (congrFun (dNu r n) (aH args)) h).trans (by kernel_rfl))
noncomputable def s13 (r : RT) (n : Nat) (h0 : Hp) : aI :=
 bnd (r 12 [] h0) fun v1 h1 =>
 bnd (pEq (.pointer 64) true v1 .p0 h1) fun v2 h2 =>
 aS v2 (
 some ((.b false), h2)) (
 bnd (r 42 [v1, (aE 1073741823)] h2) fun v3 h3 =>
 bnd (aC 0 v3 h3) fun v4 h4 =>
 bnd (aC 1 v3 h4) fun v5 h5 =>
 bnd (aL [(aE 0)] 1 [(0, 1, (aE 3))] h5) fun v6 h6 =>
 bnd (r 16 [v1, (aE 1), v4, v6] h6) fun v7 h7 =>
 bnd (aC 0 v7 h7) fun v8 h8 =>
 bnd (aC 1 v7 h8) fun v9 h9 =>
 bnd (r 15 [v1, v8] h9) fun v10 h10 =>
 bnd (aC 0 v10 h10) fun v11 h11 =>
 bnd (aC 1 v10 h11) fun v12 h12 =>
 bnd (aL [(aE 0)] 1 [(0, 1, (aE 1))] h12) fun v13 h13 =>
 bnd (r 16 [v1, (aE 4), (aE 15), v13] h13) fun v14 h14 =>
 bnd (aC 0 v14 h14) fun v15 h15 =>
 bnd (aC 1 v14 h15) fun v16 h16 =>
 bnd (r 43 [v1, (.s [97, 98])] h16) fun v17 h17 =>
 bnd (aC 0 v17 h17) fun v18 h18 =>
 bnd (aC 1 v17 h18) fun v19 h19 =>
 bnd (aL [(aE 0)] 1 [(0, 1, (aE 5))] h19) fun v20 h20 =>
 bnd (r 16 [v1, (aE 20), v18, v20] h20) fun v21 h21 =>
 bnd (aC 0 v21 h21) fun v22 h22 =>
 bnd (aC 1 v21 h22) fun v23 h23 =>
 bnd (r 44 [v1, (.s [97, 98])] h23) fun v24 h24 =>
 bnd (aC 0 v24 h24) fun v25 h25 =>
 bnd (aC 1 v24 h25) fun v26 h26 =>
 bnd (aL [(aE 0), (aE 0)] 2 [(0, 1, (aE 3)), (1, 1, (aE 199))] h26) fun v27 h27 =>
 bnd (r 16 [v1, (aE 21), v25, v27] h27) fun v28 h28 =>
 bnd (aC 0 v28 h28) fun v29 h29 =>
 bnd (aC 1 v28 h29) fun v30 h30 =>
 bnd (aD .eql v9 (aE 0) h30) fun v31 h31 =>
 bnd (gD v31 true (some (v12, h31)) h31) fun v32 h32 =>
 bnd (aP v31 v32 (.b false) h32) fun v33 h33 =>
 bnd (gD v33 true (some (v11, h33)) h33) fun v34 h34 =>
 bnd (gD v33 true (aD .eql v34 (aE 1073741824) h34) h34) fun v35 h35 =>
 bnd (aP v33 v35 (.b false) h35) fun v36 h36 =>
 bnd (gD v36 true (some (v1, h36)) h36) fun v37 h37 =>
 bnd (gD v36 true (some (v8, h37)) h37) fun v38 h38 =>
 bnd (gD v36 true (r 25 [v37, v38] h38) h38) fun v39 h39 =>
 bnd (gD v36 true (some (v1, h39)) h39) fun v40 h40 =>
 bnd (gD v36 true (r 45 [v40, (.s [76, 97, 114, 103, 101, 73, 110, 116, 101, 103, 101, 114])] h40) h40) fun v41 h41 =>
 bnd (gD v36 true (aD .eql v39 v41 h41) h41) fun v42 h42 =>
 bnd (aP v36 v42 (.b false) h42) fun v43 h43 =>
 bnd (gD v43 true (some (v16, h43)) h43) fun v44 h44 =>
 bnd (gD v43 true (aD .eql v44 (aE 20) h44) h44) fun v45 h45 =>
 bnd (aP v43 v45 (.b false) h45) fun v46 h46 =>
 bnd (gD v46 true (some (v22, h46)) h46) fun v47 h47 =>
 bnd (gD v46 true (aD .eql v47 (aE 197) h47) h47) fun v48 h48 =>
 bnd (aP v46 v48 (.b false) h48) fun v49 h49 =>
 bnd (gD v49 true (some (v23, h49)) h49) fun v50 h50 =>
 bnd (gD v49 true (aD .eql v50 (aE 0) h50) h50) fun v51 h51 =>
 bnd (aP v49 v51 (.b false) h51) fun v52 h52 =>
 bnd (gD v52 true (some (v30, h52)) h52) fun v53 h53 =>
 bnd (gD v52 true (aD .eql v53 (aE 20) h53) h53) fun v54 h54 =>
 bnd (aP v52 v54 (.b false) h54) fun v55 h55 =>
 bnd (gD v55 true (r 39 [(aE 21)] h55) h55) fun v56 h56 =>
 bnd (gD v55 true (aD .eql v56 (aE 2) h56) h56) fun v57 h57 =>
 bnd (aP v55 v57 (.b false) h57) fun v58 h58 =>
 some (v58, h58))
noncomputable abbrev c13 : Code := cf Tryz.f13
noncomputable abbrev r13 : K := aU CF Tryz.f13
noncomputable def D13 (r : RT) (n : Nat) (c : Code) (X : Nat → K) (k : K) : K := aM CF r 106 n c X r13 k
theorem dLd : D13 r n c13 x0 r13 = (K0 (s13 r n)) :=
 (by kernel_rfl)
theorem cQl : aF CF r n 13 args h = s13 r n h :=
 (by kernel_rfl : aF CF r n 13 args h = D13 r n c13 x0 r13 (aH args) h).trans ((congrFun (congrFun (dLd r n) (aH args)) h).trans (by kernel_rfl))
noncomputable def aW (r : RT) (n : Nat) (x3 : DV) (h0 : Hp) : aI :=
 bnd (aB 1 x3 h0) fun v1 h1 =>
 bnd (aA v1 h1) fun v2 h2 =>
 some (v2, h2)
noncomputable def qO (r : RT) (n : Nat) (x0 x5 : DV) (h0 : Hp) : aI :=
 bnd (dU x5 h0) fun v1 h1 =>
 bnd (aD .quo v1 (aE 2) h1) fun v2 h2 =>
 bnd (fH x5 none (some v2) h2) fun v3 h3 =>
 bnd (fO .add (.s [115]) v3 h3) fun v4 h4 =>
 bnd (r 44 [x0, v4] h4) fun v5 h5 =>
 bnd (aC 0 v5 h5) fun v6 h6 =>
 bnd (aC 1 v5 h6) fun v7 h7 =>
 some (v6, h7)
noncomputable def aIx (r : RT) (n : Nat) (x0 x5 : DV) (h0 : Hp) : aI :=
 bnd (dU x5 h0) fun v1 h1 =>
 bnd (aD .gtr v1 (aE 60) h1) fun v2 h2 =>
 aS v2 (
 bnd (fH x5 none (some (aE 60)) h2) fun v3 h3 =>
  qO r n x0 v3 h3) (
  qO r n x0 x5 h2)
noncomputable def dR (r : RT) (n : Nat) (x0 x13 : DV) (h0 : Hp) : aI :=
 bnd (r 46 [x0, x13] h0) fun v1 h1 =>
 bnd (aC 0 v1 h1) fun v2 h2 =>
 bnd (aC 1 v1 h2) fun v3 h3 =>
 some (v2, h3)
noncomputable def kV (r : RT) (n : Nat) (kk21 : dJ) (x0 x12 x13 x14 : DV) (h0 : Hp) : aI :=
 bnd (aD .rem x12 (aE 10) h0) fun v1 h1 =>
 bnd (aD .lss x14 v1 h1) fun v2 h2 =>
 aS v2 (
 bnd (aD .mul (aE 2) x14 h2) fun v3 h3 =>
 bnd (aD .add v3 (aE 1) h3) fun v4 h4 =>
 bnd (aL [(aE 0)] 1 [(0, 1, v4)] h4) fun v5 h5 =>
 bnd (bA 1 8 x13 v5 h5) fun v6 h6 =>
 bnd (aD .add x14 (aE 1) h6) fun v7 h7 =>
      kk21 x0 x12 v6 v7 h7) (
      dR r n x0 x13 h2)
noncomputable def kT (r : RT) (n : Nat) (m : Nat) : dJ :=
 Nat.rec (motive := fun _ => dJ) (fun _ _ _ _ _ => none) (fun _ ih => kV r n ih) m
noncomputable def aTt (r : RT) (n : Nat) : dJ := kT r n n
noncomputable def aHg (r : RT) (n : Nat) (x0 x12 x13 x14 : DV) (h0 : Hp) : aI :=
 aTt r n x0 x12 x13 x14 h0
noncomputable def aCh (r : RT) (n : Nat) (x0 x12 x13 : DV) (h0 : Hp) : aI :=
 aHg r n x0 x12 x13 (aE 0) h0
noncomputable def rK (r : RT) (n : Nat) (x0 x12 : DV) (h0 : Hp) : aI :=
 aCh r n x0 x12 .l0 h0
noncomputable def aGi (r : RT) (n : Nat) (x0 x12 : DV) (h0 : Hp) : aI :=
 bnd (aD .lss x12 (aE 0) h0) fun v1 h1 =>
 aS v1 (
 bnd (aD .add x12 (aE 1) h1) fun v2 h2 =>
 bnd (gX .neg v2 h2) fun v3 h3 =>
  rK r n x0 v3 h3) (
  rK r n x0 x12 h1)
noncomputable def aGp (r : RT) (n : Nat) (x0 x3 : DV) (h0 : Hp) : aI :=
 bnd (aB 1 x3 h0) fun v1 h1 =>
 bnd (aA v1 h1) fun v2 h2 =>
  aGi r n x0 v2 h2
noncomputable def xU (r : RT) (n : Nat) (x0 x3 x27 x66 : DV) (h0 : Hp) : aI :=
 aS x66 (
  aGp r n x0 x3 h0) (
 bnd (aD .eql x27 (aE 4) h0) fun v1 h1 =>
 aS v1 (
 bnd (r 23 [x0] h1) fun v2 h2 =>
 bnd (r 45 [x0, (.s [80, 111, 105, 110, 116])] h2) fun v3 h3 =>
 bnd (iR [v2, v3, (aE 0), (aE 2)] h3) fun v4 h4 =>
 bnd (aC 0 v4 h4) fun v5 h5 =>
 bnd (aC 1 v4 h5) fun v6 h6 =>
 some (v5, h6)) (
 bnd (aD .eql x27 (aE 5) h1) fun v7 h7 =>
 aS v7 (
 bnd (aB 1 x3 h7) fun v8 h8 =>
 bnd (aA v8 h8) fun v9 h9 =>
 bnd (aD .eql v9 (aE 16) h9) fun v10 h10 =>
 aS v10 (
 bnd (r 45 [x0, (.s [80, 111, 105, 110, 116])] h10) fun v11 h11 =>
 some (v11, h11)) (
 bnd (aB 1 x3 h10) fun v12 h12 =>
 bnd (aA v12 h12) fun v13 h13 =>
 bnd (r 30 [x0, v13] h13) fun v14 h14 =>
 some (v14, h14))) (
 bnd (aD .eql x27 (aE 6) h7) fun v15 h15 =>
 aS v15 (
 some ((aE 0), h15)) (
 bnd (aD .eql x27 (aE 7) h15) fun v16 h16 =>
 aS v16 (
 some ((aE 2), h16)) (
 bnd (aD .eql x27 (aE 8) h16) fun v17 h17 =>
 aS v17 (
 some ((aE 4), h17)) (
       aW r n x3 h17))))))
noncomputable def aUa (r : RT) (n : Nat) (x0 x3 x27 : DV) (h0 : Hp) : aI :=
 bnd (aD .eql x27 (aE 3) h0) fun v1 h1 =>
  xU r n x0 x3 x27 v1 h1
noncomputable def yE (r : RT) (n : Nat) (x0 x3 x5 x27 x47 : DV) (h0 : Hp) : aI :=
 aS x47 (
  aIx r n x0 x5 h0) (
  aUa r n x0 x3 x27 h0)
noncomputable def bTj (r : RT) (n : Nat) (x0 x3 x5 x27 : DV) (h0 : Hp) : aI :=
 bnd (aD .eql x27 (aE 2) h0) fun v1 h1 =>
  yE r n x0 x3 x5 x27 v1 h1
noncomputable def aLx (r : RT) (n : Nat) (x0 x3 x5 x27 x38 : DV) (h0 : Hp) : aI :=
 aS x38 (
 bnd (r 43 [x0, x5] h0) fun v1 h1 =>
 bnd (aC 0 v1 h1) fun v2 h2 =>
 bnd (aC 1 v1 h2) fun v3 h3 =>
 some (v2, h3)) (
  bTj r n x0 x3 x5 x27 h0)
noncomputable def bMc (r : RT) (n : Nat) (x0 x3 x5 x27 : DV) (h0 : Hp) : aI :=
 bnd (aD .eql x27 (aE 1) h0) fun v1 h1 =>
  aLx r n x0 x3 x5 x27 v1 h1
noncomputable def aLe (r : RT) (n : Nat) (x0 x3 x5 x27 x28 : DV) (h0 : Hp) : aI :=
 aS x28 (
 bnd (aB 1 x3 h0) fun v1 h1 =>
 bnd (aA v1 h1) fun v2 h2 =>
 bnd (r 42 [x0, v2] h2) fun v3 h3 =>
 bnd (aC 0 v3 h3) fun v4 h4 =>
 bnd (aC 1 v3 h4) fun v5 h5 =>
 some (v4, h5)) (
  bMc r n x0 x3 x5 x27 h0)
noncomputable def aWt (r : RT) (n : Nat) (x0 x3 x5 x27 : DV) (h0 : Hp) : aI :=
 bnd (aD .eql x27 (aE 0) h0) fun v1 h1 =>
  aLe r n x0 x3 x5 x27 v1 h1
noncomputable def zU (r : RT) (n : Nat) (x0 x3 x5 : DV) (h0 : Hp) : aI :=
 bnd (aB 0 x3 h0) fun v1 h1 =>
 bnd (aA v1 h1) fun v2 h2 =>
  aWt r n x0 x3 x5 v2 h2
noncomputable def aXx (r : RT) (n : Nat) (x0 x3 x5 : DV) (h0 : Hp) : aI :=
 bnd (dU x5 h0) fun v1 h1 =>
 bnd (aD .gtr v1 (aE 250) h1) fun v2 h2 =>
 aS v2 (
 bnd (fH x5 none (some (aE 250)) h2) fun v3 h3 =>
  zU r n x0 x3 v3 h3) (
  zU r n x0 x3 x5 h2)
noncomputable def aAd (r : RT) (n : Nat) (x0 x3 : DV) (h0 : Hp) : aI :=
 bnd (aB 2 x3 h0) fun v1 h1 =>
 bnd (aA v1 h1) fun v2 h2 =>
  aXx r n x0 x3 v2 h2
noncomputable def s14 (r : RT) (n : Nat) (x0 x1 : DV) (h0 : Hp) : aI :=
 bnd (bR x1 h0) fun v1 h1 =>
  aAd r n x0 v1 h1
noncomputable abbrev c14 : Code := cf Tryz.f14
noncomputable abbrev aZc : Code := cR c14
noncomputable abbrev aWg : Code := cR aZc
noncomputable abbrev aYx : Code := cR aWg
noncomputable abbrev dFv : Code := cR aYx
noncomputable abbrev aLa : Code := cL aYx
noncomputable abbrev bTf : Code := cR aLa
noncomputable abbrev aVb : Code := cL bTf
noncomputable abbrev aMb : Code := cR aVb
noncomputable abbrev aLw : Code := cR aMb
noncomputable abbrev uT : Code := cR aLw
noncomputable abbrev xX : Code := cR uT
noncomputable abbrev xW : Code := cR xX
noncomputable abbrev wB : Code := cL xW
noncomputable abbrev cSo : Code := cR wB
noncomputable abbrev bXo : Code := cL wB
noncomputable abbrev yO : Code := cR xW
noncomputable abbrev wI : Code := cR yO
noncomputable abbrev wA : Code := cL wI
noncomputable abbrev aGt : Code := cR wA
noncomputable abbrev aDl : Code := cR aGt
noncomputable abbrev aHk : Code := cR aDl
noncomputable abbrev cVr : Code := cR aHk
noncomputable abbrev xD : Code := cL aHk
noncomputable abbrev aRt : Code := cR xD
noncomputable abbrev aCi : Code := cL aRt
noncomputable abbrev mB : Code := cL aCi
noncomputable abbrev bPa : Code := cL xD
noncomputable abbrev bKe : Code := cL aDl
noncomputable abbrev bKi : Code := cL aGt
noncomputable abbrev bXt : Code := cL wA
noncomputable abbrev cSq : Code := cR wI
noncomputable abbrev bJd : Code := cL yO
noncomputable abbrev bSy : Code := cL xX
noncomputable abbrev cXu : Code := cL uT
noncomputable abbrev bJl : Code := cL aLw
noncomputable abbrev cTu : Code := cL aMb
noncomputable abbrev bLk : Code := cL aVb
noncomputable abbrev bXh : Code := cL aLa
noncomputable abbrev bZn : Code := cL aWg
noncomputable abbrev bOq : Code := cL aZc
noncomputable abbrev aNz : Code := cL c14
noncomputable abbrev r14 : K := aU CF Tryz.f14
noncomputable def D14 (r : RT) (n : Nat) (c : Code) (X : Nat → K) (k : K) : K := aM CF r 124 n c X r14 k
theorem cZp : D14 r n dFv x0 r14 = (K1 (aW r n) 3) :=
 (by kernel_rfl)
theorem cGv : D14 r n cSo (xs x0 0 (K1 (aW r n) 3)) (K1 (aW r n) 3) = (K2 (qO r n) 0 5) :=
 (by kernel_rfl)
theorem cAl : D14 r n wB (xs x0 0 (K1 (aW r n) 3)) (K1 (aW r n) 3) = D14 r n bXo (xs x0 0 (K1 (aW r n) 3)) (K2 (qO r n) 0 5) :=
 congrArg (fun k => D14 r n bXo (xs x0 0 (K1 (aW r n) 3)) k) (cGv r n)
theorem cLh : D14 r n wB (xs x0 0 (K1 (aW r n) 3)) (K1 (aW r n) 3) = (K2 (aIx r n) 0 5) :=
 (cAl r n).trans
 ((by kernel_rfl))
theorem cFo : D14 r n cVr (xs x0 0 (K1 (aW r n) 3)) (K1 (aW r n) 3) = (K2 (dR r n) 0 13) :=
 (by kernel_rfl)
theorem bQm (kk21 : dJ) (q0 : TT1) (q1 : oK) : D14 r n mB (xs (xs x0 0 (K1 q0 3)) 1 (K2 q1 0 13)) (K4 kk21 0 12 13 14) = fun (env : aZ) (h : Hp) =>
 bnd (aD .rem (env 12) (aE 10) h) fun v1 h1 =>
 bnd (aD .lss (env 14) v1 h1) fun v2 h2 =>
 aS v2 (
 bnd (aD .mul (aE 2) (env 14) h2) fun v3 h3 =>
 bnd (aD .add v3 (aE 1) h3) fun v4 h4 =>
 bnd (aL [(aE 0)] 1 [(0, 1, v4)] h4) fun v5 h5 =>
 bnd (bA 1 8 (env 13) v5 h5) fun v6 h6 =>
 bnd (aD .add (env 14) (aE 1) h6) fun v7 h7 =>
      kk21 (env 0) (env 12) v6 v7 h7) (
      q1 (env 0) (env 13) h2) := by kernel_rfl
theorem bCz (kk21 : dJ) : (fun (env : aZ) (h : Hp) =>
 bnd (aD .rem (env 12) (aE 10) h) fun v1 h1 =>
 bnd (aD .lss (env 14) v1 h1) fun v2 h2 =>
 aS v2 (
 bnd (aD .mul (aE 2) (env 14) h2) fun v3 h3 =>
 bnd (aD .add v3 (aE 1) h3) fun v4 h4 =>
 bnd (aL [(aE 0)] 1 [(0, 1, v4)] h4) fun v5 h5 =>
 bnd (bA 1 8 (env 13) v5 h5) fun v6 h6 =>
 bnd (aD .add (env 14) (aE 1) h6) fun v7 h7 =>
      kk21 (env 0) (env 12) v6 v7 h7) (
      dR r n (env 0) (env 13) h2)) = (K4 (kV r n kk21) 0 12 13 14) := by kernel_rfl
theorem bVt (kk21 : dJ) : D14 r n mB (xs (xs x0 0 (K1 (aW r n) 3)) 1 (K2 (dR r n) 0 13)) (K4 kk21 0 12 13 14) = (K4 (kV r n kk21) 0 12 13 14) :=
 (bQm r n kk21 (aW r n) (dR r n)).trans (bCz r n kk21)
theorem bMj (m : Nat) : aN (fun kk => D14 r n mB (xs (xs x0 0 (K1 (aW r n) 3)) 1 (K2 (dR r n) 0 13)) kk) m = (K4 (kT r n m) 0 12 13 14) := by
 induction m with
 | zero => exact (by kernel_rfl : aN (fun kk => D14 r n mB (xs (xs x0 0 (K1 (aW r n) 3)) 1 (K2 (dR r n) 0 13)) kk) 0 = (K4 (kT r n 0) 0 12 13 14))
 | succ m ih =>
  refine (by kernel_rfl : aN (fun kk => D14 r n mB (xs (xs x0 0 (K1 (aW r n) 3)) 1 (K2 (dR r n) 0 13)) kk) (m + 1) = D14 r n mB (xs (xs x0 0 (K1 (aW r n) 3)) 1 (K2 (dR r n) 0 13)) (aN (fun kk => D14 r n mB (xs (xs x0 0 (K1 (aW r n) 3)) 1 (K2 (dR r n) 0 13)) kk) m)).trans ?_
  rw [ih]
  exact (bVt r n (kT r n m)).trans (by kernel_rfl)
theorem cPf : D14 r n aCi (xs (xs x0 0 (K1 (aW r n) 3)) 1 (K2 (dR r n) 0 13)) (K2 (dR r n) 0 13) = (K4 (aTt r n) 0 12 13 14) :=
 (by kernel_rfl : D14 r n aCi (xs (xs x0 0 (K1 (aW r n) 3)) 1 (K2 (dR r n) 0 13)) (K2 (dR r n) 0 13) = aN (fun kk => D14 r n mB (xs (xs x0 0 (K1 (aW r n) 3)) 1 (K2 (dR r n) 0 13)) kk) n).trans ((bMj r n n).trans (by kernel_rfl))
theorem cGn : D14 r n aRt (xs x0 0 (K1 (aW r n) 3)) (K2 (dR r n) 0 13) = (K4 (aHg r n) 0 12 13 14) :=
 (by kernel_rfl : D14 r n aRt (xs x0 0 (K1 (aW r n) 3)) (K2 (dR r n) 0 13) = D14 r n aCi (xs (xs x0 0 (K1 (aW r n) 3)) 1 (K2 (dR r n) 0 13)) (K2 (dR r n) 0 13)).trans
 ((cPf r n).trans (by kernel_rfl))
theorem bRz : D14 r n aHk (xs x0 0 (K1 (aW r n) 3)) (K1 (aW r n) 3) = D14 r n xD (xs x0 0 (K1 (aW r n) 3)) (K2 (dR r n) 0 13) :=
 congrArg (fun k => D14 r n xD (xs x0 0 (K1 (aW r n) 3)) k) (cFo r n)
theorem bIm : D14 r n xD (xs x0 0 (K1 (aW r n) 3)) (K2 (dR r n) 0 13) = D14 r n bPa (xs x0 0 (K1 (aW r n) 3)) (K4 (aHg r n) 0 12 13 14) :=
 congrArg (fun k => D14 r n bPa (xs x0 0 (K1 (aW r n) 3)) k) (cGn r n)
theorem cKm : D14 r n aHk (xs x0 0 (K1 (aW r n) 3)) (K1 (aW r n) 3) = (K3 (aCh r n) 0 12 13) :=
 (bRz r n).trans
 ((bIm r n).trans
 ((by kernel_rfl)))
theorem bZc : D14 r n aDl (xs x0 0 (K1 (aW r n) 3)) (K1 (aW r n) 3) = D14 r n bKe (xs x0 0 (K1 (aW r n) 3)) (K3 (aCh r n) 0 12 13) :=
 congrArg (fun k => D14 r n bKe (xs x0 0 (K1 (aW r n) 3)) k) (cKm r n)
theorem cIi : D14 r n aDl (xs x0 0 (K1 (aW r n) 3)) (K1 (aW r n) 3) = (K2 (rK r n) 0 12) :=
 (bZc r n).trans
 ((by kernel_rfl))
theorem bOl : D14 r n aGt (xs x0 0 (K1 (aW r n) 3)) (K1 (aW r n) 3) = D14 r n bKi (xs x0 0 (K1 (aW r n) 3)) (K2 (rK r n) 0 12) :=
 congrArg (fun k => D14 r n bKi (xs x0 0 (K1 (aW r n) 3)) k) (cIi r n)
theorem cLc : D14 r n aGt (xs x0 0 (K1 (aW r n) 3)) (K1 (aW r n) 3) = (K2 (aGi r n) 0 12) :=
 (bOl r n).trans
 ((by kernel_rfl))
theorem bTs : D14 r n wA (xs x0 0 (K1 (aW r n) 3)) (K1 (aW r n) 3) = D14 r n bXt (xs x0 0 (K1 (aW r n) 3)) (K2 (aGi r n) 0 12) :=
 congrArg (fun k => D14 r n bXt (xs x0 0 (K1 (aW r n) 3)) k) (cLc r n)
theorem cFq : D14 r n wA (xs x0 0 (K1 (aW r n) 3)) (K1 (aW r n) 3) = (K2 (aGp r n) 0 3) :=
 (bTs r n).trans
 ((by kernel_rfl))
theorem cLs : D14 r n wI (xs x0 0 (K1 (aW r n) 3)) (K1 (aW r n) 3) = (K4 (xU r n) 0 3 27 66) :=
 (by kernel_rfl : D14 r n wI (xs x0 0 (K1 (aW r n) 3)) (K1 (aW r n) 3) = (fun (env : aZ) (h : Hp) => aS (opr env (cC wI)) (D14 r n wA (xs x0 0 (K1 (aW r n) 3)) (K1 (aW r n) 3) env h) (D14 r n cSq (xs x0 0 (K1 (aW r n) 3)) (K1 (aW r n) 3) env h))).trans (by rw [cFq r n]; kernel_rfl)
theorem bTd : D14 r n yO (xs x0 0 (K1 (aW r n) 3)) (K1 (aW r n) 3) = D14 r n bJd (xs x0 0 (K1 (aW r n) 3)) (K4 (xU r n) 0 3 27 66) :=
 congrArg (fun k => D14 r n bJd (xs x0 0 (K1 (aW r n) 3)) k) (cLs r n)
theorem cNs : D14 r n yO (xs x0 0 (K1 (aW r n) 3)) (K1 (aW r n) 3) = (K3 (aUa r n) 0 3 27) :=
 (bTd r n).trans
 ((by kernel_rfl))
theorem cDh : D14 r n xW (xs x0 0 (K1 (aW r n) 3)) (K1 (aW r n) 3) = (K5 (yE r n) 0 3 5 27 47) :=
 (by kernel_rfl : D14 r n xW (xs x0 0 (K1 (aW r n) 3)) (K1 (aW r n) 3) = (fun (env : aZ) (h : Hp) => aS (opr env (cC xW)) (D14 r n wB (xs x0 0 (K1 (aW r n) 3)) (K1 (aW r n) 3) env h) (D14 r n yO (xs x0 0 (K1 (aW r n) 3)) (K1 (aW r n) 3) env h))).trans (by rw [cLh r n, cNs r n]; kernel_rfl)
theorem cDr : D14 r n xX (xs x0 0 (K1 (aW r n) 3)) (K1 (aW r n) 3) = D14 r n bSy (xs x0 0 (K1 (aW r n) 3)) (K5 (yE r n) 0 3 5 27 47) :=
 congrArg (fun k => D14 r n bSy (xs x0 0 (K1 (aW r n) 3)) k) (cDh r n)
theorem cTc : D14 r n xX (xs x0 0 (K1 (aW r n) 3)) (K1 (aW r n) 3) = (K4 (bTj r n) 0 3 5 27) :=
 (cDr r n).trans
 ((by kernel_rfl))
theorem dAi : D14 r n uT (xs x0 0 (K1 (aW r n) 3)) (K1 (aW r n) 3) = (K5 (aLx r n) 0 3 5 27 38) :=
 (by kernel_rfl : D14 r n uT (xs x0 0 (K1 (aW r n) 3)) (K1 (aW r n) 3) = (fun (env : aZ) (h : Hp) => aS (opr env (cC uT)) (D14 r n cXu (xs x0 0 (K1 (aW r n) 3)) (K1 (aW r n) 3) env h) (D14 r n xX (xs x0 0 (K1 (aW r n) 3)) (K1 (aW r n) 3) env h))).trans (by rw [cTc r n]; kernel_rfl)
theorem bPp : D14 r n aLw (xs x0 0 (K1 (aW r n) 3)) (K1 (aW r n) 3) = D14 r n bJl (xs x0 0 (K1 (aW r n) 3)) (K5 (aLx r n) 0 3 5 27 38) :=
 congrArg (fun k => D14 r n bJl (xs x0 0 (K1 (aW r n) 3)) k) (dAi r n)
theorem dAs : D14 r n aLw (xs x0 0 (K1 (aW r n) 3)) (K1 (aW r n) 3) = (K4 (bMc r n) 0 3 5 27) :=
 (bPp r n).trans
 ((by kernel_rfl))
theorem cVn : D14 r n aMb (xs x0 0 (K1 (aW r n) 3)) (K1 (aW r n) 3) = (K5 (aLe r n) 0 3 5 27 28) :=
 (by kernel_rfl : D14 r n aMb (xs x0 0 (K1 (aW r n) 3)) (K1 (aW r n) 3) = (fun (env : aZ) (h : Hp) => aS (opr env (cC aMb)) (D14 r n cTu (xs x0 0 (K1 (aW r n) 3)) (K1 (aW r n) 3) env h) (D14 r n aLw (xs x0 0 (K1 (aW r n) 3)) (K1 (aW r n) 3) env h))).trans (by rw [dAs r n]; kernel_rfl)
theorem bPo : D14 r n aVb (xs x0 0 (K1 (aW r n) 3)) (K1 (aW r n) 3) = D14 r n bLk (xs x0 0 (K1 (aW r n) 3)) (K5 (aLe r n) 0 3 5 27 28) :=
 congrArg (fun k => D14 r n bLk (xs x0 0 (K1 (aW r n) 3)) k) (cVn r n)
theorem cUv : D14 r n bTf x0 (K1 (aW r n) 3) = (K4 (aWt r n) 0 3 5 27) :=
 (by kernel_rfl : D14 r n bTf x0 (K1 (aW r n) 3) = D14 r n aVb (xs x0 0 (K1 (aW r n) 3)) (K1 (aW r n) 3)).trans
 ((bPo r n).trans
 ((by kernel_rfl)))
theorem bMo : D14 r n aYx x0 r14 = D14 r n aLa x0 (K1 (aW r n) 3) :=
 congrArg (fun k => D14 r n aLa x0 k) (cZp r n)
theorem bKr : D14 r n aLa x0 (K1 (aW r n) 3) = D14 r n bXh x0 (K4 (aWt r n) 0 3 5 27) :=
 congrArg (fun k => D14 r n bXh x0 k) (cUv r n)
theorem cZl : D14 r n aYx x0 r14 = (K3 (zU r n) 0 3 5) :=
 (bMo r n).trans
 ((bKr r n).trans
 ((by kernel_rfl)))
theorem bOg : D14 r n aWg x0 r14 = D14 r n bZn x0 (K3 (zU r n) 0 3 5) :=
 congrArg (fun k => D14 r n bZn x0 k) (cZl r n)
theorem cTs : D14 r n aWg x0 r14 = (K3 (aXx r n) 0 3 5) :=
 (bOg r n).trans
 ((by kernel_rfl))
theorem bOk : D14 r n aZc x0 r14 = D14 r n bOq x0 (K3 (aXx r n) 0 3 5) :=
 congrArg (fun k => D14 r n bOq x0 k) (cTs r n)
theorem cWf : D14 r n aZc x0 r14 = (K2 (aAd r n) 0 3) :=
 (bOk r n).trans
 ((by kernel_rfl))
theorem cVd : D14 r n c14 x0 r14 = D14 r n aNz x0 (K2 (aAd r n) 0 3) :=
 congrArg (fun k => D14 r n aNz x0 k) (cWf r n)
theorem cZe (q0 : oK) : D14 r n aNz x0 (K2 q0 0 3) = fun (env : aZ) (h : Hp) =>
 bnd (bR (env 1) h) fun v1 h1 =>
  q0 (env 0) v1 h1 := by kernel_rfl
theorem cIy : (fun (env : aZ) (h : Hp) =>
 bnd (bR (env 1) h) fun v1 h1 =>
  aAd r n (env 0) v1 h1) = (K2 (s14 r n) 0 1) := by kernel_rfl
theorem dNl : D14 r n c14 x0 r14 = (K2 (s14 r n) 0 1) :=
 (cVd r n).trans
 ((cZe r n (aAd r n)).trans (cIy r n))
theorem cQn : aF CF r n 14 args h = s14 r n (aR args 0) (aR args 1) h :=
 (by kernel_rfl : aF CF r n 14 args h = D14 r n c14 x0 r14 (aH args) h).trans ((congrFun (congrFun (dNl r n) (aH args)) h).trans (by kernel_rfl))
noncomputable def s15 (r : RT) (n : Nat) (x0 x1 : DV) (h0 : Hp) : aI :=
 bnd (eM [x1] h0) fun v1 h1 =>
 aS v1 (
 bnd (jF [x1] h1) fun v2 h2 =>
 some (.t [v2, (.b true)], h2)) (
 bnd (aO x0 h1) fun v3 h3 =>
 bnd (aB 0 v3 h3) fun v4 h4 =>
 bnd (aA v4 h4) fun v5 h5 =>
 bnd (isF [v5, x1] h5) fun v6 h6 =>
 bnd (gD v6 true (some (x0, h6)) h6) fun v7 h7 =>
 bnd (gD v6 true (aO v7 h7) h7) fun v8 h8 =>
 bnd (gD v6 true (aB 0 v8 h8) h8) fun v9 h9 =>
 bnd (gD v6 true (aA v9 h9) h9) fun v10 h10 =>
 bnd (gD v6 true (some (x1, h10)) h10) fun v11 h11 =>
 bnd (gD v6 true (iO [v10, v11] h11) h11) fun v12 h12 =>
 bnd (gD v6 true (some (x0, h12)) h12) fun v13 h13 =>
 bnd (gD v6 true (r 30 [v13, (aE 8)] h13) h13) fun v14 h14 =>
 bnd (gD v6 true (aD .eql v12 v14 h14) h14) fun v15 h15 =>
 bnd (aP v6 v15 (.b false) h15) fun v16 h16 =>
 bnd (gD v16 true (some (x0, h16)) h16) fun v17 h17 =>
 bnd (gD v16 true (aO v17 h17) h17) fun v18 h18 =>
 bnd (gD v16 true (aB 0 v18 h18) h18) fun v19 h19 =>
 bnd (gD v16 true (aA v19 h19) h19) fun v20 h20 =>
 bnd (gD v16 true (some (x1, h20)) h20) fun v21 h21 =>
 bnd (gD v16 true (jP [v20, v21] h21) h21) fun v22 h22 =>
 bnd (gD v16 true (aD .eql v22 (aE 1) h22) h22) fun v23 h23 =>
 bnd (aP v16 v23 (.b false) h23) fun v24 h24 =>
 aS v24 (
 bnd (r 51 [x0, x1, (aE 0)] h24) fun v25 h25 =>
 some (.t [v25, (.b true)], h25)) (
 some (.t [(aE 0), (.b false)], h24)))
noncomputable abbrev c15 : Code := cf Tryz.f15
noncomputable abbrev r15 : K := aU CF Tryz.f15
noncomputable def D15 (r : RT) (n : Nat) (c : Code) (X : Nat → K) (k : K) : K := aM CF r 41 n c X r15 k
theorem dPe : D15 r n c15 x0 r15 = (K2 (s15 r n) 0 1) :=
 (by kernel_rfl)
theorem cQf : aF CF r n 15 args h = s15 r n (aR args 0) (aR args 1) h :=
 (by kernel_rfl : aF CF r n 15 args h = D15 r n c15 x0 r15 (aH args) h).trans ((congrFun (congrFun (dPe r n) (aH args)) h).trans (by kernel_rfl))
noncomputable def bC (r : RT) (n : Nat) (x12 : DV) (h0 : Hp) : aI :=
 bnd (cX CF r x12 [] h0) fun v1 h1 =>
 bnd (aC 0 v1 h1) fun v2 h2 =>
 bnd (aC 1 v1 h2) fun v3 h3 =>
 some (.t [v2, v3], h3)
noncomputable def aHm (r : RT) (n : Nat) (x11 x12 x69 : DV) (h0 : Hp) : aI :=
 aS x69 (
  bC r n (.f 61 [x11] []) h0) (
  bC r n x12 h0)
noncomputable def bRr (r : RT) (n : Nat) (x11 x12 x42 : DV) (h0 : Hp) : aI :=
 bnd (aD .eql x42 (aE 50) h0) fun v1 h1 =>
 aS v1 (
  aHm r n x11 x12 v1 h1) (
 bnd (aD .eql x42 (aE 51) h1) fun v2 h2 =>
  aHm r n x11 x12 v2 h2)
noncomputable def aEh (r : RT) (n : Nat) (x11 x12 x42 x64 : DV) (h0 : Hp) : aI :=
 aS x64 (
  bC r n (.f 60 [x11] []) h0) (
  bRr r n x11 x12 x42 h0)
noncomputable def bUi (r : RT) (n : Nat) (x11 x12 x42 : DV) (h0 : Hp) : aI :=
 bnd (aD .eql x42 (aE 40) h0) fun v1 h1 =>
 aS v1 (
  aEh r n x11 x12 x42 v1 h1) (
 bnd (aD .eql x42 (aE 41) h1) fun v2 h2 =>
  aEh r n x11 x12 x42 v2 h2)
noncomputable def aGk (r : RT) (n : Nat) (x11 x12 x42 x59 : DV) (h0 : Hp) : aI :=
 aS x59 (
  bC r n (.f 59 [x11] []) h0) (
  bUi r n x11 x12 x42 h0)
noncomputable def bSt (r : RT) (n : Nat) (x11 x12 x42 : DV) (h0 : Hp) : aI :=
 bnd (aD .eql x42 (aE 25) h0) fun v1 h1 =>
 aS v1 (
  aGk r n x11 x12 x42 v1 h1) (
 bnd (aD .eql x42 (aE 26) h1) fun v2 h2 =>
  aGk r n x11 x12 x42 v2 h2)
noncomputable def aCz (r : RT) (n : Nat) (x11 x12 x42 x54 : DV) (h0 : Hp) : aI :=
 aS x54 (
  bC r n (.f 58 [x11] []) h0) (
  bSt r n x11 x12 x42 h0)
noncomputable def bZk (r : RT) (n : Nat) (x11 x12 x42 : DV) (h0 : Hp) : aI :=
 bnd (aD .eql x42 (aE 23) h0) fun v1 h1 =>
 aS v1 (
  aCz r n x11 x12 x42 v1 h1) (
 bnd (aD .eql x42 (aE 24) h1) fun v2 h2 =>
  aCz r n x11 x12 x42 v2 h2)
noncomputable def vF (r : RT) (n : Nat) (x11 x12 x42 x48 : DV) (h0 : Hp) : aI :=
 aS x48 (
  bC r n (.f 57 [x11] []) h0) (
  bZk r n x11 x12 x42 h0)
noncomputable def cPs (r : RT) (n : Nat) (x11 x12 x42 : DV) (h0 : Hp) : aI :=
 bnd (aD .eql x42 (aE 20) h0) fun v1 h1 =>
 aS v1 (
  vF r n x11 x12 x42 v1 h1) (
 bnd (aD .eql x42 (aE 21) h1) fun v2 h2 =>
 aS v2 (
   vF r n x11 x12 x42 v2 h2) (
 bnd (aD .eql x42 (aE 22) h2) fun v3 h3 =>
      vF r n x11 x12 x42 v3 h3))
noncomputable def aYh (r : RT) (n : Nat) (x11 x12 x42 x43 : DV) (h0 : Hp) : aI :=
 aS x43 (
  bC r n (.f 56 [x11] []) h0) (
  cPs r n x11 x12 x42 h0)
noncomputable def bXi (r : RT) (n : Nat) (x11 x12 x42 : DV) (h0 : Hp) : aI :=
 bnd (aD .eql x42 (aE 10) h0) fun v1 h1 =>
 aS v1 (
  aYh r n x11 x12 x42 v1 h1) (
 bnd (aD .eql x42 (aE 11) h1) fun v2 h2 =>
  aYh r n x11 x12 x42 v2 h2)
noncomputable def bLq (r : RT) (n : Nat) (x1 x11 x12 : DV) (h0 : Hp) : aI :=
 bXi r n x11 x12 x1 h0
noncomputable def nG (r : RT) (n : Nat) (x1 x11 : DV) (h0 : Hp) : aI :=
 bLq r n x1 x11 (.f 55 [x11] []) h0
noncomputable def uV (r : RT) (n : Nat) (x0 x1 x2 x3 : DV) (h0 : Hp) : aI :=
 bnd (bB [.p0, (aE 0), (aE 0), .l0] [(0, 1, x0), (1, 1, x1), (2, 1, x2), (3, 1, x3)] h0) fun v1 h1 =>
 bnd (bR v1 h1) fun v2 h2 =>
  nG r n x1 v2 h2
noncomputable def aAh (r : RT) (n : Nat) (x0 x1 x2 x3 x10 : DV) (h0 : Hp) : aI :=
 bnd (r 39 [x1] h0) fun v1 h1 =>
 bnd (bZ x3 h1) fun v2 h2 =>
 bnd (aD .neq v1 v2 h2) fun v3 h3 =>
 bnd (gD v3 false (aA x10 h3) h3) fun v4 h4 =>
 bnd (gD v3 false (some (x2, h4)) h4) fun v5 h5 =>
 bnd (gD v3 false (aDc [v4, v5] h5) h5) fun v6 h6 =>
 bnd (gD v3 false (gX .not v6 h6) h6) fun v7 h7 =>
 bnd (aP v3 (.b true) v7 h7) fun v8 h8 =>
 bnd (gD v8 false (some (x3, h8)) h8) fun v9 h9 =>
 bnd (gD v8 false (some ((.f 53 [] [x10]), h9)) h9) fun v10 h10 =>
 bnd (gD v8 false (r 52 [v9, v10] h10) h10) fun v11 h11 =>
 bnd (aP v8 (.b true) v11 h11) fun v12 h12 =>
 aS v12 (
 bnd (r 54 [] h12) fun v13 h13 =>
 bnd (aC 0 v13 h13) fun v14 h14 =>
 bnd (aC 1 v13 h14) fun v15 h15 =>
 some (.t [v14, v15], h15)) (
  uV r n x0 x1 x2 x3 h12)
noncomputable def aKy (r : RT) (n : Nat) (x0 x1 x2 x3 : DV) (h0 : Hp) : aI :=
 bnd (r 23 [x0] h0) fun v1 h1 =>
 bnd (bL [.p0] h1) fun v2 h2 =>
 bnd (aG 1 v2 v1 h2) fun _ h3 =>
  aAh r n x0 x1 x2 x3 v2 h3
noncomputable def s16 (r : RT) (n : Nat) (x0 x1 x2 x3 : DV) (h0 : Hp) : aI :=
 aKy r n x0 x1 x2 x3 h0
noncomputable abbrev c16 : Code := cf Tryz.f16
noncomputable abbrev aVm : Code := cR c16
noncomputable abbrev aVd : Code := cR aVm
noncomputable abbrev aVe : Code := cR aVd
noncomputable abbrev bBd : Code := cR aVe
noncomputable abbrev aWb : Code := cR bBd
noncomputable abbrev dDq : Code := cR aWb
noncomputable abbrev aMr : Code := cL aWb
noncomputable abbrev bKp : Code := cR aMr
noncomputable abbrev aXe : Code := cL bKp
noncomputable abbrev xZ : Code := cR aXe
noncomputable abbrev uY : Code := cR xZ
noncomputable abbrev vG : Code := cR uY
noncomputable abbrev wC : Code := cR vG
noncomputable abbrev zD : Code := cR wC
noncomputable abbrev xT : Code := cR zD
noncomputable abbrev xQ : Code := cR xT
noncomputable abbrev zF : Code := cR xQ
noncomputable abbrev uW : Code := cR zF
noncomputable abbrev yF : Code := cR uW
noncomputable abbrev cWi : Code := cR yF
noncomputable abbrev cAh : Code := cL yF
noncomputable abbrev cWq : Code := cL uW
noncomputable abbrev bNv : Code := cL zF
noncomputable abbrev cZd : Code := cL xQ
noncomputable abbrev bLh : Code := cL xT
noncomputable abbrev cVk : Code := cL zD
noncomputable abbrev bOb : Code := cL wC
noncomputable abbrev cYb : Code := cL vG
noncomputable abbrev bXu : Code := cL uY
noncomputable abbrev cYc : Code := cL xZ
noncomputable abbrev bKj : Code := cL aXe
noncomputable abbrev bVg : Code := cL aMr
noncomputable abbrev bNj : Code := cL bBd
noncomputable abbrev aRc : Code := cL aVe
noncomputable abbrev bTo : Code := cL aVd
noncomputable abbrev aSb : Code := cL aVm
noncomputable abbrev bKv : Code := cL c16
noncomputable abbrev r16 : K := aU CF Tryz.f16
noncomputable def D16 (r : RT) (n : Nat) (c : Code) (X : Nat → K) (k : K) : K := aM CF r 78 n c X r16 k
theorem cZm : D16 r n dDq x0 r16 = (K1 (bC r n) 12) :=
 (by kernel_rfl)
theorem cHb : D16 r n cWi (xs x0 0 (K1 (bC r n) 12)) (K1 (bC r n) 12) = (K3 (aHm r n) 11 12 69) :=
 (by kernel_rfl)
theorem bMv : D16 r n yF (xs x0 0 (K1 (bC r n) 12)) (K1 (bC r n) 12) = D16 r n cAh (xs x0 0 (K1 (bC r n) 12)) (K3 (aHm r n) 11 12 69) :=
 congrArg (fun k => D16 r n cAh (xs x0 0 (K1 (bC r n) 12)) k) (cHb r n)
theorem cMt : D16 r n yF (xs x0 0 (K1 (bC r n) 12)) (K1 (bC r n) 12) = (K3 (bRr r n) 11 12 42) :=
 (bMv r n).trans
 ((by kernel_rfl))
theorem cBt : D16 r n uW (xs x0 0 (K1 (bC r n) 12)) (K1 (bC r n) 12) = (K4 (aEh r n) 11 12 42 64) :=
 (by kernel_rfl : D16 r n uW (xs x0 0 (K1 (bC r n) 12)) (K1 (bC r n) 12) = (fun (env : aZ) (h : Hp) => aS (opr env (cC uW)) (D16 r n cWq (xs x0 0 (K1 (bC r n) 12)) (K1 (bC r n) 12) env h) (D16 r n yF (xs x0 0 (K1 (bC r n) 12)) (K1 (bC r n) 12) env h))).trans (by rw [cMt r n]; kernel_rfl)
theorem bPx : D16 r n zF (xs x0 0 (K1 (bC r n) 12)) (K1 (bC r n) 12) = D16 r n bNv (xs x0 0 (K1 (bC r n) 12)) (K4 (aEh r n) 11 12 42 64) :=
 congrArg (fun k => D16 r n bNv (xs x0 0 (K1 (bC r n) 12)) k) (cBt r n)
theorem cJp : D16 r n zF (xs x0 0 (K1 (bC r n) 12)) (K1 (bC r n) 12) = (K3 (bUi r n) 11 12 42) :=
 (bPx r n).trans
 ((by kernel_rfl))
theorem cEn : D16 r n xQ (xs x0 0 (K1 (bC r n) 12)) (K1 (bC r n) 12) = (K4 (aGk r n) 11 12 42 59) :=
 (by kernel_rfl : D16 r n xQ (xs x0 0 (K1 (bC r n) 12)) (K1 (bC r n) 12) = (fun (env : aZ) (h : Hp) => aS (opr env (cC xQ)) (D16 r n cZd (xs x0 0 (K1 (bC r n) 12)) (K1 (bC r n) 12) env h) (D16 r n zF (xs x0 0 (K1 (bC r n) 12)) (K1 (bC r n) 12) env h))).trans (by rw [cJp r n]; kernel_rfl)
theorem bWw : D16 r n xT (xs x0 0 (K1 (bC r n) 12)) (K1 (bC r n) 12) = D16 r n bLh (xs x0 0 (K1 (bC r n) 12)) (K4 (aGk r n) 11 12 42 59) :=
 congrArg (fun k => D16 r n bLh (xs x0 0 (K1 (bC r n) 12)) k) (cEn r n)
theorem cNc : D16 r n xT (xs x0 0 (K1 (bC r n) 12)) (K1 (bC r n) 12) = (K3 (bSt r n) 11 12 42) :=
 (bWw r n).trans
 ((by kernel_rfl))
theorem cFm : D16 r n zD (xs x0 0 (K1 (bC r n) 12)) (K1 (bC r n) 12) = (K4 (aCz r n) 11 12 42 54) :=
 (by kernel_rfl : D16 r n zD (xs x0 0 (K1 (bC r n) 12)) (K1 (bC r n) 12) = (fun (env : aZ) (h : Hp) => aS (opr env (cC zD)) (D16 r n cVk (xs x0 0 (K1 (bC r n) 12)) (K1 (bC r n) 12) env h) (D16 r n xT (xs x0 0 (K1 (bC r n) 12)) (K1 (bC r n) 12) env h))).trans (by rw [cNc r n]; kernel_rfl)
theorem bPy : D16 r n wC (xs x0 0 (K1 (bC r n) 12)) (K1 (bC r n) 12) = D16 r n bOb (xs x0 0 (K1 (bC r n) 12)) (K4 (aCz r n) 11 12 42 54) :=
 congrArg (fun k => D16 r n bOb (xs x0 0 (K1 (bC r n) 12)) k) (cFm r n)
theorem cKk : D16 r n wC (xs x0 0 (K1 (bC r n) 12)) (K1 (bC r n) 12) = (K3 (bZk r n) 11 12 42) :=
 (bPy r n).trans
 ((by kernel_rfl))
theorem cMi : D16 r n vG (xs x0 0 (K1 (bC r n) 12)) (K1 (bC r n) 12) = (K4 (vF r n) 11 12 42 48) :=
 (by kernel_rfl : D16 r n vG (xs x0 0 (K1 (bC r n) 12)) (K1 (bC r n) 12) = (fun (env : aZ) (h : Hp) => aS (opr env (cC vG)) (D16 r n cYb (xs x0 0 (K1 (bC r n) 12)) (K1 (bC r n) 12) env h) (D16 r n wC (xs x0 0 (K1 (bC r n) 12)) (K1 (bC r n) 12) env h))).trans (by rw [cKk r n]; kernel_rfl)
theorem cIq : D16 r n uY (xs x0 0 (K1 (bC r n) 12)) (K1 (bC r n) 12) = D16 r n bXu (xs x0 0 (K1 (bC r n) 12)) (K4 (vF r n) 11 12 42 48) :=
 congrArg (fun k => D16 r n bXu (xs x0 0 (K1 (bC r n) 12)) k) (cMi r n)
theorem cSt : D16 r n uY (xs x0 0 (K1 (bC r n) 12)) (K1 (bC r n) 12) = (K3 (cPs r n) 11 12 42) :=
 (cIq r n).trans
 ((by kernel_rfl))
theorem cXi : D16 r n xZ (xs x0 0 (K1 (bC r n) 12)) (K1 (bC r n) 12) = (K4 (aYh r n) 11 12 42 43) :=
 (by kernel_rfl : D16 r n xZ (xs x0 0 (K1 (bC r n) 12)) (K1 (bC r n) 12) = (fun (env : aZ) (h : Hp) => aS (opr env (cC xZ)) (D16 r n cYc (xs x0 0 (K1 (bC r n) 12)) (K1 (bC r n) 12) env h) (D16 r n uY (xs x0 0 (K1 (bC r n) 12)) (K1 (bC r n) 12) env h))).trans (by rw [cSt r n]; kernel_rfl)
theorem cBp : D16 r n aXe (xs x0 0 (K1 (bC r n) 12)) (K1 (bC r n) 12) = D16 r n bKj (xs x0 0 (K1 (bC r n) 12)) (K4 (aYh r n) 11 12 42 43) :=
 congrArg (fun k => D16 r n bKj (xs x0 0 (K1 (bC r n) 12)) k) (cXi r n)
theorem cYz : D16 r n bKp x0 (K1 (bC r n) 12) = (K3 (bXi r n) 11 12 42) :=
 (by kernel_rfl : D16 r n bKp x0 (K1 (bC r n) 12) = D16 r n aXe (xs x0 0 (K1 (bC r n) 12)) (K1 (bC r n) 12)).trans
 ((cBp r n).trans
 ((by kernel_rfl)))
theorem cBk : D16 r n aWb x0 r16 = D16 r n aMr x0 (K1 (bC r n) 12) :=
 congrArg (fun k => D16 r n aMr x0 k) (cZm r n)
theorem cCt : D16 r n aMr x0 (K1 (bC r n) 12) = D16 r n bVg x0 (K3 (bXi r n) 11 12 42) :=
 congrArg (fun k => D16 r n bVg x0 k) (cYz r n)
theorem dAk : D16 r n aWb x0 r16 = (K3 (bLq r n) 1 11 12) :=
 (cBk r n).trans
 ((cCt r n).trans
 ((by kernel_rfl)))
theorem cKd : D16 r n bBd x0 r16 = D16 r n bNj x0 (K3 (bLq r n) 1 11 12) :=
 congrArg (fun k => D16 r n bNj x0 k) (dAk r n)
theorem dBp : D16 r n bBd x0 r16 = (K2 (nG r n) 1 11) :=
 (cKd r n).trans
 ((by kernel_rfl))
theorem bVw : D16 r n aVe x0 r16 = D16 r n aRc x0 (K2 (nG r n) 1 11) :=
 congrArg (fun k => D16 r n aRc x0 k) (dBp r n)
theorem bOj (q0 : oK) : D16 r n aRc x0 (K2 q0 1 11) = fun (env : aZ) (h : Hp) =>
 bnd (bB [.p0, (aE 0), (aE 0), .l0] [(0, 1, (env 0)), (1, 1, (env 1)), (2, 1, (env 2)), (3, 1, (env 3))] h) fun v1 h1 =>
 bnd (bR v1 h1) fun v2 h2 =>
  q0 (env 1) v2 h2 := by kernel_rfl
theorem bFg : (fun (env : aZ) (h : Hp) =>
 bnd (bB [.p0, (aE 0), (aE 0), .l0] [(0, 1, (env 0)), (1, 1, (env 1)), (2, 1, (env 2)), (3, 1, (env 3))] h) fun v1 h1 =>
 bnd (bR v1 h1) fun v2 h2 =>
  nG r n (env 1) v2 h2) = (K4 (uV r n) 0 1 2 3) := by kernel_rfl
theorem cTk : D16 r n aVe x0 r16 = (K4 (uV r n) 0 1 2 3) :=
 (bVw r n).trans
 ((bOj r n (nG r n)).trans (bFg r n))
theorem bYx : D16 r n aVd x0 r16 = D16 r n bTo x0 (K4 (uV r n) 0 1 2 3) :=
 congrArg (fun k => D16 r n bTo x0 k) (cTk r n)
theorem cSl : D16 r n aVd x0 r16 = (K5 (aAh r n) 0 1 2 3 10) :=
 (bYx r n).trans
 ((by kernel_rfl))
theorem bXk : D16 r n aVm x0 r16 = D16 r n aSb x0 (K5 (aAh r n) 0 1 2 3 10) :=
 congrArg (fun k => D16 r n aSb x0 k) (cSl r n)
theorem bWa (q0 : cG) : D16 r n aSb x0 (K5 q0 0 1 2 3 10) = fun (env : aZ) (h : Hp) =>
 bnd (r 23 [(env 0)] h) fun v1 h1 =>
 bnd (bL [.p0] h1) fun v2 h2 =>
 bnd (aG 1 v2 v1 h2) fun _ h3 =>
  q0 (env 0) (env 1) (env 2) (env 3) v2 h3 := by kernel_rfl
theorem bCd : (fun (env : aZ) (h : Hp) =>
 bnd (r 23 [(env 0)] h) fun v1 h1 =>
 bnd (bL [.p0] h1) fun v2 h2 =>
 bnd (aG 1 v2 v1 h2) fun _ h3 =>
  aAh r n (env 0) (env 1) (env 2) (env 3) v2 h3) = (K4 (aKy r n) 0 1 2 3) := by kernel_rfl
theorem cTz : D16 r n aVm x0 r16 = (K4 (aKy r n) 0 1 2 3) :=
 (bXk r n).trans
 ((bWa r n (aAh r n)).trans (bCd r n))
theorem cWx : D16 r n c16 x0 r16 = D16 r n bKv x0 (K4 (aKy r n) 0 1 2 3) :=
 congrArg (fun k => D16 r n bKv x0 k) (cTz r n)
theorem dMv : D16 r n c16 x0 r16 = (K4 (s16 r n) 0 1 2 3) :=
 (cWx r n).trans
 ((by kernel_rfl))
theorem cPq : aF CF r n 16 args h = s16 r n (aR args 0) (aR args 1) (aR args 2) (aR args 3) h :=
 (by kernel_rfl : aF CF r n 16 args h = D16 r n c16 x0 r16 (aH args) h).trans ((congrFun (congrFun (dMv r n) (aH args)) h).trans (by kernel_rfl))
noncomputable def s17 (r : RT) (n : Nat) (x0 : DV) (h0 : Hp) : aI :=
 aS x0 (
 some ((aE 2), h0)) (
 some ((aE 4), h0))
noncomputable abbrev c17 : Code := cf Tryz.f17
noncomputable abbrev r17 : K := aU CF Tryz.f17
noncomputable def D17 (r : RT) (n : Nat) (c : Code) (X : Nat → K) (k : K) : K := aM CF r 4 n c X r17 k
theorem dKd : D17 r n c17 x0 r17 = (K1 (s17 r n) 0) :=
 (by kernel_rfl)
theorem dGu : aF CF r n 17 args h = s17 r n (aR args 0) h :=
 (by kernel_rfl : aF CF r n 17 args h = D17 r n c17 x0 r17 (aH args) h).trans ((congrFun (congrFun (dKd r n) (aH args)) h).trans (by kernel_rfl))
noncomputable def s23 (r : RT) (n : Nat) (x0 : DV) (h0 : Hp) : aI :=
 bnd (aO x0 h0) fun v1 h1 =>
 bnd (aB 0 v1 h1) fun v2 h2 =>
 bnd (aA v2 h2) fun v3 h3 =>
 some (v3, h3)
noncomputable abbrev c23 : Code := cf Tryz.f23
noncomputable abbrev r23 : K := aU CF Tryz.f23
noncomputable def D23 (r : RT) (n : Nat) (c : Code) (X : Nat → K) (k : K) : K := aM CF r 7 n c X r23 k
theorem dMu : D23 r n c23 x0 r23 = (K1 (s23 r n) 0) :=
 (by kernel_rfl)
theorem cPj : aF CF r n 23 args h = s23 r n (aR args 0) h :=
 (by kernel_rfl : aF CF r n 23 args h = D23 r n c23 x0 r23 (aH args) h).trans ((congrFun (congrFun (dMu r n) (aH args)) h).trans (by kernel_rfl))
noncomputable def s25 (r : RT) (n : Nat) (x0 x1 : DV) (h0 : Hp) : aI :=
 bnd (aO x0 h0) fun v1 h1 =>
 bnd (aB 0 v1 h1) fun v2 h2 =>
 bnd (aA v2 h2) fun v3 h3 =>
 bnd (isF [v3, x1] h3) fun v4 h4 =>
 aS v4 (
 bnd (aO x0 h4) fun v5 h5 =>
 bnd (aB 0 v5 h5) fun v6 h6 =>
 bnd (aA v6 h6) fun v7 h7 =>
 bnd (iO [v7, x1] h7) fun v8 h8 =>
 some (v8, h8)) (
 bnd (eM [x1] h4) fun v9 h9 =>
 aS v9 (
 bnd (r 30 [x0, (aE 7)] h9) fun v10 h10 =>
 some (v10, h10)) (
 bnd (aD .eql x1 (aE 0) h9) fun v11 h11 =>
 aS v11 (
 bnd (r 30 [x0, (aE 2)] h11) fun v12 h12 =>
 some (v12, h12)) (
 bnd (aD .eql x1 (aE 2) h11) fun v13 h13 =>
 aS v13 (
 bnd (r 30 [x0, (aE 4)] h13) fun v14 h14 =>
 some (v14, h14)) (
 bnd (aD .eql x1 (aE 4) h13) fun v15 h15 =>
 aS v15 (
 bnd (r 30 [x0, (aE 5)] h15) fun v16 h16 =>
 some (v16, h16)) (
 some ((aE 0), h15))))))
noncomputable abbrev c25 : Code := cf Tryz.f25
noncomputable abbrev r25 : K := aU CF Tryz.f25
noncomputable def D25 (r : RT) (n : Nat) (c : Code) (X : Nat → K) (k : K) : K := aM CF r 38 n c X r25 k
theorem dNz : D25 r n c25 x0 r25 = (K2 (s25 r n) 0 1) :=
 (by kernel_rfl)
theorem cPv : aF CF r n 25 args h = s25 r n (aR args 0) (aR args 1) h :=
 (by kernel_rfl : aF CF r n 25 args h = D25 r n c25 x0 r25 (aH args) h).trans ((congrFun (congrFun (dNz r n) (aH args)) h).trans (by kernel_rfl))
noncomputable def s26 (r : RT) (n : Nat) (x0 x1 : DV) (h0 : Hp) : aI :=
 bnd (r 25 [x0, x1] h0) fun v1 h1 =>
 bnd (r 23 [x0] h1) fun v2 h2 =>
 bnd (isF [v2, x1] h2) fun v3 h3 =>
 bnd (gD v3 true (some (v1, h3)) h3) fun v4 h4 =>
 bnd (gD v3 true (some (x0, h4)) h4) fun v5 h5 =>
 bnd (gD v3 true (r 30 [v5, (aE 9)] h5) h5) fun v6 h6 =>
 bnd (gD v3 true (aD .eql v4 v6 h6) h6) fun v7 h7 =>
 bnd (gD v3 true (some (v7, h7)) h7) fun v8 h8 =>
 bnd (gD v8 false (some (v1, h8)) h8) fun v9 h9 =>
 bnd (gD v8 false (some (x0, h9)) h9) fun v10 h10 =>
 bnd (gD v8 false (r 30 [v10, (aE 10)] h10) h10) fun v11 h11 =>
 bnd (gD v8 false (aD .eql v9 v11 h11) h11) fun v12 h12 =>
 bnd (gD v3 true (aP v8 (.b true) v12 h12) h12) fun v13 h13 =>
 bnd (gD v3 true (some (v13, h13)) h13) fun v14 h14 =>
 bnd (gD v14 false (some (v1, h14)) h14) fun v15 h15 =>
 bnd (gD v14 false (some (x0, h15)) h15) fun v16 h16 =>
 bnd (gD v14 false (r 30 [v16, (aE 11)] h16) h16) fun v17 h17 =>
 bnd (gD v14 false (aD .eql v15 v17 h17) h17) fun v18 h18 =>
 bnd (gD v3 true (aP v14 (.b true) v18 h18) h18) fun v19 h19 =>
 bnd (aP v3 v19 (.b false) h19) fun v20 h20 =>
 bnd (gD v20 true (some (v1, h20)) h20) fun v21 h21 =>
 bnd (gD v20 true (some (x0, h21)) h21) fun v22 h22 =>
 bnd (gD v20 true (r 30 [v22, (aE 9)] h22) h22) fun v23 h23 =>
 bnd (gD v20 true (aD .eql v21 v23 h23) h23) fun v24 h24 =>
 bnd (aP v20 v24 (.b false) h24) fun v25 h25 =>
 some (.t [v20, v25], h25)
noncomputable abbrev c26 : Code := cf Tryz.f26
noncomputable abbrev r26 : K := aU CF Tryz.f26
noncomputable def D26 (r : RT) (n : Nat) (c : Code) (X : Nat → K) (k : K) : K := aM CF r 41 n c X r26 k
theorem dNb : D26 r n c26 x0 r26 = (K2 (s26 r n) 0 1) :=
 (by kernel_rfl)
theorem cQi : aF CF r n 26 args h = s26 r n (aR args 0) (aR args 1) h :=
 (by kernel_rfl : aF CF r n 26 args h = D26 r n c26 x0 r26 (aH args) h).trans ((congrFun (congrFun (dNb r n) (aH args)) h).trans (by kernel_rfl))
noncomputable def fX (r : RT) (n : Nat) (x5 : DV) (h0 : Hp) : aI :=
 some (x5, h0)
noncomputable def aOz (r : RT) (n : Nat) (kk5 : dJ) (x0 x1 x5 x6 : DV) (h0 : Hp) : aI :=
 bnd (r 23 [x0] h0) fun v1 h1 =>
 bnd (eJ [v1, x1] h1) fun v2 h2 =>
 bnd (aD .lss x6 v2 h2) fun v3 h3 =>
 aS v3 (
 bnd (r 23 [x0] h3) fun v4 h4 =>
 bnd (oZ [v4, x1, x6] h4) fun v5 h5 =>
 bnd (aC 0 v5 h5) fun v6 h6 =>
 bnd (aC 1 v5 h6) fun v7 h7 =>
 bnd (aL [(aE 0)] 1 [(0, 1, v6)] h7) fun v8 h8 =>
 bnd (bA 1 8 x5 v8 h8) fun v9 h9 =>
 bnd (aD .add x6 (aE 1) h9) fun v10 h10 =>
      kk5 x0 x1 v9 v10 h10) (
      fX r n x5 h3)
noncomputable def aFc (r : RT) (n : Nat) (m : Nat) : dJ :=
 Nat.rec (motive := fun _ => dJ) (fun _ _ _ _ _ => none) (fun _ ih => aOz r n ih) m
noncomputable def cQx (r : RT) (n : Nat) : dJ := aFc r n n
noncomputable def bRo (r : RT) (n : Nat) (x0 x1 x5 x6 : DV) (h0 : Hp) : aI :=
 cQx r n x0 x1 x5 x6 h0
noncomputable def bTl (r : RT) (n : Nat) (x0 x1 x5 : DV) (h0 : Hp) : aI :=
 bRo r n x0 x1 x5 (aE 0) h0
noncomputable def bGc (r : RT) (n : Nat) (x0 x1 : DV) (h0 : Hp) : aI :=
 bTl r n x0 x1 .l0 h0
noncomputable def s29 (r : RT) (n : Nat) (x0 x1 : DV) (h0 : Hp) : aI :=
 bGc r n x0 x1 h0
noncomputable abbrev c29 : Code := cf Tryz.f29
noncomputable abbrev aXa : Code := cR c29
noncomputable abbrev aVv : Code := cR aXa
noncomputable abbrev dFd : Code := cR aVv
noncomputable abbrev aMl : Code := cL aVv
noncomputable abbrev cAf : Code := cR aMl
noncomputable abbrev bBl : Code := cL cAf
noncomputable abbrev sB : Code := cL bBl
noncomputable abbrev cPz : Code := cL aMl
noncomputable abbrev cPu : Code := cL aXa
noncomputable abbrev bPw : Code := cL c29
noncomputable abbrev r29 : K := aU CF Tryz.f29
noncomputable def D29 (r : RT) (n : Nat) (c : Code) (X : Nat → K) (k : K) : K := aM CF r 30 n c X r29 k
theorem cRx : D29 r n dFd x0 r29 = (K1 (fX r n) 5) :=
 (by kernel_rfl)
theorem cAw (kk5 : dJ) (q0 : TT1) : D29 r n sB (xs x0 0 (K1 q0 5)) (K4 kk5 0 1 5 6) = fun (env : aZ) (h : Hp) =>
 bnd (r 23 [(env 0)] h) fun v1 h1 =>
 bnd (eJ [v1, (env 1)] h1) fun v2 h2 =>
 bnd (aD .lss (env 6) v2 h2) fun v3 h3 =>
 aS v3 (
 bnd (r 23 [(env 0)] h3) fun v4 h4 =>
 bnd (oZ [v4, (env 1), (env 6)] h4) fun v5 h5 =>
 bnd (aC 0 v5 h5) fun v6 h6 =>
 bnd (aC 1 v5 h6) fun v7 h7 =>
 bnd (aL [(aE 0)] 1 [(0, 1, v6)] h7) fun v8 h8 =>
 bnd (bA 1 8 (env 5) v8 h8) fun v9 h9 =>
 bnd (aD .add (env 6) (aE 1) h9) fun v10 h10 =>
      kk5 (env 0) (env 1) v9 v10 h10) (
      q0 (env 5) h3) := by kernel_rfl
theorem bUk (kk5 : dJ) : (fun (env : aZ) (h : Hp) =>
 bnd (r 23 [(env 0)] h) fun v1 h1 =>
 bnd (eJ [v1, (env 1)] h1) fun v2 h2 =>
 bnd (aD .lss (env 6) v2 h2) fun v3 h3 =>
 aS v3 (
 bnd (r 23 [(env 0)] h3) fun v4 h4 =>
 bnd (oZ [v4, (env 1), (env 6)] h4) fun v5 h5 =>
 bnd (aC 0 v5 h5) fun v6 h6 =>
 bnd (aC 1 v5 h6) fun v7 h7 =>
 bnd (aL [(aE 0)] 1 [(0, 1, v6)] h7) fun v8 h8 =>
 bnd (bA 1 8 (env 5) v8 h8) fun v9 h9 =>
 bnd (aD .add (env 6) (aE 1) h9) fun v10 h10 =>
      kk5 (env 0) (env 1) v9 v10 h10) (
      fX r n (env 5) h3)) = (K4 (aOz r n kk5) 0 1 5 6) := by kernel_rfl
theorem cHj (kk5 : dJ) : D29 r n sB (xs x0 0 (K1 (fX r n) 5)) (K4 kk5 0 1 5 6) = (K4 (aOz r n kk5) 0 1 5 6) :=
 (cAw r n kk5 (fX r n)).trans (bUk r n kk5)
theorem cGg (m : Nat) : aN (fun kk => D29 r n sB (xs x0 0 (K1 (fX r n) 5)) kk) m = (K4 (aFc r n m) 0 1 5 6) := by
 induction m with
 | zero => exact (by kernel_rfl : aN (fun kk => D29 r n sB (xs x0 0 (K1 (fX r n) 5)) kk) 0 = (K4 (aFc r n 0) 0 1 5 6))
 | succ m ih =>
  refine (by kernel_rfl : aN (fun kk => D29 r n sB (xs x0 0 (K1 (fX r n) 5)) kk) (m + 1) = D29 r n sB (xs x0 0 (K1 (fX r n) 5)) (aN (fun kk => D29 r n sB (xs x0 0 (K1 (fX r n) 5)) kk) m)).trans ?_
  rw [ih]
  exact (cHj r n (aFc r n m)).trans (by kernel_rfl)
theorem dCc : D29 r n bBl (xs x0 0 (K1 (fX r n) 5)) (K1 (fX r n) 5) = (K4 (cQx r n) 0 1 5 6) :=
 (by kernel_rfl : D29 r n bBl (xs x0 0 (K1 (fX r n) 5)) (K1 (fX r n) 5) = aN (fun kk => D29 r n sB (xs x0 0 (K1 (fX r n) 5)) kk) n).trans ((cGg r n n).trans (by kernel_rfl))
theorem cSe : D29 r n cAf x0 (K1 (fX r n) 5) = (K4 (bRo r n) 0 1 5 6) :=
 (by kernel_rfl : D29 r n cAf x0 (K1 (fX r n) 5) = D29 r n bBl (xs x0 0 (K1 (fX r n) 5)) (K1 (fX r n) 5)).trans
 ((dCc r n).trans (by kernel_rfl))
theorem cLx : D29 r n aVv x0 r29 = D29 r n aMl x0 (K1 (fX r n) 5) :=
 congrArg (fun k => D29 r n aMl x0 k) (cRx r n)
theorem cBj : D29 r n aMl x0 (K1 (fX r n) 5) = D29 r n cPz x0 (K4 (bRo r n) 0 1 5 6) :=
 congrArg (fun k => D29 r n cPz x0 k) (cSe r n)
theorem cXf : D29 r n aVv x0 r29 = (K3 (bTl r n) 0 1 5) :=
 (cLx r n).trans
 ((cBj r n).trans
 ((by kernel_rfl)))
theorem cIs : D29 r n aXa x0 r29 = D29 r n cPu x0 (K3 (bTl r n) 0 1 5) :=
 congrArg (fun k => D29 r n cPu x0 k) (cXf r n)
theorem dCf : D29 r n aXa x0 r29 = (K2 (bGc r n) 0 1) :=
 (cIs r n).trans
 ((by kernel_rfl))
theorem dIp : D29 r n c29 x0 r29 = D29 r n bPw x0 (K2 (bGc r n) 0 1) :=
 congrArg (fun k => D29 r n bPw x0 k) (dCf r n)
theorem dOv : D29 r n c29 x0 r29 = (K2 (s29 r n) 0 1) :=
 (dIp r n).trans
 ((by kernel_rfl))
theorem dDg : aF CF r n 29 args h = s29 r n (aR args 0) (aR args 1) h :=
 (by kernel_rfl : aF CF r n 29 args h = D29 r n c29 x0 r29 (aH args) h).trans ((congrFun (congrFun (dOv r n) (aH args)) h).trans (by kernel_rfl))
noncomputable def s30 (r : RT) (n : Nat) (x0 x1 : DV) (h0 : Hp) : aI :=
 bnd (aD .lss x1 (aE 0) h0) fun v1 h1 =>
 bnd (gD v1 false (some (x1, h1)) h1) fun v2 h2 =>
 bnd (gD v1 false (aD .geq v2 (aE 16) h2) h2) fun v3 h3 =>
 bnd (aP v1 (.b true) v3 h3) fun v4 h4 =>
 aS v4 (
 some ((aE 0), h4)) (
 bnd (aO x0 h4) fun v5 h5 =>
 bnd (aB 1 v5 h5) fun v6 h6 =>
 bnd (aA v6 h6) fun v7 h7 =>
 bnd (aD .add (aE 2) x1 h7) fun v8 h8 =>
 bnd (aJ 1 v7 v8 h8) fun v9 h9 =>
 bnd (aA v9 h9) fun v10 h10 =>
 some (v10, h10))
noncomputable abbrev c30 : Code := cf Tryz.f30
noncomputable abbrev r30 : K := aU CF Tryz.f30
noncomputable def D30 (r : RT) (n : Nat) (c : Code) (X : Nat → K) (k : K) : K := aM CF r 19 n c X r30 k
theorem dLq : D30 r n c30 x0 r30 = (K2 (s30 r n) 0 1) :=
 (by kernel_rfl)
theorem bOv : aF CF r n 30 args h = s30 r n (aR args 0) (aR args 1) h :=
 (by kernel_rfl : aF CF r n 30 args h = D30 r n c30 x0 r30 (aH args) h).trans ((congrFun (congrFun (dLq r n) (aH args)) h).trans (by kernel_rfl))
noncomputable def s32 (r : RT) (n : Nat) (x0 x1 : DV) (h0 : Hp) : aI :=
 bnd (r 67 [x0, x1] h0) fun v1 h1 =>
 bnd (gX .not v1 h1) fun v2 h2 =>
 aS v2 (
 some ((.i .i64 (Int.negSucc 0)), h2)) (
 bnd (r 51 [x0, x1, (aE 5)] h2) fun v3 h3 =>
 bnd (jF [v3] h3) fun v4 h4 =>
 some (v4, h4))
noncomputable abbrev c32 : Code := cf Tryz.f32
noncomputable abbrev r32 : K := aU CF Tryz.f32
noncomputable def D32 (r : RT) (n : Nat) (c : Code) (X : Nat → K) (k : K) : K := aM CF r 13 n c X r32 k
theorem dKw : D32 r n c32 x0 r32 = (K2 (s32 r n) 0 1) :=
 (by kernel_rfl)
theorem dJp : aF CF r n 32 args h = s32 r n (aR args 0) (aR args 1) h :=
 (by kernel_rfl : aF CF r n 32 args h = D32 r n c32 x0 r32 (aH args) h).trans ((congrFun (congrFun (dKw r n) (aH args)) h).trans (by kernel_rfl))
noncomputable def fV (r : RT) (n : Nat) (x7 : DV) (h0 : Hp) : aI :=
 bnd (gP x7 h0) fun v1 h1 =>
 some (.t [v1, (.b true)], h1)
noncomputable def aPg (r : RT) (n : Nat) (kk7 : cG) (x0 x1 x7 x48 x49 : DV) (h0 : Hp) : aI :=
 bnd (aD .lss x49 x48 h0) fun v1 h1 =>
 aS v1 (
 bnd (r 51 [x0, x1, x49] h1) fun v2 h2 =>
 bnd (eC .u8 v2 h2) fun v3 h3 =>
 bnd (aL [(.i .u8 (Int.ofNat 0))] 1 [(0, 1, v3)] h3) fun v4 h4 =>
 bnd (bA 1 1 x7 v4 h4) fun v5 h5 =>
 bnd (aD .add x49 (aE 1) h5) fun v6 h6 =>
      kk7 x0 x1 v5 x48 v6 h6) (
      fV r n x7 h1)
noncomputable def aAv (r : RT) (n : Nat) (m : Nat) : cG :=
 Nat.rec (motive := fun _ => cG) (fun _ _ _ _ _ _ => none) (fun _ ih => aPg r n ih) m
noncomputable def cQc (r : RT) (n : Nat) : cG := aAv r n n
noncomputable def bYl (r : RT) (n : Nat) (x0 x1 x7 x48 x49 : DV) (h0 : Hp) : aI :=
 cQc r n x0 x1 x7 x48 x49 h0
noncomputable def bTt (r : RT) (n : Nat) (x0 x1 x7 : DV) (h0 : Hp) : aI :=
 bnd (aO x0 h0) fun v1 h1 =>
 bnd (aB 0 v1 h1) fun v2 h2 =>
 bnd (aA v2 h2) fun v3 h3 =>
 bnd (eJ [v3, x1] h3) fun v4 h4 =>
  bYl r n x0 x1 x7 v4 (aE 0) h4
noncomputable def bVv (r : RT) (n : Nat) (x0 x1 : DV) (h0 : Hp) : aI :=
 bTt r n x0 x1 .l0 h0
noncomputable def bVc (r : RT) (n : Nat) (x0 x1 x6 : DV) (h0 : Hp) : aI :=
 bnd (aO x0 h0) fun v1 h1 =>
 bnd (aB 0 v1 h1) fun v2 h2 =>
 bnd (aA v2 h2) fun v3 h3 =>
 bnd (isF [v3, x1] h3) fun v4 h4 =>
 bnd (gX .not v4 h4) fun v5 h5 =>
 bnd (gD v5 false (some (x6, h5)) h5) fun v6 h6 =>
 bnd (gD v5 false (some (x0, h6)) h6) fun v7 h7 =>
 bnd (gD v5 false (r 30 [v7, (aE 10)] h7) h7) fun v8 h8 =>
 bnd (gD v5 false (aD .neq v6 v8 h8) h8) fun v9 h9 =>
 bnd (gD v5 false (some (v9, h9)) h9) fun v10 h10 =>
 bnd (gD v10 true (some (x6, h10)) h10) fun v11 h11 =>
 bnd (gD v10 true (some (x0, h11)) h11) fun v12 h12 =>
 bnd (gD v10 true (r 30 [v12, (aE 11)] h12) h12) fun v13 h13 =>
 bnd (gD v10 true (aD .neq v11 v13 h13) h13) fun v14 h14 =>
 bnd (gD v5 false (aP v10 v14 (.b false) h14) h14) fun v15 h15 =>
 bnd (aP v5 (.b true) v15 h15) fun v16 h16 =>
 bnd (gD v16 false (some (x0, h16)) h16) fun v17 h17 =>
 bnd (gD v16 false (aO v17 h17) h17) fun v18 h18 =>
 bnd (gD v16 false (aB 0 v18 h18) h18) fun v19 h19 =>
 bnd (gD v16 false (aA v19 h19) h19) fun v20 h20 =>
 bnd (gD v16 false (some (x1, h20)) h20) fun v21 h21 =>
 bnd (gD v16 false (jP [v20, v21] h21) h21) fun v22 h22 =>
 bnd (gD v16 false (aD .neq v22 (aE 2) h22) h22) fun v23 h23 =>
 bnd (aP v16 (.b true) v23 h23) fun v24 h24 =>
 aS v24 (
 some (.t [(.s []), (.b false)], h24)) (
  bVv r n x0 x1 h24)
noncomputable def bMy (r : RT) (n : Nat) (x0 x1 : DV) (h0 : Hp) : aI :=
 bnd (aO x0 h0) fun v1 h1 =>
 bnd (aB 0 v1 h1) fun v2 h2 =>
 bnd (aA v2 h2) fun v3 h3 =>
 bnd (iO [v3, x1] h3) fun v4 h4 =>
  bVc r n x0 x1 v4 h4
noncomputable def s33 (r : RT) (n : Nat) (x0 x1 : DV) (h0 : Hp) : aI :=
 bMy r n x0 x1 h0
noncomputable abbrev c33 : Code := cf Tryz.f33
noncomputable abbrev aZs : Code := cR c33
noncomputable abbrev aVp : Code := cR aZs
noncomputable abbrev aWe : Code := cR aVp
noncomputable abbrev bBa : Code := cR aWe
noncomputable abbrev dIa : Code := cR bBa
noncomputable abbrev aMu : Code := cL bBa
noncomputable abbrev bKk : Code := cR aMu
noncomputable abbrev bAz : Code := cL bKk
noncomputable abbrev rX : Code := cL bAz
noncomputable abbrev bPc : Code := cL aMu
noncomputable abbrev bNk : Code := cL aWe
noncomputable abbrev bIi : Code := cL aVp
noncomputable abbrev bQx : Code := cL aZs
noncomputable abbrev bNn : Code := cL c33
noncomputable abbrev r33 : K := aU CF Tryz.f33
noncomputable def D33 (r : RT) (n : Nat) (c : Code) (X : Nat → K) (k : K) : K := aM CF r 63 n c X r33 k
theorem cUf : D33 r n dIa x0 r33 = (K1 (fV r n) 7) :=
 (by kernel_rfl)
theorem cHk (kk7 : cG) (q0 : TT1) : D33 r n rX (xs x0 0 (K1 q0 7)) (K5 kk7 0 1 7 48 49) = fun (env : aZ) (h : Hp) =>
 bnd (aD .lss (env 49) (env 48) h) fun v1 h1 =>
 aS v1 (
 bnd (r 51 [(env 0), (env 1), (env 49)] h1) fun v2 h2 =>
 bnd (eC .u8 v2 h2) fun v3 h3 =>
 bnd (aL [(.i .u8 (Int.ofNat 0))] 1 [(0, 1, v3)] h3) fun v4 h4 =>
 bnd (bA 1 1 (env 7) v4 h4) fun v5 h5 =>
 bnd (aD .add (env 49) (aE 1) h5) fun v6 h6 =>
      kk7 (env 0) (env 1) v5 (env 48) v6 h6) (
      q0 (env 7) h1) := by kernel_rfl
theorem bGu (kk7 : cG) : (fun (env : aZ) (h : Hp) =>
 bnd (aD .lss (env 49) (env 48) h) fun v1 h1 =>
 aS v1 (
 bnd (r 51 [(env 0), (env 1), (env 49)] h1) fun v2 h2 =>
 bnd (eC .u8 v2 h2) fun v3 h3 =>
 bnd (aL [(.i .u8 (Int.ofNat 0))] 1 [(0, 1, v3)] h3) fun v4 h4 =>
 bnd (bA 1 1 (env 7) v4 h4) fun v5 h5 =>
 bnd (aD .add (env 49) (aE 1) h5) fun v6 h6 =>
      kk7 (env 0) (env 1) v5 (env 48) v6 h6) (
      fV r n (env 7) h1)) = (K5 (aPg r n kk7) 0 1 7 48 49) := by kernel_rfl
theorem cEj (kk7 : cG) : D33 r n rX (xs x0 0 (K1 (fV r n) 7)) (K5 kk7 0 1 7 48 49) = (K5 (aPg r n kk7) 0 1 7 48 49) :=
 (cHk r n kk7 (fV r n)).trans (bGu r n kk7)
theorem cKl (m : Nat) : aN (fun kk => D33 r n rX (xs x0 0 (K1 (fV r n) 7)) kk) m = (K5 (aAv r n m) 0 1 7 48 49) := by
 induction m with
 | zero => exact (by kernel_rfl : aN (fun kk => D33 r n rX (xs x0 0 (K1 (fV r n) 7)) kk) 0 = (K5 (aAv r n 0) 0 1 7 48 49))
 | succ m ih =>
  refine (by kernel_rfl : aN (fun kk => D33 r n rX (xs x0 0 (K1 (fV r n) 7)) kk) (m + 1) = D33 r n rX (xs x0 0 (K1 (fV r n) 7)) (aN (fun kk => D33 r n rX (xs x0 0 (K1 (fV r n) 7)) kk) m)).trans ?_
  rw [ih]
  exact (cEj r n (aAv r n m)).trans (by kernel_rfl)
theorem cVt : D33 r n bAz (xs x0 0 (K1 (fV r n) 7)) (K1 (fV r n) 7) = (K5 (cQc r n) 0 1 7 48 49) :=
 (by kernel_rfl : D33 r n bAz (xs x0 0 (K1 (fV r n) 7)) (K1 (fV r n) 7) = aN (fun kk => D33 r n rX (xs x0 0 (K1 (fV r n) 7)) kk) n).trans ((cKl r n n).trans (by kernel_rfl))
theorem cUq : D33 r n bKk x0 (K1 (fV r n) 7) = (K5 (bYl r n) 0 1 7 48 49) :=
 (by kernel_rfl : D33 r n bKk x0 (K1 (fV r n) 7) = D33 r n bAz (xs x0 0 (K1 (fV r n) 7)) (K1 (fV r n) 7)).trans
 ((cVt r n).trans (by kernel_rfl))
theorem cNm : D33 r n bBa x0 r33 = D33 r n aMu x0 (K1 (fV r n) 7) :=
 congrArg (fun k => D33 r n aMu x0 k) (cUf r n)
theorem cIl : D33 r n aMu x0 (K1 (fV r n) 7) = D33 r n bPc x0 (K5 (bYl r n) 0 1 7 48 49) :=
 congrArg (fun k => D33 r n bPc x0 k) (cUq r n)
theorem cWg : D33 r n bBa x0 r33 = (K3 (bTt r n) 0 1 7) :=
 (cNm r n).trans
 ((cIl r n).trans
 ((by kernel_rfl)))
theorem cGb : D33 r n aWe x0 r33 = D33 r n bNk x0 (K3 (bTt r n) 0 1 7) :=
 congrArg (fun k => D33 r n bNk x0 k) (cWg r n)
theorem cYu : D33 r n aWe x0 r33 = (K2 (bVv r n) 0 1) :=
 (cGb r n).trans
 ((by kernel_rfl))
theorem cJk : D33 r n aVp x0 r33 = D33 r n bIi x0 (K2 (bVv r n) 0 1) :=
 congrArg (fun k => D33 r n bIi x0 k) (cYu r n)
theorem cTx : D33 r n aVp x0 r33 = (K3 (bVc r n) 0 1 6) :=
 (cJk r n).trans
 ((by kernel_rfl))
theorem cOf : D33 r n aZs x0 r33 = D33 r n bQx x0 (K3 (bVc r n) 0 1 6) :=
 congrArg (fun k => D33 r n bQx x0 k) (cTx r n)
theorem cRm : D33 r n aZs x0 r33 = (K2 (bMy r n) 0 1) :=
 (cOf r n).trans
 ((by kernel_rfl))
theorem dGp : D33 r n c33 x0 r33 = D33 r n bNn x0 (K2 (bMy r n) 0 1) :=
 congrArg (fun k => D33 r n bNn x0 k) (cRm r n)
theorem dMt : D33 r n c33 x0 r33 = (K2 (s33 r n) 0 1) :=
 (dGp r n).trans
 ((by kernel_rfl))
theorem dCs : aF CF r n 33 args h = s33 r n (aR args 0) (aR args 1) h :=
 (by kernel_rfl : aF CF r n 33 args h = D33 r n c33 x0 r33 (aH args) h).trans ((congrFun (congrFun (dMt r n) (aH args)) h).trans (by kernel_rfl))
noncomputable def s34 (r : RT) (n : Nat) (x0 x1 : DV) (h0 : Hp) : aI :=
 bnd (r 67 [x0, x1] h0) fun v1 h1 =>
 bnd (gX .not v1 h1) fun v2 h2 =>
 aS v2 (
 some ((.s []), h2)) (
 bnd (r 51 [x0, x1, (aE 0)] h2) fun v3 h3 =>
 bnd (r 33 [x0, v3] h3) fun v4 h4 =>
 bnd (aC 0 v4 h4) fun v5 h5 =>
 bnd (aC 1 v4 h5) fun v6 h6 =>
 some (v5, h6))
noncomputable abbrev c34 : Code := cf Tryz.f34
noncomputable abbrev r34 : K := aU CF Tryz.f34
noncomputable def D34 (r : RT) (n : Nat) (c : Code) (X : Nat → K) (k : K) : K := aM CF r 20 n c X r34 k
theorem dOo : D34 r n c34 x0 r34 = (K2 (s34 r n) 0 1) :=
 (by kernel_rfl)
theorem dDj : aF CF r n 34 args h = s34 r n (aR args 0) (aR args 1) h :=
 (by kernel_rfl : aF CF r n 34 args h = D34 r n c34 x0 r34 (aH args) h).trans ((congrFun (congrFun (dOo r n) (aH args)) h).trans (by kernel_rfl))
noncomputable def s35 (r : RT) (n : Nat) (x0 x1 : DV) (h0 : Hp) : aI :=
 bnd (r 67 [x0, x1] h0) fun v1 h1 =>
 bnd (gX .not v1 h1) fun v2 h2 =>
 aS v2 (
 some ((aE 0), h2)) (
 bnd (r 51 [x0, x1, (aE 1)] h2) fun v3 h3 =>
 some (v3, h3))
noncomputable abbrev c35 : Code := cf Tryz.f35
noncomputable abbrev r35 : K := aU CF Tryz.f35
noncomputable def D35 (r : RT) (n : Nat) (c : Code) (X : Nat → K) (k : K) : K := aM CF r 12 n c X r35 k
theorem dNw : D35 r n c35 x0 r35 = (K2 (s35 r n) 0 1) :=
 (by kernel_rfl)
theorem dDd : aF CF r n 35 args h = s35 r n (aR args 0) (aR args 1) h :=
 (by kernel_rfl : aF CF r n 35 args h = D35 r n c35 x0 r35 (aH args) h).trans ((congrFun (congrFun (dNw r n) (aH args)) h).trans (by kernel_rfl))
noncomputable def s36 (r : RT) (n : Nat) (x0 : DV) (h0 : Hp) : aI :=
 bnd (aO x0 h0) fun v1 h1 =>
 bnd (aB 2 v1 h1) fun v2 h2 =>
 bnd (aA v2 h2) fun v3 h3 =>
 some (v3, h3)
noncomputable abbrev c36 : Code := cf Tryz.f36
noncomputable abbrev r36 : K := aU CF Tryz.f36
noncomputable def D36 (r : RT) (n : Nat) (c : Code) (X : Nat → K) (k : K) : K := aM CF r 7 n c X r36 k
theorem dMa : D36 r n c36 x0 r36 = (K1 (s36 r n) 0) :=
 (by kernel_rfl)
theorem dIr : aF CF r n 36 args h = s36 r n (aR args 0) h :=
 (by kernel_rfl : aF CF r n 36 args h = D36 r n c36 x0 r36 (aH args) h).trans ((congrFun (congrFun (dMa r n) (aH args)) h).trans (by kernel_rfl))
end Go.Dd

namespace Go.Dd
open Go.Proofs
variable (r : RT) (n : Nat) (args : List DV) (h : Hp)
noncomputable def s37 (r : RT) (n : Nat) (x0 x1 : DV) (h0 : Hp) : aI :=
 bnd (r 67 [x0, x1] h0) fun v1 h1 =>
 bnd (gX .not v1 h1) fun v2 h2 =>
 aS v2 (
 some ((aE 0), h2)) (
 bnd (r 51 [x0, x1, (aE 2)] h2) fun v3 h3 =>
 bnd (jF [v3] h3) fun v4 h4 =>
 some (v4, h4))
noncomputable abbrev c37 : Code := cf Tryz.f37
noncomputable abbrev r37 : K := aU CF Tryz.f37
noncomputable def D37 (r : RT) (n : Nat) (c : Code) (X : Nat → K) (k : K) : K := aM CF r 13 n c X r37 k
theorem dOx : D37 r n c37 x0 r37 = (K2 (s37 r n) 0 1) :=
 (by kernel_rfl)
theorem dEp : aF CF r n 37 args h = s37 r n (aR args 0) (aR args 1) h :=
 (by kernel_rfl : aF CF r n 37 args h = D37 r n c37 x0 r37 (aH args) h).trans ((congrFun (congrFun (dOx r n) (aH args)) h).trans (by kernel_rfl))
noncomputable def cQ (r : RT) (n : Nat) (h0 : Hp) : aI :=
 some ((.i .i64 (Int.negSucc 0)), h0)
noncomputable def aKh (r : RT) (n : Nat) (x24 : DV) (h0 : Hp) : aI :=
 aS x24 (
 some ((aE 2), h0)) (
  cQ r n h0)
noncomputable def bJj (r : RT) (n : Nat) (x3 : DV) (h0 : Hp) : aI :=
 bnd (aD .eql x3 (aE 21) h0) fun v1 h1 =>
 aS v1 (
  aKh r n v1 h1) (
 bnd (aD .eql x3 (aE 51) h1) fun v2 h2 =>
  aKh r n v2 h2)
noncomputable def iQ (r : RT) (n : Nat) (x3 x10 : DV) (h0 : Hp) : aI :=
 aS x10 (
 some ((aE 1), h0)) (
  bJj r n x3 h0)
noncomputable def bNq (r : RT) (n : Nat) (x3 : DV) (h0 : Hp) : aI :=
 bnd (aD .eql x3 (aE 1) h0) fun v1 h1 =>
 aS v1 (
  iQ r n x3 v1 h1) (
 bnd (aD .eql x3 (aE 2) h1) fun v2 h2 =>
 aS v2 (
   iQ r n x3 v2 h2) (
 bnd (aD .eql x3 (aE 3) h2) fun v3 h3 =>
 aS v3 (
    iQ r n x3 v3 h3) (
 bnd (aD .eql x3 (aE 4) h3) fun v4 h4 =>
 aS v4 (
     iQ r n x3 v4 h4) (
 bnd (aD .eql x3 (aE 5) h4) fun v5 h5 =>
 aS v5 (
      iQ r n x3 v5 h5) (
 bnd (aD .eql x3 (aE 6) h5) fun v6 h6 =>
 aS v6 (
       iQ r n x3 v6 h6) (
 bnd (aD .eql x3 (aE 7) h6) fun v7 h7 =>
 aS v7 (
        iQ r n x3 v7 h7) (
 bnd (aD .eql x3 (aE 10) h7) fun v8 h8 =>
 aS v8 (
         iQ r n x3 v8 h8) (
 bnd (aD .eql x3 (aE 20) h8) fun v9 h9 =>
 aS v9 (
          iQ r n x3 v9 h9) (
 bnd (aD .eql x3 (aE 24) h9) fun v10 h10 =>
 aS v10 (
           iQ r n x3 v10 h10) (
 bnd (aD .eql x3 (aE 25) h10) fun v11 h11 =>
 aS v11 (
            iQ r n x3 v11 h11) (
 bnd (aD .eql x3 (aE 26) h11) fun v12 h12 =>
 aS v12 (
             iQ r n x3 v12 h12) (
 bnd (aD .eql x3 (aE 50) h12) fun v13 h13 =>
             iQ r n x3 v13 h13))))))))))))
noncomputable def rQ (r : RT) (n : Nat) (x3 x4 : DV) (h0 : Hp) : aI :=
 aS x4 (
 some ((aE 0), h0)) (
  bNq r n x3 h0)
noncomputable def aZv (r : RT) (n : Nat) (x3 : DV) (h0 : Hp) : aI :=
 bnd (aD .eql x3 (aE 11) h0) fun v1 h1 =>
 aS v1 (
  rQ r n x3 v1 h1) (
 bnd (aD .eql x3 (aE 22) h1) fun v2 h2 =>
 aS v2 (
   rQ r n x3 v2 h2) (
 bnd (aD .eql x3 (aE 23) h2) fun v3 h3 =>
 aS v3 (
    rQ r n x3 v3 h3) (
 bnd (aD .eql x3 (aE 40) h3) fun v4 h4 =>
 aS v4 (
     rQ r n x3 v4 h4) (
 bnd (aD .eql x3 (aE 41) h4) fun v5 h5 =>
     rQ r n x3 v5 h5))))
noncomputable def aUz (r : RT) (n : Nat) (x0 : DV) (h0 : Hp) : aI :=
 aZv r n x0 h0
noncomputable def s39 (r : RT) (n : Nat) (x0 : DV) (h0 : Hp) : aI :=
 aUz r n x0 h0
noncomputable abbrev c39 : Code := cf Tryz.f39
noncomputable abbrev aWa : Code := cR c39
noncomputable abbrev dIk : Code := cR aWa
noncomputable abbrev aKu : Code := cL aWa
noncomputable abbrev bKy : Code := cR aKu
noncomputable abbrev aXn : Code := cL bKy
noncomputable abbrev aKt : Code := cR aXn
noncomputable abbrev aKf : Code := cR aKt
noncomputable abbrev aKo : Code := cR aKf
noncomputable abbrev aKg : Code := cR aKo
noncomputable abbrev cRu : Code := cR aKg
noncomputable abbrev bWx : Code := cL aKg
noncomputable abbrev cVl : Code := cL aKo
noncomputable abbrev cAo : Code := cL aKf
noncomputable abbrev dAg : Code := cL aKt
noncomputable abbrev bSx : Code := cL aXn
noncomputable abbrev bUj : Code := cL aKu
noncomputable abbrev bNs : Code := cL c39
noncomputable abbrev r39 : K := aU CF Tryz.f39
noncomputable def D39 (r : RT) (n : Nat) (c : Code) (X : Nat → K) (k : K) : K := aM CF r 27 n c X r39 k
theorem cUn : D39 r n dIk x0 r39 = (K0 (cQ r n)) :=
 (by kernel_rfl)
theorem cYy : D39 r n cRu (xs x0 0 (K0 (cQ r n))) (K0 (cQ r n)) = (K1 (aKh r n) 24) :=
 (by kernel_rfl)
theorem cNp : D39 r n aKg (xs x0 0 (K0 (cQ r n))) (K0 (cQ r n)) = D39 r n bWx (xs x0 0 (K0 (cQ r n))) (K1 (aKh r n) 24) :=
 congrArg (fun k => D39 r n bWx (xs x0 0 (K0 (cQ r n))) k) (cYy r n)
theorem cRi : D39 r n aKg (xs x0 0 (K0 (cQ r n))) (K0 (cQ r n)) = (K1 (bJj r n) 3) :=
 (cNp r n).trans
 ((by kernel_rfl))
theorem cRy : D39 r n aKo (xs x0 0 (K0 (cQ r n))) (K0 (cQ r n)) = (K2 (iQ r n) 3 10) :=
 (by kernel_rfl : D39 r n aKo (xs x0 0 (K0 (cQ r n))) (K0 (cQ r n)) = (fun (env : aZ) (h : Hp) => aS (opr env (cC aKo)) (D39 r n cVl (xs x0 0 (K0 (cQ r n))) (K0 (cQ r n)) env h) (D39 r n aKg (xs x0 0 (K0 (cQ r n))) (K0 (cQ r n)) env h))).trans (by rw [cRi r n]; kernel_rfl)
theorem cOr : D39 r n aKf (xs x0 0 (K0 (cQ r n))) (K0 (cQ r n)) = D39 r n cAo (xs x0 0 (K0 (cQ r n))) (K2 (iQ r n) 3 10) :=
 congrArg (fun k => D39 r n cAo (xs x0 0 (K0 (cQ r n))) k) (cRy r n)
theorem cSf : D39 r n aKf (xs x0 0 (K0 (cQ r n))) (K0 (cQ r n)) = (K1 (bNq r n) 3) :=
 (cOr r n).trans
 ((by kernel_rfl))
theorem cWo : D39 r n aKt (xs x0 0 (K0 (cQ r n))) (K0 (cQ r n)) = (K2 (rQ r n) 3 4) :=
 (by kernel_rfl : D39 r n aKt (xs x0 0 (K0 (cQ r n))) (K0 (cQ r n)) = (fun (env : aZ) (h : Hp) => aS (opr env (cC aKt)) (D39 r n dAg (xs x0 0 (K0 (cQ r n))) (K0 (cQ r n)) env h) (D39 r n aKf (xs x0 0 (K0 (cQ r n))) (K0 (cQ r n)) env h))).trans (by rw [cSf r n]; kernel_rfl)
theorem cLk : D39 r n aXn (xs x0 0 (K0 (cQ r n))) (K0 (cQ r n)) = D39 r n bSx (xs x0 0 (K0 (cQ r n))) (K2 (rQ r n) 3 4) :=
 congrArg (fun k => D39 r n bSx (xs x0 0 (K0 (cQ r n))) k) (cWo r n)
theorem cUw : D39 r n bKy x0 (K0 (cQ r n)) = (K1 (aZv r n) 3) :=
 (by kernel_rfl : D39 r n bKy x0 (K0 (cQ r n)) = D39 r n aXn (xs x0 0 (K0 (cQ r n))) (K0 (cQ r n))).trans
 ((cLk r n).trans
 ((by kernel_rfl)))
theorem cFr : D39 r n aWa x0 r39 = D39 r n aKu x0 (K0 (cQ r n)) :=
 congrArg (fun k => D39 r n aKu x0 k) (cUn r n)
theorem cGx : D39 r n aKu x0 (K0 (cQ r n)) = D39 r n bUj x0 (K1 (aZv r n) 3) :=
 congrArg (fun k => D39 r n bUj x0 k) (cUw r n)
theorem cTl : D39 r n aWa x0 r39 = (K1 (aUz r n) 0) :=
 (cFr r n).trans
 ((cGx r n).trans
 ((by kernel_rfl)))
theorem dIj : D39 r n c39 x0 r39 = D39 r n bNs x0 (K1 (aUz r n) 0) :=
 congrArg (fun k => D39 r n bNs x0 k) (cTl r n)
theorem dLp : D39 r n c39 x0 r39 = (K1 (s39 r n) 0) :=
 (dIj r n).trans
 ((by kernel_rfl))
theorem cQg : aF CF r n 39 args h = s39 r n (aR args 0) h :=
 (by kernel_rfl : aF CF r n 39 args h = D39 r n c39 x0 r39 (aH args) h).trans ((congrFun (congrFun (dLp r n) (aH args)) h).trans (by kernel_rfl))
noncomputable def eZ (r : RT) (n : Nat) (x5 : DV) (h0 : Hp) : aI :=
 some (.t [x5, (aE 0)], h0)
noncomputable def jV (r : RT) (n : Nat) (kk9 : dJ) (x5 x155 x156 x157 : DV) (h0 : Hp) : aI :=
 bnd (aD .lss x157 x156 h0) fun v1 h1 =>
 aS v1 (
 bnd (aJ 1 x155 x157 h1) fun v2 h2 =>
 bnd (aA v2 h2) fun v3 h3 =>
 bnd (aJ 1 v3 (aE 0) h3) fun v4 h4 =>
 bnd (aA v4 h4) fun v5 h5 =>
 bnd (aJ 1 v3 (aE 1) h5) fun v6 h6 =>
 bnd (aA v6 h6) fun v7 h7 =>
 bnd (r 75 [x5, v5, v7] h7) fun v8 h8 =>
 bnd (aC 0 v8 h8) fun v9 h9 =>
 bnd (aC 1 v8 h9) fun v10 h10 =>
 bnd (aC 2 v8 h10) fun v11 h11 =>
 bnd (aC 3 v8 h11) fun v12 h12 =>
 bnd (aD .neq v12 (aE 0) h12) fun v13 h13 =>
 aS v13 (
 some (.t [.p0, v12], h13)) (
 bnd (aD .add x157 (aE 1) h13) fun v14 h14 =>
    kk9 x5 x155 x156 v14 h14)) (
      eZ r n x5 h1)
noncomputable def kA (r : RT) (n : Nat) (m : Nat) : dJ :=
 Nat.rec (motive := fun _ => dJ) (fun _ _ _ _ _ => none) (fun _ ih => jV r n ih) m
noncomputable def aUg (r : RT) (n : Nat) : dJ := kA r n n
noncomputable def bWs (r : RT) (n : Nat) (x5 x155 x156 x157 : DV) (h0 : Hp) : aI :=
 aUg r n x5 x155 x156 x157 h0
noncomputable def bF (r : RT) (n : Nat) (x5 : DV) (h0 : Hp) : aI :=
 bnd (r 74 [] h0) fun v1 h1 =>
 bnd (bZ v1 h1) fun v2 h2 =>
  bWs r n x5 v1 v2 (aE 0) h2
noncomputable def aY (r : RT) (n : Nat) (kk11 : cG) (x4 x5 x59 x60 x61 : DV) (h0 : Hp) : aI :=
 bnd (aD .add x61 (aE 1) h0) fun v1 h1 =>
  kk11 x4 x5 x59 x60 v1 h1
noncomputable def eU (r : RT) (n : Nat) (kk11 : cG) (x4 x5 x8 x9 x59 x60 x61 : DV) (h0 : Hp) : aI :=
 bnd (aO x5 h0) fun v1 h1 =>
 bnd (aB 1 v1 h1) fun v2 h2 =>
 bnd (aA v2 h2) fun v3 h3 =>
 bnd (aO x5 h3) fun v4 h4 =>
 bnd (aB 1 v4 h4) fun v5 h5 =>
 bnd (aA v5 h5) fun v6 h6 =>
 bnd (aJ 1 v6 (aE 1) h6) fun v7 h7 =>
 bnd (aA v7 h7) fun v8 h8 =>
 bnd (r 73 [x5, x9, v8] h8) fun v9 h9 =>
 cnd (bG (aA v2 h9) v3 && true) (
 bnd (aC 0 v9 h9) fun v10 h10 =>
 bnd (aC 1 v9 h10) fun v11 h11 =>
 bnd (aJ 1 v3 (aE 1) h11) fun v12 h12 =>
 bnd (aG 1 v12 v10 h12) fun v13 h13 =>
 bnd (aO x5 h13) fun v14 h14 =>
 bnd (aB 3 v14 h14) fun v15 h15 =>
 bnd (aA v15 h15) fun v16 h16 =>
 bnd (aB 0 x8 h16) fun v17 h17 =>
 bnd (aA v17 h17) fun v18 h18 =>
 bnd (gA .string v16 v18 x9 h18) fun v19 h19 =>
  aY r n kk11 x4 x5 x59 x60 x61 h19)
noncomputable def bAe (r : RT) (n : Nat) (kk11 : cG) (kk25 : aRw) (x4 x5 x8 x9 x59 x60 x61 x117 x118 x119 : DV) (h0 : Hp) : aI :=
 bnd (aD .lss x119 x118 h0) fun v1 h1 =>
 aS v1 (
 bnd (aJ 1 x117 x119 h1) fun v2 h2 =>
 bnd (aA v2 h2) fun v3 h3 =>
 bnd (zN [x4, x9, x119, v3] h3) fun v4 h4 =>
 bnd (aD .add x119 (aE 1) h4) fun v5 h5 =>
      kk25 x4 x5 x8 x9 x59 x60 x61 x117 x118 v5 h5) (
      eU r n kk11 x4 x5 x8 x9 x59 x60 x61 h1)
noncomputable def tM (r : RT) (n : Nat) (kk11 : cG) (m : Nat) : aRw :=
 Nat.rec (motive := fun _ => aRw) (fun _ _ _ _ _ _ _ _ _ _ _ => none) (fun _ ih => bAe r n kk11 ih) m
noncomputable def bJw (r : RT) (n : Nat) (kk11 : cG) : aRw := tM r n kk11 n
noncomputable def vV (r : RT) (n : Nat) (kk11 : cG) (x4 x5 x8 x9 x59 x60 x61 x117 x118 x119 : DV) (h0 : Hp) : aI :=
 bJw r n kk11 x4 x5 x8 x9 x59 x60 x61 x117 x118 x119 h0
noncomputable def aBz (r : RT) (n : Nat) (kk11 : cG) (x4 x5 x8 x9 x10 x12 x13 x19 x59 x60 x61 : DV) (h0 : Hp) : aI :=
 bnd (r 71 [x13] (resv 1 h0)) fun v1 h1 =>
 bnd (aB 2 x8 h1) fun v2 h2 =>
 bnd (aA v2 h2) fun v3 h3 =>
 cnd (bG (aA v2 (resv 1 h0)) v3 && true) (
 bnd (r 71 [v3] h3) fun v4 h4 =>
 bnd (bK (bW 0 h0.next) [(aE 0), (aE 0), (aE 0), (aE 0), (aE 0), (aE 0)] 6 [(0, 1, x10), (1, 1, x12), (2, 1, v1), (3, 1, x19), (4, 1, (aE 0)), (5, 1, v4)] h4) fun v5 h5 =>
 bnd (bZ v5 h5) fun v6 h6 =>
  vV r n kk11 x4 x5 x8 x9 x59 x60 x61 v5 v6 (aE 0) h6)
noncomputable def nS (r : RT) (n : Nat) (kk11 : cG) (x4 x5 x8 x9 x10 x12 x13 x14 x59 x60 x61 : DV) (h0 : Hp) : aI :=
 bnd (r 46 [x5, x14] h0) fun v1 h1 =>
 bnd (aC 0 v1 h1) fun v2 h2 =>
 bnd (aC 1 v1 h2) fun v3 h3 =>
  aBz r n kk11 x4 x5 x8 x9 x10 x12 x13 v2 x59 x60 x61 h3
noncomputable def yS (r : RT) (n : Nat) (kk11 : cG) (x4 x5 x7 x8 x9 x10 x12 x13 x14 x59 x60 x61 : DV) (h0 : Hp) : aI :=
 bnd (aD .eql x7 (aE 15) h0) fun v1 h1 =>
 aS v1 (
 bnd (r 44 [x5, (.s [115, 101, 108, 101, 99, 116, 111, 114])] h1) fun v2 h2 =>
 bnd (aC 0 v2 h2) fun v3 h3 =>
 bnd (aC 1 v2 h3) fun v4 h4 =>
 bnd (r 44 [x5, (.s [97, 114, 103, 117, 109, 101, 110, 116, 115])] h4) fun v5 h5 =>
 bnd (aC 0 v5 h5) fun v6 h6 =>
 bnd (aC 1 v5 h6) fun v7 h7 =>
 bnd (aL [(aE 0), (aE 0)] 2 [(0, 1, v3), (1, 1, v6)] h7) fun v8 h8 =>
  nS r n kk11 x4 x5 x8 x9 x10 x12 (aE 2) v8 x59 x60 x61 h8) (
  nS r n kk11 x4 x5 x8 x9 x10 x12 x13 x14 x59 x60 x61 h1)
noncomputable def aQj (r : RT) (n : Nat) (kk11 : cG) (x4 x5 x7 x8 x9 x10 x12 x13 x14 x59 x60 x61 : DV) (h0 : Hp) : aI :=
 bnd (aB 1 x8 h0) fun v1 h1 =>
 bnd (aA v1 h1) fun v2 h2 =>
 bnd (aD .geq v2 (aE 0) h2) fun v3 h3 =>
 aS v3 (
 bnd (aB 1 x8 h3) fun v4 h4 =>
 bnd (aA v4 h4) fun v5 h5 =>
 bnd (r 30 [x5, v5] h5) fun v6 h6 =>
  yS r n kk11 x4 x5 x7 x8 x9 x10 v6 x13 x14 x59 x60 x61 h6) (
  yS r n kk11 x4 x5 x7 x8 x9 x10 x12 x13 x14 x59 x60 x61 h3)
noncomputable def aRo (r : RT) (n : Nat) (kk11 : cG) (x4 x5 x7 x8 x9 x10 x59 x60 x61 : DV) (h0 : Hp) : aI :=
 aQj r n kk11 x4 x5 x7 x8 x9 x10 (aE 0) (aE 0) .l0 x59 x60 x61 h0
noncomputable def aQt (r : RT) (n : Nat) (kk11 : cG) (x4 x5 x7 x8 x9 x59 x60 x61 : DV) (h0 : Hp) : aI :=
 bnd (aB 0 x8 h0) fun v1 h1 =>
 bnd (aA v1 h1) fun v2 h2 =>
 bnd (r 44 [x5, v2] h2) fun v3 h3 =>
 bnd (aC 0 v3 h3) fun v4 h4 =>
 bnd (aC 1 v3 h4) fun v5 h5 =>
  aRo r n kk11 x4 x5 x7 x8 x9 v4 x59 x60 x61 h5
noncomputable def aNp (r : RT) (n : Nat) (kk11 : cG) (x4 x5 x7 x8 x9 x59 x60 x61 : DV) (h0 : Hp) : aI :=
 bnd (r 30 [x5, (aE 1)] h0) fun v1 h1 =>
 bnd (kQ [x4, x9, v1] h1) fun v2 h2 =>
  aQt r n kk11 x4 x5 x7 x8 x9 x59 x60 x61 h2
noncomputable def yH (r : RT) (n : Nat) (kk11 : cG) (x4 x5 x7 x8 x59 x60 x61 : DV) (h0 : Hp) : aI :=
 bnd (r 30 [x5, x7] h0) fun v1 h1 =>
  aNp r n kk11 x4 x5 x7 x8 v1 x59 x60 x61 h1
noncomputable def aEg (r : RT) (n : Nat) (kk11 : cG) (x4 x5 x59 x60 x61 : DV) (h0 : Hp) : aI :=
 bnd (aJ 3 x59 x61 h0) fun v1 h1 =>
 bnd (aK 3 v1 h1) fun v2 h2 =>
 bnd (bL [(.s []), (aE 0), (aE 0)] h2) fun v3 h3 =>
 bnd (aG 3 v3 v2 h3) fun _ h4 =>
  yH r n kk11 x4 x5 x61 v3 x59 x60 x61 h4
noncomputable def aRa (r : RT) (n : Nat) (kk11 : cG) (x4 x5 x59 x60 x61 x62 : DV) (h0 : Hp) : aI :=
 aS x62 (
  aEg r n kk11 x4 x5 x59 x60 x61 h0) (
  bF r n x5 h0)
noncomputable def aXr (r : RT) (n : Nat) (kk11 : cG) (x4 x5 x59 x60 x61 : DV) (h0 : Hp) : aI :=
 bnd (aD .lss x61 x60 h0) fun v1 h1 =>
  aRa r n kk11 x4 x5 x59 x60 x61 v1 h1
noncomputable def uF (r : RT) (n : Nat) (m : Nat) : cG :=
 Nat.rec (motive := fun _ => cG) (fun _ _ _ _ _ _ => none) (fun _ ih => aXr r n ih) m
noncomputable def bHx (r : RT) (n : Nat) : cG := uF r n n
noncomputable def aQz (r : RT) (n : Nat) (x4 x5 x59 x60 x61 : DV) (h0 : Hp) : aI :=
 bHx r n x4 x5 x59 x60 x61 h0
noncomputable def gN (r : RT) (n : Nat) (x4 x5 : DV) (h0 : Hp) : aI :=
 bnd (r 69 [] h0) fun v1 h1 =>
 bnd (bZ v1 h1) fun v2 h2 =>
  aQz r n x4 x5 v1 v2 (aE 0) h2
noncomputable def aVq (r : RT) (n : Nat) (kk27 : mN) (x4 x5 x43 : DV) (h0 : Hp) : aI :=
 bnd (aD .lss x43 (aE 16) h0) fun v1 h1 =>
 aS v1 (
 bnd (aO x5 h1) fun v2 h2 =>
 bnd (aB 1 v2 h2) fun v3 h3 =>
 bnd (aA v3 h3) fun v4 h4 =>
 bnd (aD .add (aE 2) x43 h4) fun v5 h5 =>
 bnd (iR [x4, (aE 0), (aE 0), (aE 6)] h5) fun v6 h6 =>
 cnd (bG (aA v3 h6) v4 && true) (
 bnd (aC 0 v6 h6) fun v7 h7 =>
 bnd (aC 1 v6 h7) fun v8 h8 =>
 bnd (aJ 1 v4 v5 h8) fun v9 h9 =>
 bnd (aG 1 v9 v7 h9) fun v10 h10 =>
 bnd (aD .add x43 (aE 1) h10) fun v11 h11 =>
      kk27 x4 x5 v11 h11)) (
      gN r n x4 x5 h1)
noncomputable def sT (r : RT) (n : Nat) (m : Nat) : mN :=
 Nat.rec (motive := fun _ => mN) (fun _ _ _ _ => none) (fun _ ih => aVq r n ih) m
noncomputable def bMx (r : RT) (n : Nat) : mN := sT r n n
noncomputable def aSd (r : RT) (n : Nat) (x4 x5 x43 : DV) (h0 : Hp) : aI :=
 bMx r n x4 x5 x43 h0
noncomputable def aKl (r : RT) (n : Nat) (x4 x5 : DV) (h0 : Hp) : aI :=
 aSd r n x4 x5 (aE 0) h0
noncomputable def aZp (r : RT) (n : Nat) (x4 : DV) (h0 : Hp) : aI :=
 bnd (cK 1 8 [(aE 0)] (aE 18) (aE 18) h0) fun v1 h1 =>
 bnd (dY h1) fun v2 h2 =>
 bnd (dY h2) fun v3 h3 =>
 bnd (bB [.p0, .l0, .m0, .m0] [(0, 1, x4), (1, 1, v1), (2, 1, v2), (3, 1, v3)] h3) fun v4 h4 =>
 bnd (bR v4 h4) fun v5 h5 =>
  aKl r n x4 v5 h5
noncomputable def bXl (r : RT) (n : Nat) (x0 x4 : DV) (h0 : Hp) : aI :=
 bnd (pEq (.pointer 73) true x4 .p0 h0) fun v1 h1 =>
 aS v1 (
 some (.t [.p0, (aE 1)], h1)) (
 bnd (aD .lss x0 (aE 16384) h1) fun v2 h2 =>
 aS v2 (
 some (.t [.p0, (aE 4)], h2)) (
   aZp r n x4 h2))
noncomputable def bYj (r : RT) (n : Nat) (x0 : DV) (h0 : Hp) : aI :=
 bnd (aRy [x0] h0) fun v1 h1 =>
  bXl r n x0 v1 h1
noncomputable def s40 (r : RT) (n : Nat) (x0 : DV) (h0 : Hp) : aI :=
 bYj r n x0 h0
noncomputable abbrev c40 : Code := cf Tryz.f40
noncomputable abbrev aUe : Code := cR c40
noncomputable abbrev aXt : Code := cR aUe
noncomputable abbrev aWn : Code := cR aXt
noncomputable abbrev bAp : Code := cR aWn
noncomputable abbrev aZa : Code := cR bAp
noncomputable abbrev bBb : Code := cR aZa
noncomputable abbrev dCr : Code := cR bBb
noncomputable abbrev aLj : Code := cL bBb
noncomputable abbrev bTc : Code := cR aLj
noncomputable abbrev aIu : Code := cL bTc
noncomputable abbrev nL : Code := cL aIu
noncomputable abbrev bQo : Code := cL aLj
noncomputable abbrev wF : Code := cL aZa
noncomputable abbrev aPn : Code := cR wF
noncomputable abbrev aBv : Code := cL aPn
noncomputable abbrev kD : Code := cL aBv
noncomputable abbrev aDy : Code := cR kD
noncomputable abbrev aEq : Code := cR aDy
noncomputable abbrev cYd : Code := cR aEq
noncomputable abbrev aEi : Code := cL aEq
noncomputable abbrev aJx : Code := cL aEi
noncomputable abbrev aAu : Code := cR aJx
noncomputable abbrev aGx : Code := cR aAu
noncomputable abbrev aKb : Code := cR aGx
noncomputable abbrev aDp : Code := cR aKb
noncomputable abbrev aHc : Code := cR aDp
noncomputable abbrev aDo : Code := cR aHc
noncomputable abbrev aHj : Code := cR aDo
noncomputable abbrev aIi : Code := cR aHj
noncomputable abbrev cZf : Code := cR aIi
noncomputable abbrev wG : Code := cL aIi
noncomputable abbrev aOg : Code := cR wG
noncomputable abbrev aCb : Code := cL aOg
noncomputable abbrev oJ : Code := cL aCb
noncomputable abbrev aSt : Code := cL wG
noncomputable abbrev bOf : Code := cL aHj
noncomputable abbrev aSi : Code := cL aDo
noncomputable abbrev bPn : Code := cL aHc
noncomputable abbrev bGa : Code := cL aDp
noncomputable abbrev bPb : Code := cL aKb
noncomputable abbrev bOa : Code := cL aGx
noncomputable abbrev bTw : Code := cL aAu
noncomputable abbrev aRh : Code := cL aJx
noncomputable abbrev bXm : Code := cL aDy
noncomputable abbrev bJh : Code := cL kD
noncomputable abbrev bJe : Code := cL wF
noncomputable abbrev yK : Code := cL bAp
noncomputable abbrev aSc : Code := cR yK
noncomputable abbrev aFl : Code := cL aSc
noncomputable abbrev nU : Code := cL aFl
noncomputable abbrev bIt : Code := cL yK
noncomputable abbrev aTc : Code := cL aWn
noncomputable abbrev bMd : Code := cL aXt
noncomputable abbrev bRu : Code := cL aUe
noncomputable abbrev bVs : Code := cL c40
noncomputable abbrev r40 : K := aU CF Tryz.f40
noncomputable def D40 (r : RT) (n : Nat) (c : Code) (X : Nat → K) (k : K) : K := aM CF r 179 n c X r40 k
theorem bWj : D40 r n dCr x0 r40 = (K1 (eZ r n) 5) :=
 (by kernel_rfl)
theorem aXo (kk9 : dJ) : D40 r n nL (xs x0 7 (K1 (eZ r n) 5)) (K4 kk9 5 155 156 157) = (K4 (jV r n kk9) 5 155 156 157) :=
 (by kernel_rfl)
theorem cCc (m : Nat) : aN (fun kk => D40 r n nL (xs x0 7 (K1 (eZ r n) 5)) kk) m = (K4 (kA r n m) 5 155 156 157) := by
 induction m with
 | zero => exact (by kernel_rfl : aN (fun kk => D40 r n nL (xs x0 7 (K1 (eZ r n) 5)) kk) 0 = (K4 (kA r n 0) 5 155 156 157))
 | succ m ih =>
  refine (by kernel_rfl : aN (fun kk => D40 r n nL (xs x0 7 (K1 (eZ r n) 5)) kk) (m + 1) = D40 r n nL (xs x0 7 (K1 (eZ r n) 5)) (aN (fun kk => D40 r n nL (xs x0 7 (K1 (eZ r n) 5)) kk) m)).trans ?_
  rw [ih]
  exact (aXo r n (kA r n m)).trans (by kernel_rfl)
theorem bVk : D40 r n aIu (xs x0 7 (K1 (eZ r n) 5)) (K1 (eZ r n) 5) = (K4 (aUg r n) 5 155 156 157) :=
 (by kernel_rfl : D40 r n aIu (xs x0 7 (K1 (eZ r n) 5)) (K1 (eZ r n) 5) = aN (fun kk => D40 r n nL (xs x0 7 (K1 (eZ r n) 5)) kk) n).trans ((cCc r n n).trans (by kernel_rfl))
theorem cXs : D40 r n bTc x0 (K1 (eZ r n) 5) = (K4 (bWs r n) 5 155 156 157) :=
 (by kernel_rfl : D40 r n bTc x0 (K1 (eZ r n) 5) = D40 r n aIu (xs x0 7 (K1 (eZ r n) 5)) (K1 (eZ r n) 5)).trans
 ((bVk r n).trans (by kernel_rfl))
theorem cIa : D40 r n bBb x0 r40 = D40 r n aLj x0 (K1 (eZ r n) 5) :=
 congrArg (fun k => D40 r n aLj x0 k) (bWj r n)
theorem cHu : D40 r n aLj x0 (K1 (eZ r n) 5) = D40 r n bQo x0 (K4 (bWs r n) 5 155 156 157) :=
 congrArg (fun k => D40 r n bQo x0 k) (cXs r n)
theorem cSn : D40 r n bBb x0 r40 = (K1 (bF r n) 5) :=
 (cIa r n).trans
 ((cHu r n).trans
 ((by kernel_rfl)))
theorem cJc (kk11 : cG) : D40 r n cYd (xs x0 3 (K1 (bF r n) 5)) (K5 kk11 4 5 59 60 61) = (K5 (aY r n kk11) 4 5 59 60 61) :=
 (by kernel_rfl)
theorem cMy (kk11 : cG) : D40 r n cZf (xs (xs x0 3 (K1 (bF r n) 5)) 4 (K5 (aY r n kk11) 4 5 59 60 61)) (K5 (aY r n kk11) 4 5 59 60 61) = (K7 (eU r n kk11) 4 5 8 9 59 60 61) :=
 (by kernel_rfl)
theorem bJn (kk11 : cG) (kk25 : aRw) : D40 r n oJ (xs (xs (xs x0 3 (K1 (bF r n) 5)) 4 (K5 (aY r n kk11) 4 5 59 60 61)) 5 (K7 (eU r n kk11) 4 5 8 9 59 60 61)) (K10 kk25 4 5 8 9 59 60 61 117 118 119) = (K10 (bAe r n kk11 kk25) 4 5 8 9 59 60 61 117 118 119) :=
 (by kernel_rfl)
theorem bWm (kk11 : cG) (m : Nat) : aN (fun kk => D40 r n oJ (xs (xs (xs x0 3 (K1 (bF r n) 5)) 4 (K5 (aY r n kk11) 4 5 59 60 61)) 5 (K7 (eU r n kk11) 4 5 8 9 59 60 61)) kk) m = (K10 (tM r n kk11 m) 4 5 8 9 59 60 61 117 118 119) := by
 induction m with
 | zero => exact (by kernel_rfl : aN (fun kk => D40 r n oJ (xs (xs (xs x0 3 (K1 (bF r n) 5)) 4 (K5 (aY r n kk11) 4 5 59 60 61)) 5 (K7 (eU r n kk11) 4 5 8 9 59 60 61)) kk) 0 = (K10 (tM r n kk11 0) 4 5 8 9 59 60 61 117 118 119))
 | succ m ih =>
  refine (by kernel_rfl : aN (fun kk => D40 r n oJ (xs (xs (xs x0 3 (K1 (bF r n) 5)) 4 (K5 (aY r n kk11) 4 5 59 60 61)) 5 (K7 (eU r n kk11) 4 5 8 9 59 60 61)) kk) (m + 1) = D40 r n oJ (xs (xs (xs x0 3 (K1 (bF r n) 5)) 4 (K5 (aY r n kk11) 4 5 59 60 61)) 5 (K7 (eU r n kk11) 4 5 8 9 59 60 61)) (aN (fun kk => D40 r n oJ (xs (xs (xs x0 3 (K1 (bF r n) 5)) 4 (K5 (aY r n kk11) 4 5 59 60 61)) 5 (K7 (eU r n kk11) 4 5 8 9 59 60 61)) kk) m)).trans ?_
  rw [ih]
  exact (bJn r n kk11 (tM r n kk11 m)).trans (by kernel_rfl)
theorem cOy (kk11 : cG) : D40 r n aCb (xs (xs (xs x0 3 (K1 (bF r n) 5)) 4 (K5 (aY r n kk11) 4 5 59 60 61)) 5 (K7 (eU r n kk11) 4 5 8 9 59 60 61)) (K7 (eU r n kk11) 4 5 8 9 59 60 61) = (K10 (bJw r n kk11) 4 5 8 9 59 60 61 117 118 119) :=
 (by kernel_rfl : D40 r n aCb (xs (xs (xs x0 3 (K1 (bF r n) 5)) 4 (K5 (aY r n kk11) 4 5 59 60 61)) 5 (K7 (eU r n kk11) 4 5 8 9 59 60 61)) (K7 (eU r n kk11) 4 5 8 9 59 60 61) = aN (fun kk => D40 r n oJ (xs (xs (xs x0 3 (K1 (bF r n) 5)) 4 (K5 (aY r n kk11) 4 5 59 60 61)) 5 (K7 (eU r n kk11) 4 5 8 9 59 60 61)) kk) n).trans ((bWm r n kk11 n).trans (by kernel_rfl))
theorem cMg (kk11 : cG) : D40 r n aOg (xs (xs x0 3 (K1 (bF r n) 5)) 4 (K5 (aY r n kk11) 4 5 59 60 61)) (K7 (eU r n kk11) 4 5 8 9 59 60 61) = (K10 (vV r n kk11) 4 5 8 9 59 60 61 117 118 119) :=
 (by kernel_rfl : D40 r n aOg (xs (xs x0 3 (K1 (bF r n) 5)) 4 (K5 (aY r n kk11) 4 5 59 60 61)) (K7 (eU r n kk11) 4 5 8 9 59 60 61) = D40 r n aCb (xs (xs (xs x0 3 (K1 (bF r n) 5)) 4 (K5 (aY r n kk11) 4 5 59 60 61)) 5 (K7 (eU r n kk11) 4 5 8 9 59 60 61)) (K7 (eU r n kk11) 4 5 8 9 59 60 61)).trans
 ((cOy r n kk11).trans (by kernel_rfl))
theorem cAj (kk11 : cG) : D40 r n aIi (xs (xs x0 3 (K1 (bF r n) 5)) 4 (K5 (aY r n kk11) 4 5 59 60 61)) (K5 (aY r n kk11) 4 5 59 60 61) = D40 r n wG (xs (xs x0 3 (K1 (bF r n) 5)) 4 (K5 (aY r n kk11) 4 5 59 60 61)) (K7 (eU r n kk11) 4 5 8 9 59 60 61) :=
 congrArg (fun k => D40 r n wG (xs (xs x0 3 (K1 (bF r n) 5)) 4 (K5 (aY r n kk11) 4 5 59 60 61)) k) (cMy r n kk11)
theorem bPk (kk11 : cG) : D40 r n wG (xs (xs x0 3 (K1 (bF r n) 5)) 4 (K5 (aY r n kk11) 4 5 59 60 61)) (K7 (eU r n kk11) 4 5 8 9 59 60 61) = D40 r n aSt (xs (xs x0 3 (K1 (bF r n) 5)) 4 (K5 (aY r n kk11) 4 5 59 60 61)) (K10 (vV r n kk11) 4 5 8 9 59 60 61 117 118 119) :=
 congrArg (fun k => D40 r n aSt (xs (xs x0 3 (K1 (bF r n) 5)) 4 (K5 (aY r n kk11) 4 5 59 60 61)) k) (cMg r n kk11)
theorem bSa (kk11 : cG) (q0 : aRw) (q1 : TT1) (q2 : cG) : D40 r n aSt (xs (xs x0 3 (K1 q1 5)) 4 (K5 q2 4 5 59 60 61)) (K10 q0 4 5 8 9 59 60 61 117 118 119) = fun (env : aZ) (h : Hp) =>
 bnd (r 71 [(env 13)] (resv 1 h)) fun v1 h1 =>
 bnd (aB 2 (env 8) h1) fun v2 h2 =>
 bnd (aA v2 h2) fun v3 h3 =>
 cnd (bG (aA v2 (resv 1 h)) v3 && true) (
 bnd (r 71 [v3] h3) fun v4 h4 =>
 bnd (bK (bW 0 h.next) [(aE 0), (aE 0), (aE 0), (aE 0), (aE 0), (aE 0)] 6 [(0, 1, (env 10)), (1, 1, (env 12)), (2, 1, v1), (3, 1, (env 19)), (4, 1, (aE 0)), (5, 1, v4)] h4) fun v5 h5 =>
 bnd (bZ v5 h5) fun v6 h6 =>
  q0 (env 4) (env 5) (env 8) (env 9) (env 59) (env 60) (env 61) v5 v6 (aE 0) h6) := by kernel_rfl
theorem bFv (kk11 : cG) : (fun (env : aZ) (h : Hp) =>
 bnd (r 71 [(env 13)] (resv 1 h)) fun v1 h1 =>
 bnd (aB 2 (env 8) h1) fun v2 h2 =>
 bnd (aA v2 h2) fun v3 h3 =>
 cnd (bG (aA v2 (resv 1 h)) v3 && true) (
 bnd (r 71 [v3] h3) fun v4 h4 =>
 bnd (bK (bW 0 h.next) [(aE 0), (aE 0), (aE 0), (aE 0), (aE 0), (aE 0)] 6 [(0, 1, (env 10)), (1, 1, (env 12)), (2, 1, v1), (3, 1, (env 19)), (4, 1, (aE 0)), (5, 1, v4)] h4) fun v5 h5 =>
 bnd (bZ v5 h5) fun v6 h6 =>
  vV r n kk11 (env 4) (env 5) (env 8) (env 9) (env 59) (env 60) (env 61) v5 v6 (aE 0) h6)) = (K11 (aBz r n kk11) 4 5 8 9 10 12 13 19 59 60 61) := by kernel_rfl
theorem cOg (kk11 : cG) : D40 r n aIi (xs (xs x0 3 (K1 (bF r n) 5)) 4 (K5 (aY r n kk11) 4 5 59 60 61)) (K5 (aY r n kk11) 4 5 59 60 61) = (K11 (aBz r n kk11) 4 5 8 9 10 12 13 19 59 60 61) :=
 (cAj r n kk11).trans
 ((bPk r n kk11).trans
 ((bSa r n kk11 (vV r n kk11) (bF r n) (aY r n kk11)).trans (bFv r n kk11)))
theorem bNw (kk11 : cG) : D40 r n aHj (xs (xs x0 3 (K1 (bF r n) 5)) 4 (K5 (aY r n kk11) 4 5 59 60 61)) (K5 (aY r n kk11) 4 5 59 60 61) = D40 r n bOf (xs (xs x0 3 (K1 (bF r n) 5)) 4 (K5 (aY r n kk11) 4 5 59 60 61)) (K11 (aBz r n kk11) 4 5 8 9 10 12 13 19 59 60 61) :=
 congrArg (fun k => D40 r n bOf (xs (xs x0 3 (K1 (bF r n) 5)) 4 (K5 (aY r n kk11) 4 5 59 60 61)) k) (cOg r n kk11)
theorem cCf (kk11 : cG) : D40 r n aHj (xs (xs x0 3 (K1 (bF r n) 5)) 4 (K5 (aY r n kk11) 4 5 59 60 61)) (K5 (aY r n kk11) 4 5 59 60 61) = (K11 (nS r n kk11) 4 5 8 9 10 12 13 14 59 60 61) :=
 (bNw r n kk11).trans
 ((by kernel_rfl))
theorem bQk (kk11 : cG) : D40 r n aDo (xs (xs x0 3 (K1 (bF r n) 5)) 4 (K5 (aY r n kk11) 4 5 59 60 61)) (K5 (aY r n kk11) 4 5 59 60 61) = D40 r n aSi (xs (xs x0 3 (K1 (bF r n) 5)) 4 (K5 (aY r n kk11) 4 5 59 60 61)) (K11 (nS r n kk11) 4 5 8 9 10 12 13 14 59 60 61) :=
 congrArg (fun k => D40 r n aSi (xs (xs x0 3 (K1 (bF r n) 5)) 4 (K5 (aY r n kk11) 4 5 59 60 61)) k) (cCf r n kk11)
theorem bGk (kk11 : cG) (q0 : dEz) (q1 : TT1) (q2 : cG) : D40 r n aSi (xs (xs x0 3 (K1 q1 5)) 4 (K5 q2 4 5 59 60 61)) (K11 q0 4 5 8 9 10 12 13 14 59 60 61) = fun (env : aZ) (h : Hp) =>
 bnd (aD .eql (env 7) (aE 15) h) fun v1 h1 =>
 aS v1 (
 bnd (r 44 [(env 5), (.s [115, 101, 108, 101, 99, 116, 111, 114])] h1) fun v2 h2 =>
 bnd (aC 0 v2 h2) fun v3 h3 =>
 bnd (aC 1 v2 h3) fun v4 h4 =>
 bnd (r 44 [(env 5), (.s [97, 114, 103, 117, 109, 101, 110, 116, 115])] h4) fun v5 h5 =>
 bnd (aC 0 v5 h5) fun v6 h6 =>
 bnd (aC 1 v5 h6) fun v7 h7 =>
 bnd (aL [(aE 0), (aE 0)] 2 [(0, 1, v3), (1, 1, v6)] h7) fun v8 h8 =>
      q0 (env 4) (env 5) (env 8) (env 9) (env 10) (env 12) (aE 2) v8 (env 59) (env 60) (env 61) h8) (
      q0 (env 4) (env 5) (env 8) (env 9) (env 10) (env 12) (env 13) (env 14) (env 59) (env 60) (env 61) h1) := by kernel_rfl
theorem bFj (kk11 : cG) : (fun (env : aZ) (h : Hp) =>
 bnd (aD .eql (env 7) (aE 15) h) fun v1 h1 =>
 aS v1 (
 bnd (r 44 [(env 5), (.s [115, 101, 108, 101, 99, 116, 111, 114])] h1) fun v2 h2 =>
 bnd (aC 0 v2 h2) fun v3 h3 =>
 bnd (aC 1 v2 h3) fun v4 h4 =>
 bnd (r 44 [(env 5), (.s [97, 114, 103, 117, 109, 101, 110, 116, 115])] h4) fun v5 h5 =>
 bnd (aC 0 v5 h5) fun v6 h6 =>
 bnd (aC 1 v5 h6) fun v7 h7 =>
 bnd (aL [(aE 0), (aE 0)] 2 [(0, 1, v3), (1, 1, v6)] h7) fun v8 h8 =>
      nS r n kk11 (env 4) (env 5) (env 8) (env 9) (env 10) (env 12) (aE 2) v8 (env 59) (env 60) (env 61) h8) (
      nS r n kk11 (env 4) (env 5) (env 8) (env 9) (env 10) (env 12) (env 13) (env 14) (env 59) (env 60) (env 61) h1)) = (K12 (yS r n kk11) 4 5 7 8 9 10 12 13 14 59 60 61) := by kernel_rfl
theorem cOz (kk11 : cG) : D40 r n aDo (xs (xs x0 3 (K1 (bF r n) 5)) 4 (K5 (aY r n kk11) 4 5 59 60 61)) (K5 (aY r n kk11) 4 5 59 60 61) = (K12 (yS r n kk11) 4 5 7 8 9 10 12 13 14 59 60 61) :=
 (bQk r n kk11).trans
 ((bGk r n kk11 (nS r n kk11) (bF r n) (aY r n kk11)).trans (bFj r n kk11))
theorem bRe (kk11 : cG) : D40 r n aHc (xs (xs x0 3 (K1 (bF r n) 5)) 4 (K5 (aY r n kk11) 4 5 59 60 61)) (K5 (aY r n kk11) 4 5 59 60 61) = D40 r n bPn (xs (xs x0 3 (K1 (bF r n) 5)) 4 (K5 (aY r n kk11) 4 5 59 60 61)) (K12 (yS r n kk11) 4 5 7 8 9 10 12 13 14 59 60 61) :=
 congrArg (fun k => D40 r n bPn (xs (xs x0 3 (K1 (bF r n) 5)) 4 (K5 (aY r n kk11) 4 5 59 60 61)) k) (cOz r n kk11)
theorem cEs (kk11 : cG) : D40 r n aHc (xs (xs x0 3 (K1 (bF r n) 5)) 4 (K5 (aY r n kk11) 4 5 59 60 61)) (K5 (aY r n kk11) 4 5 59 60 61) = (K12 (aQj r n kk11) 4 5 7 8 9 10 12 13 14 59 60 61) :=
 (bRe r n kk11).trans
 ((by kernel_rfl))
theorem bDa (kk11 : cG) : D40 r n aDp (xs (xs x0 3 (K1 (bF r n) 5)) 4 (K5 (aY r n kk11) 4 5 59 60 61)) (K5 (aY r n kk11) 4 5 59 60 61) = D40 r n bGa (xs (xs x0 3 (K1 (bF r n) 5)) 4 (K5 (aY r n kk11) 4 5 59 60 61)) (K12 (aQj r n kk11) 4 5 7 8 9 10 12 13 14 59 60 61) :=
 congrArg (fun k => D40 r n bGa (xs (xs x0 3 (K1 (bF r n) 5)) 4 (K5 (aY r n kk11) 4 5 59 60 61)) k) (cEs r n kk11)
theorem cGc (kk11 : cG) : D40 r n aDp (xs (xs x0 3 (K1 (bF r n) 5)) 4 (K5 (aY r n kk11) 4 5 59 60 61)) (K5 (aY r n kk11) 4 5 59 60 61) = (K9 (aRo r n kk11) 4 5 7 8 9 10 59 60 61) :=
 (bDa r n kk11).trans
 ((by kernel_rfl))
theorem bCo (kk11 : cG) : D40 r n aKb (xs (xs x0 3 (K1 (bF r n) 5)) 4 (K5 (aY r n kk11) 4 5 59 60 61)) (K5 (aY r n kk11) 4 5 59 60 61) = D40 r n bPb (xs (xs x0 3 (K1 (bF r n) 5)) 4 (K5 (aY r n kk11) 4 5 59 60 61)) (K9 (aRo r n kk11) 4 5 7 8 9 10 59 60 61) :=
 congrArg (fun k => D40 r n bPb (xs (xs x0 3 (K1 (bF r n) 5)) 4 (K5 (aY r n kk11) 4 5 59 60 61)) k) (cGc r n kk11)
theorem cEc (kk11 : cG) : D40 r n aKb (xs (xs x0 3 (K1 (bF r n) 5)) 4 (K5 (aY r n kk11) 4 5 59 60 61)) (K5 (aY r n kk11) 4 5 59 60 61) = (K8 (aQt r n kk11) 4 5 7 8 9 59 60 61) :=
 (bCo r n kk11).trans
 ((by kernel_rfl))
theorem bFi (kk11 : cG) : D40 r n aGx (xs (xs x0 3 (K1 (bF r n) 5)) 4 (K5 (aY r n kk11) 4 5 59 60 61)) (K5 (aY r n kk11) 4 5 59 60 61) = D40 r n bOa (xs (xs x0 3 (K1 (bF r n) 5)) 4 (K5 (aY r n kk11) 4 5 59 60 61)) (K8 (aQt r n kk11) 4 5 7 8 9 59 60 61) :=
 congrArg (fun k => D40 r n bOa (xs (xs x0 3 (K1 (bF r n) 5)) 4 (K5 (aY r n kk11) 4 5 59 60 61)) k) (cEc r n kk11)
theorem cEq (kk11 : cG) : D40 r n aGx (xs (xs x0 3 (K1 (bF r n) 5)) 4 (K5 (aY r n kk11) 4 5 59 60 61)) (K5 (aY r n kk11) 4 5 59 60 61) = (K8 (aNp r n kk11) 4 5 7 8 9 59 60 61) :=
 (bFi r n kk11).trans
 ((by kernel_rfl))
theorem bCv (kk11 : cG) : D40 r n aAu (xs (xs x0 3 (K1 (bF r n) 5)) 4 (K5 (aY r n kk11) 4 5 59 60 61)) (K5 (aY r n kk11) 4 5 59 60 61) = D40 r n bTw (xs (xs x0 3 (K1 (bF r n) 5)) 4 (K5 (aY r n kk11) 4 5 59 60 61)) (K8 (aNp r n kk11) 4 5 7 8 9 59 60 61) :=
 congrArg (fun k => D40 r n bTw (xs (xs x0 3 (K1 (bF r n) 5)) 4 (K5 (aY r n kk11) 4 5 59 60 61)) k) (cEq r n kk11)
theorem cEi (kk11 : cG) : D40 r n aAu (xs (xs x0 3 (K1 (bF r n) 5)) 4 (K5 (aY r n kk11) 4 5 59 60 61)) (K5 (aY r n kk11) 4 5 59 60 61) = (K7 (yH r n kk11) 4 5 7 8 59 60 61) :=
 (bCv r n kk11).trans
 ((by kernel_rfl))
theorem bCr (kk11 : cG) : D40 r n aEq (xs x0 3 (K1 (bF r n) 5)) (K5 kk11 4 5 59 60 61) = D40 r n aEi (xs x0 3 (K1 (bF r n) 5)) (K5 (aY r n kk11) 4 5 59 60 61) :=
 congrArg (fun k => D40 r n aEi (xs x0 3 (K1 (bF r n) 5)) k) (cJc r n kk11)
theorem bCn (kk11 : cG) : D40 r n aJx (xs (xs x0 3 (K1 (bF r n) 5)) 4 (K5 (aY r n kk11) 4 5 59 60 61)) (K5 (aY r n kk11) 4 5 59 60 61) = D40 r n aRh (xs (xs x0 3 (K1 (bF r n) 5)) 4 (K5 (aY r n kk11) 4 5 59 60 61)) (K7 (yH r n kk11) 4 5 7 8 59 60 61) :=
 congrArg (fun k => D40 r n aRh (xs (xs x0 3 (K1 (bF r n) 5)) 4 (K5 (aY r n kk11) 4 5 59 60 61)) k) (cEi r n kk11)
theorem bDi (kk11 : cG) (q0 : TT7) (q1 : TT1) (q2 : cG) : D40 r n aRh (xs (xs x0 3 (K1 q1 5)) 4 (K5 q2 4 5 59 60 61)) (K7 q0 4 5 7 8 59 60 61) = fun (env : aZ) (h : Hp) =>
 bnd (aJ 3 (env 59) (env 61) h) fun v1 h1 =>
 bnd (aK 3 v1 h1) fun v2 h2 =>
 bnd (bL [(.s []), (aE 0), (aE 0)] h2) fun v3 h3 =>
 bnd (aG 3 v3 v2 h3) fun _ h4 =>
  q0 (env 4) (env 5) (env 61) v3 (env 59) (env 60) (env 61) h4 := by kernel_rfl
theorem aTz (kk11 : cG) : (fun (env : aZ) (h : Hp) =>
 bnd (aJ 3 (env 59) (env 61) h) fun v1 h1 =>
 bnd (aK 3 v1 h1) fun v2 h2 =>
 bnd (bL [(.s []), (aE 0), (aE 0)] h2) fun v3 h3 =>
 bnd (aG 3 v3 v2 h3) fun _ h4 =>
  yH r n kk11 (env 4) (env 5) (env 61) v3 (env 59) (env 60) (env 61) h4) = (K5 (aEg r n kk11) 4 5 59 60 61) := by kernel_rfl
theorem cHl (kk11 : cG) : D40 r n aEq (xs x0 3 (K1 (bF r n) 5)) (K5 kk11 4 5 59 60 61) = (K5 (aEg r n kk11) 4 5 59 60 61) :=
 (bCr r n kk11).trans
 ((by kernel_rfl : D40 r n aEi (xs x0 3 (K1 (bF r n) 5)) (K5 (aY r n kk11) 4 5 59 60 61) = D40 r n aJx (xs (xs x0 3 (K1 (bF r n) 5)) 4 (K5 (aY r n kk11) 4 5 59 60 61)) (K5 (aY r n kk11) 4 5 59 60 61)).trans
 ((bCn r n kk11).trans
 ((bDi r n kk11 (yH r n kk11) (bF r n) (aY r n kk11)).trans (aTz r n kk11))))
theorem bFb (kk11 : cG) : D40 r n aDy (xs x0 3 (K1 (bF r n) 5)) (K5 kk11 4 5 59 60 61) = D40 r n bXm (xs x0 3 (K1 (bF r n) 5)) (K5 (aEg r n kk11) 4 5 59 60 61) :=
 congrArg (fun k => D40 r n bXm (xs x0 3 (K1 (bF r n) 5)) k) (cHl r n kk11)
theorem cOn (kk11 : cG) : D40 r n aDy (xs x0 3 (K1 (bF r n) 5)) (K5 kk11 4 5 59 60 61) = (K6 (aRa r n kk11) 4 5 59 60 61 62) :=
 (bFb r n kk11).trans
 ((by kernel_rfl))
theorem bEs (kk11 : cG) : D40 r n kD (xs x0 3 (K1 (bF r n) 5)) (K5 kk11 4 5 59 60 61) = D40 r n bJh (xs x0 3 (K1 (bF r n) 5)) (K6 (aRa r n kk11) 4 5 59 60 61 62) :=
 congrArg (fun k => D40 r n bJh (xs x0 3 (K1 (bF r n) 5)) k) (cOn r n kk11)
theorem bNh (kk11 : cG) : D40 r n kD (xs x0 3 (K1 (bF r n) 5)) (K5 kk11 4 5 59 60 61) = (K5 (aXr r n kk11) 4 5 59 60 61) :=
 (bEs r n kk11).trans
 ((by kernel_rfl))
theorem bTi (m : Nat) : aN (fun kk => D40 r n kD (xs x0 3 (K1 (bF r n) 5)) kk) m = (K5 (uF r n m) 4 5 59 60 61) := by
 induction m with
 | zero => exact (by kernel_rfl : aN (fun kk => D40 r n kD (xs x0 3 (K1 (bF r n) 5)) kk) 0 = (K5 (uF r n 0) 4 5 59 60 61))
 | succ m ih =>
  refine (by kernel_rfl : aN (fun kk => D40 r n kD (xs x0 3 (K1 (bF r n) 5)) kk) (m + 1) = D40 r n kD (xs x0 3 (K1 (bF r n) 5)) (aN (fun kk => D40 r n kD (xs x0 3 (K1 (bF r n) 5)) kk) m)).trans ?_
  rw [ih]
  exact (bNh r n (uF r n m)).trans (by kernel_rfl)
theorem cOi : D40 r n aBv (xs x0 3 (K1 (bF r n) 5)) (K1 (bF r n) 5) = (K5 (bHx r n) 4 5 59 60 61) :=
 (by kernel_rfl : D40 r n aBv (xs x0 3 (K1 (bF r n) 5)) (K1 (bF r n) 5) = aN (fun kk => D40 r n kD (xs x0 3 (K1 (bF r n) 5)) kk) n).trans ((bTi r n n).trans (by kernel_rfl))
theorem cNy : D40 r n aPn x0 (K1 (bF r n) 5) = (K5 (aQz r n) 4 5 59 60 61) :=
 (by kernel_rfl : D40 r n aPn x0 (K1 (bF r n) 5) = D40 r n aBv (xs x0 3 (K1 (bF r n) 5)) (K1 (bF r n) 5)).trans
 ((cOi r n).trans (by kernel_rfl))
theorem bZg : D40 r n aZa x0 r40 = D40 r n wF x0 (K1 (bF r n) 5) :=
 congrArg (fun k => D40 r n wF x0 k) (cSn r n)
theorem cAn : D40 r n wF x0 (K1 (bF r n) 5) = D40 r n bJe x0 (K5 (aQz r n) 4 5 59 60 61) :=
 congrArg (fun k => D40 r n bJe x0 k) (cNy r n)
theorem cWc : D40 r n aZa x0 r40 = (K2 (gN r n) 4 5) :=
 (bZg r n).trans
 ((cAn r n).trans
 ((by kernel_rfl)))
theorem bMg (kk27 : mN) : D40 r n nU (xs x0 1 (K2 (gN r n) 4 5)) (K3 kk27 4 5 43) = (K3 (aVq r n kk27) 4 5 43) :=
 (by kernel_rfl)
theorem bRg (m : Nat) : aN (fun kk => D40 r n nU (xs x0 1 (K2 (gN r n) 4 5)) kk) m = (K3 (sT r n m) 4 5 43) := by
 induction m with
 | zero => exact (by kernel_rfl : aN (fun kk => D40 r n nU (xs x0 1 (K2 (gN r n) 4 5)) kk) 0 = (K3 (sT r n 0) 4 5 43))
 | succ m ih =>
  refine (by kernel_rfl : aN (fun kk => D40 r n nU (xs x0 1 (K2 (gN r n) 4 5)) kk) (m + 1) = D40 r n nU (xs x0 1 (K2 (gN r n) 4 5)) (aN (fun kk => D40 r n nU (xs x0 1 (K2 (gN r n) 4 5)) kk) m)).trans ?_
  rw [ih]
  exact (bMg r n (sT r n m)).trans (by kernel_rfl)
theorem cHi : D40 r n aFl (xs x0 1 (K2 (gN r n) 4 5)) (K2 (gN r n) 4 5) = (K3 (bMx r n) 4 5 43) :=
 (by kernel_rfl : D40 r n aFl (xs x0 1 (K2 (gN r n) 4 5)) (K2 (gN r n) 4 5) = aN (fun kk => D40 r n nU (xs x0 1 (K2 (gN r n) 4 5)) kk) n).trans ((bRg r n n).trans (by kernel_rfl))
theorem cBu : D40 r n aSc x0 (K2 (gN r n) 4 5) = (K3 (aSd r n) 4 5 43) :=
 (by kernel_rfl : D40 r n aSc x0 (K2 (gN r n) 4 5) = D40 r n aFl (xs x0 1 (K2 (gN r n) 4 5)) (K2 (gN r n) 4 5)).trans
 ((cHi r n).trans (by kernel_rfl))
theorem bQt : D40 r n bAp x0 r40 = D40 r n yK x0 (K2 (gN r n) 4 5) :=
 congrArg (fun k => D40 r n yK x0 k) (cWc r n)
theorem bVj : D40 r n yK x0 (K2 (gN r n) 4 5) = D40 r n bIt x0 (K3 (aSd r n) 4 5 43) :=
 congrArg (fun k => D40 r n bIt x0 k) (cBu r n)
theorem cZk : D40 r n bAp x0 r40 = (K2 (aKl r n) 4 5) :=
 (bQt r n).trans
 ((bVj r n).trans
 ((by kernel_rfl)))
theorem bIg : D40 r n aWn x0 r40 = D40 r n aTc x0 (K2 (aKl r n) 4 5) :=
 congrArg (fun k => D40 r n aTc x0 k) (cZk r n)
theorem bTk (q0 : oK) : D40 r n aTc x0 (K2 q0 4 5) = fun (env : aZ) (h : Hp) =>
 bnd (cK 1 8 [(aE 0)] (aE 18) (aE 18) h) fun v1 h1 =>
 bnd (dY h1) fun v2 h2 =>
 bnd (dY h2) fun v3 h3 =>
 bnd (bB [.p0, .l0, .m0, .m0] [(0, 1, (env 4)), (1, 1, v1), (2, 1, v2), (3, 1, v3)] h3) fun v4 h4 =>
 bnd (bR v4 h4) fun v5 h5 =>
  q0 (env 4) v5 h5 := by kernel_rfl
theorem bFe : (fun (env : aZ) (h : Hp) =>
 bnd (cK 1 8 [(aE 0)] (aE 18) (aE 18) h) fun v1 h1 =>
 bnd (dY h1) fun v2 h2 =>
 bnd (dY h2) fun v3 h3 =>
 bnd (bB [.p0, .l0, .m0, .m0] [(0, 1, (env 4)), (1, 1, v1), (2, 1, v2), (3, 1, v3)] h3) fun v4 h4 =>
 bnd (bR v4 h4) fun v5 h5 =>
  aKl r n (env 4) v5 h5) = (K1 (aZp r n) 4) := by kernel_rfl
theorem cYa : D40 r n aWn x0 r40 = (K1 (aZp r n) 4) :=
 (bIg r n).trans
 ((bTk r n (aKl r n)).trans (bFe r n))
theorem bYm : D40 r n aXt x0 r40 = D40 r n bMd x0 (K1 (aZp r n) 4) :=
 congrArg (fun k => D40 r n bMd x0 k) (cYa r n)
theorem cSb : D40 r n aXt x0 r40 = (K2 (bXl r n) 0 4) :=
 (bYm r n).trans
 ((by kernel_rfl))
theorem bVn : D40 r n aUe x0 r40 = D40 r n bRu x0 (K2 (bXl r n) 0 4) :=
 congrArg (fun k => D40 r n bRu x0 k) (cSb r n)
theorem cVx : D40 r n aUe x0 r40 = (K1 (bYj r n) 0) :=
 (bVn r n).trans
 ((by kernel_rfl))
theorem cYm : D40 r n c40 x0 r40 = D40 r n bVs x0 (K1 (bYj r n) 0) :=
 congrArg (fun k => D40 r n bVs x0 k) (cVx r n)
theorem dMw : D40 r n c40 x0 r40 = (K1 (s40 r n) 0) :=
 (cYm r n).trans
 ((by kernel_rfl))
theorem dFa : aF CF r n 40 args h = s40 r n (aR args 0) h :=
 (by kernel_rfl : aF CF r n 40 args h = D40 r n c40 x0 r40 (aH args) h).trans ((congrFun (congrFun (dMw r n) (aH args)) h).trans (by kernel_rfl))
noncomputable def s42 (r : RT) (n : Nat) (x0 x1 : DV) (h0 : Hp) : aI :=
 bnd (aD .lss x1 (.i .i64 (Int.negSucc 1152921504606846975)) h0) fun v1 h1 =>
 bnd (gD v1 false (some (x1, h1)) h1) fun v2 h2 =>
 bnd (gD v1 false (aD .gtr v2 (aE 1152921504606846976) h2) h2) fun v3 h3 =>
 bnd (aP v1 (.b true) v3 h3) fun v4 h4 =>
 aS v4 (
 some (.t [(aE 0), (aE 2)], h4)) (
 bnd (gO [x1] h4) fun v5 h5 =>
 bnd (aC 0 v5 h5) fun v6 h6 =>
 bnd (aC 1 v5 h6) fun v7 h7 =>
 aS v7 (
 some (.t [v6, (aE 0)], h7)) (
 bnd (r 30 [x0, (aE 8)] h7) fun v8 h8 =>
 bnd (aL [(aE 0)] 1 [(0, 1, x1)] h8) fun v9 h9 =>
 bnd (r 82 [x0, v8, (aE 1), v9] h9) fun v10 h10 =>
 bnd (aC 0 v10 h10) fun v11 h11 =>
 bnd (aC 1 v10 h11) fun v12 h12 =>
 some (.t [v11, v12], h12)))
noncomputable abbrev c42 : Code := cf Tryz.f42
noncomputable abbrev r42 : K := aU CF Tryz.f42
noncomputable def D42 (r : RT) (n : Nat) (c : Code) (X : Nat → K) (k : K) : K := aM CF r 29 n c X r42 k
theorem dLz : D42 r n c42 x0 r42 = (K2 (s42 r n) 0 1) :=
 (by kernel_rfl)
theorem cQq : aF CF r n 42 args h = s42 r n (aR args 0) (aR args 1) h :=
 (by kernel_rfl : aF CF r n 42 args h = D42 r n c42 x0 r42 (aH args) h).trans ((congrFun (congrFun (dLz r n) (aH args)) h).trans (by kernel_rfl))
noncomputable def s43 (r : RT) (n : Nat) (x0 x1 : DV) (h0 : Hp) : aI :=
 bnd (dU x1 h0) fun v1 h1 =>
 bnd (aD .gtr v1 (aE 250) h1) fun v2 h2 =>
 aS v2 (
 some (.t [(aE 0), (aE 1)], h2)) (
 bnd (r 30 [x0, (aE 10)] h2) fun v3 h3 =>
 bnd (r 83 [x0, v3, x1] h3) fun v4 h4 =>
 bnd (aC 0 v4 h4) fun v5 h5 =>
 bnd (aC 1 v4 h5) fun v6 h6 =>
 some (.t [v5, v6], h6))
noncomputable abbrev c43 : Code := cf Tryz.f43
noncomputable abbrev r43 : K := aU CF Tryz.f43
noncomputable def D43 (r : RT) (n : Nat) (c : Code) (X : Nat → K) (k : K) : K := aM CF r 16 n c X r43 k
theorem dMh : D43 r n c43 x0 r43 = (K2 (s43 r n) 0 1) :=
 (by kernel_rfl)
theorem cQb : aF CF r n 43 args h = s43 r n (aR args 0) (aR args 1) h :=
 (by kernel_rfl : aF CF r n 43 args h = D43 r n c43 x0 r43 (aH args) h).trans ((congrFun (congrFun (dMh r n) (aH args)) h).trans (by kernel_rfl))
noncomputable def s44 (r : RT) (n : Nat) (x0 x1 : DV) (h0 : Hp) : aI :=
 bnd (dU x1 h0) fun v1 h1 =>
 bnd (aD .lss v1 (aE 1) h1) fun v2 h2 =>
 bnd (gD v2 false (some (x1, h2)) h2) fun v3 h3 =>
 bnd (gD v2 false (dU v3 h3) h3) fun v4 h4 =>
 bnd (gD v2 false (aD .gtr v4 (aE 60) h4) h4) fun v5 h5 =>
 bnd (aP v2 (.b true) v5 h5) fun v6 h6 =>
 aS v6 (
 some (.t [(aE 0), (aE 1)], h6)) (
 bnd (aO x0 h6) fun v7 h7 =>
 bnd (aB 2 v7 h7) fun v8 h8 =>
 bnd (aA v8 h8) fun v9 h9 =>
 bnd (dM .string (aE 0) false v9 x1 h9) fun v10 h10 =>
 bnd (aD .neq v10 (aE 0) h10) fun v11 h11 =>
 aS v11 (
 some (.t [v10, (aE 0)], h11)) (
 bnd (r 30 [x0, (aE 11)] h11) fun v12 h12 =>
 bnd (r 83 [x0, v12, x1] h12) fun v13 h13 =>
 bnd (aC 0 v13 h13) fun v14 h14 =>
 bnd (aC 1 v13 h14) fun v15 h15 =>
 bnd (aD .neq v15 (aE 0) h15) fun v16 h16 =>
 aS v16 (
 some (.t [(aE 0), v15], h16)) (
 bnd (aO x0 h16) fun v17 h17 =>
 bnd (aB 1 v17 h17) fun v18 h18 =>
 bnd (aA v18 h18) fun v19 h19 =>
 bnd (aJ 1 v19 (aE 0) h19) fun v20 h20 =>
 bnd (aA v20 h20) fun v21 h21 =>
 bnd (r 73 [x0, v14, v21] h21) fun v22 h22 =>
 bnd (aC 0 v22 h22) fun v23 h23 =>
 bnd (aC 1 v22 h23) fun v24 h24 =>
 bnd (aD .neq v24 (aE 0) h24) fun v25 h25 =>
 aS v25 (
 some (.t [(aE 0), v24], h25)) (
 bnd (aO x0 h25) fun v26 h26 =>
 bnd (aB 1 v26 h26) fun v27 h27 =>
 bnd (aA v27 h27) fun v28 h28 =>
 bnd (aO x0 h28) fun v29 h29 =>
 bnd (aB 2 v29 h29) fun v30 h30 =>
 bnd (aA v30 h30) fun v31 h31 =>
 bnd (aJ 1 v28 (aE 0) h31) fun v32 h32 =>
 bnd (aG 1 v32 v23 h32) fun v33 h33 =>
 bnd (fR .string (aE 0) v31 x1 h33) fun v34 h34 =>
 bnd (aC 1 v34 h34) fun v35 h35 =>
 bnd (dW v31 v35 v14 h35) fun v36 h36 =>
 some (.t [v14, (aE 0)], h36)))))
noncomputable abbrev c44 : Code := cf Tryz.f44
noncomputable abbrev r44 : K := aU CF Tryz.f44
noncomputable def D44 (r : RT) (n : Nat) (c : Code) (X : Nat → K) (k : K) : K := aM CF r 68 n c X r44 k
theorem dNp : D44 r n c44 x0 r44 = (K2 (s44 r n) 0 1) :=
 (by kernel_rfl)
theorem cPk : aF CF r n 44 args h = s44 r n (aR args 0) (aR args 1) h :=
 (by kernel_rfl : aF CF r n 44 args h = D44 r n c44 x0 r44 (aH args) h).trans ((congrFun (congrFun (dNp r n) (aH args)) h).trans (by kernel_rfl))
noncomputable def s45 (r : RT) (n : Nat) (x0 x1 : DV) (h0 : Hp) : aI :=
 bnd (aO x0 h0) fun v1 h1 =>
 bnd (aB 3 v1 h1) fun v2 h2 =>
 bnd (aA v2 h2) fun v3 h3 =>
 bnd (dM .string (aE 0) false v3 x1 h3) fun v4 h4 =>
 some (v4, h4)
noncomputable abbrev c45 : Code := cf Tryz.f45
noncomputable abbrev r45 : K := aU CF Tryz.f45
noncomputable def D45 (r : RT) (n : Nat) (c : Code) (X : Nat → K) (k : K) : K := aM CF r 11 n c X r45 k
theorem dOl : D45 r n c45 x0 r45 = (K2 (s45 r n) 0 1) :=
 (by kernel_rfl)
theorem cPm : aF CF r n 45 args h = s45 r n (aR args 0) (aR args 1) h :=
 (by kernel_rfl : aF CF r n 45 args h = D45 r n c45 x0 r45 (aH args) h).trans ((congrFun (congrFun (dOl r n) (aH args)) h).trans (by kernel_rfl))
noncomputable def s46 (r : RT) (n : Nat) (x0 x1 : DV) (h0 : Hp) : aI :=
 bnd (bR x0 h0) fun v1 h1 =>
 bnd (bZ x1 h1) fun v2 h2 =>
 bnd (aD .gtr v2 (aE 250) h2) fun v3 h3 =>
 bnd (gD v3 false (some (x1, h3)) h3) fun v4 h4 =>
 bnd (gD v3 false (some ((.f 84 [] [v1]), h4)) h4) fun v5 h5 =>
 bnd (gD v3 false (r 52 [v4, v5] h5) h5) fun v6 h6 =>
 bnd (aP v3 (.b true) v6 h6) fun v7 h7 =>
 aS v7 (
 some (.t [(aE 0), (aE 1)], h7)) (
 bnd (aA v1 h7) fun v8 h8 =>
 bnd (aA v1 h8) fun v9 h9 =>
 bnd (r 30 [v9, (aE 9)] h9) fun v10 h10 =>
 cnd (bG (aA v1 h10) v8 && true) (
 bnd (r 82 [v8, v10, (aE 0), x1] h10) fun v11 h11 =>
 bnd (aC 0 v11 h11) fun v12 h12 =>
 bnd (aC 1 v11 h12) fun v13 h13 =>
 some (.t [v12, v13], h13)))
noncomputable abbrev c46 : Code := cf Tryz.f46
noncomputable abbrev r46 : K := aU CF Tryz.f46
noncomputable def D46 (r : RT) (n : Nat) (c : Code) (X : Nat → K) (k : K) : K := aM CF r 21 n c X r46 k
theorem dOr : D46 r n c46 x0 r46 = (K2 (s46 r n) 0 1) :=
 (by kernel_rfl)
theorem cQh : aF CF r n 46 args h = s46 r n (aR args 0) (aR args 1) h :=
 (by kernel_rfl : aF CF r n 46 args h = D46 r n c46 x0 r46 (aH args) h).trans ((congrFun (congrFun (dOr r n) (aH args)) h).trans (by kernel_rfl))
noncomputable def s51 (r : RT) (n : Nat) (x0 x1 x2 : DV) (h0 : Hp) : aI :=
 bnd (aO x0 h0) fun v1 h1 =>
 bnd (aB 0 v1 h1) fun v2 h2 =>
 bnd (aA v2 h2) fun v3 h3 =>
 bnd (oZ [v3, x1, x2] h3) fun v4 h4 =>
 bnd (aC 0 v4 h4) fun v5 h5 =>
 bnd (aC 1 v4 h5) fun v6 h6 =>
 some (v5, h6)
noncomputable abbrev c51 : Code := cf Tryz.f51
noncomputable abbrev r51 : K := aU CF Tryz.f51
noncomputable def D51 (r : RT) (n : Nat) (c : Code) (X : Nat → K) (k : K) : K := aM CF r 20 n c X r51 k
theorem dOf : D51 r n c51 x0 r51 = (K3 (s51 r n) 0 1 2) :=
 (by kernel_rfl)
theorem cQw : aF CF r n 51 args h = s51 r n (aR args 0) (aR args 1) (aR args 2) h :=
 (by kernel_rfl : aF CF r n 51 args h = D51 r n c51 x0 r51 (aH args) h).trans ((congrFun (congrFun (dOf r n) (aH args)) h).trans (by kernel_rfl))
noncomputable def s52 (r : RT) (n : Nat) (x0 x1 : DV) (h0 : Hp) : aI :=
 bnd (r 89 [x0, x1] h0) fun v1 h1 =>
 bnd (aD .geq v1 (aE 0) h1) fun v2 h2 =>
 some (v2, h2)
noncomputable abbrev c52 : Code := cf Tryz.f52
noncomputable abbrev r52 : K := aU CF Tryz.f52
noncomputable def D52 (r : RT) (n : Nat) (c : Code) (X : Nat → K) (k : K) : K := aM CF r 9 n c X r52 k
theorem dOi : D52 r n c52 x0 r52 = (K2 (s52 r n) 0 1) :=
 (by kernel_rfl)
theorem bJk : aF CF r n 52 args h = s52 r n (aR args 0) (aR args 1) h :=
 (by kernel_rfl : aF CF r n 52 args h = D52 r n c52 x0 r52 (aH args) h).trans ((congrFun (congrFun (dOi r n) (aH args)) h).trans (by kernel_rfl))
noncomputable def s53 (r : RT) (n : Nat) (x0 x1 : DV) (h0 : Hp) : aI :=
 bnd (aA x1 h0) fun v1 h1 =>
 bnd (aDc [v1, x0] h1) fun v2 h2 =>
 bnd (gX .not v2 h2) fun v3 h3 =>
 some (v3, h3)
noncomputable abbrev c53 : Code := cf Tryz.f53
noncomputable abbrev r53 : K := aU CF Tryz.f53
noncomputable def D53 (r : RT) (n : Nat) (c : Code) (X : Nat → K) (k : K) : K := aM CF r 8 n c X r53 k
theorem dOw : D53 r n c53 x0 r53 = (K2 (s53 r n) 0 1) :=
 (by kernel_rfl)
theorem cQj : aF CF r n 53 args h = s53 r n (aR args 0) (aR args 1) h :=
 (by kernel_rfl : aF CF r n 53 args h = D53 r n c53 x0 r53 (aH args) h).trans ((congrFun (congrFun (dOw r n) (aH args)) h).trans (by kernel_rfl))
noncomputable def s54 (r : RT) (n : Nat) (h0 : Hp) : aI :=
 some (.t [(aE 0), (aE 20)], h0)
noncomputable abbrev c54 : Code := cf Tryz.f54
noncomputable abbrev r54 : K := aU CF Tryz.f54
noncomputable def D54 (r : RT) (n : Nat) (c : Code) (X : Nat → K) (k : K) : K := aM CF r 2 n c X r54 k
theorem dLf : D54 r n c54 x0 r54 = (K0 (s54 r n)) :=
 (by kernel_rfl)
theorem bLg : aF CF r n 54 args h = s54 r n h :=
 (by kernel_rfl : aF CF r n 54 args h = D54 r n c54 x0 r54 (aH args) h).trans ((congrFun (congrFun (dLf r n) (aH args)) h).trans (by kernel_rfl))
noncomputable def s56 (r : RT) (n : Nat) (x0 : DV) (h0 : Hp) : aI :=
 bnd (aO x0 h0) fun v1 h1 =>
 bnd (aB 1 v1 h1) fun v2 h2 =>
 bnd (aA v2 h2) fun v3 h3 =>
 bnd (aD .eql v3 (.i .i64 (Int.ofNat 10)) h3) fun v4 h4 =>
 aS v4 (
 bnd (aO x0 h4) fun v5 h5 =>
 bnd (aB 2 v5 h5) fun v6 h6 =>
 bnd (aA v6 h6) fun v7 h7 =>
 bnd (aO x0 h7) fun v8 h8 =>
 bnd (aB 3 v8 h8) fun v9 h9 =>
 bnd (aA v9 h9) fun v10 h10 =>
 bnd (aJ 1 v10 (.i .i64 (Int.ofNat 0)) h10) fun v11 h11 =>
 bnd (aA v11 h11) fun v12 h12 =>
 bnd (aD .eql v7 v12 h12) fun v13 h13 =>
 bnd (r 95 [v13] h13) fun v14 h14 =>
 bnd (aC 0 v14 h14) fun v15 h15 =>
 bnd (aC 1 v14 h15) fun v16 h16 =>
 some (.t [v15, v16], h16)) (
 bnd (aO x0 h4) fun v17 h17 =>
 bnd (aB 0 v17 h17) fun v18 h18 =>
 bnd (aA v18 h18) fun v19 h19 =>
 bnd (aO x0 h19) fun v20 h20 =>
 bnd (aB 2 v20 h20) fun v21 h21 =>
 bnd (aA v21 h21) fun v22 h22 =>
 bnd (r 25 [v19, v22] h22) fun v23 h23 =>
 some (.t [v23, (.i .i64 (Int.ofNat 0))], h23))
noncomputable abbrev c56 : Code := cf Tryz.f56
noncomputable abbrev r56 : K := aU CF Tryz.f56
noncomputable def D56 (r : RT) (n : Nat) (c : Code) (X : Nat → K) (k : K) : K := aM CF r 32 n c X r56 k
theorem dKx : D56 r n c56 x0 r56 = (K1 (s56 r n) 0) :=
 (by kernel_rfl)
theorem dGv : aF CF r n 56 args h = s56 r n (aR args 0) h :=
 (by kernel_rfl : aF CF r n 56 args h = D56 r n c56 x0 r56 (aH args) h).trans ((congrFun (congrFun (dKx r n) (aH args)) h).trans (by kernel_rfl))
noncomputable def s57 (r : RT) (n : Nat) (x0 : DV) (h0 : Hp) : aI :=
 bnd (aO x0 h0) fun v1 h1 =>
 bnd (aB 0 v1 h1) fun v2 h2 =>
 bnd (aA v2 h2) fun v3 h3 =>
 bnd (r 23 [v3] h3) fun v4 h4 =>
 bnd (aL [(.i .i64 (Int.ofNat 0)), (.i .i64 (Int.ofNat 0)), (.i .i64 (Int.ofNat 0))] 3 [(0, 1, (.i .i64 (Int.ofNat 9))), (1, 1, (.i .i64 (Int.ofNat 10))), (2, 1, (.i .i64 (Int.ofNat 11)))] h4) fun v5 h5 =>
 bnd (r 96 [x0, v5] h5) fun v6 h6 =>
 bnd (gX .not v6 h6) fun v7 h7 =>
 aS v7 (
 bnd (r 54 [] h7) fun v8 h8 =>
 bnd (aC 0 v8 h8) fun v9 h9 =>
 bnd (aC 1 v8 h9) fun v10 h10 =>
 some (.t [v9, v10], h10)) (
 bnd (aO x0 h7) fun v11 h11 =>
 bnd (aB 1 v11 h11) fun v12 h12 =>
 bnd (aA v12 h12) fun v13 h13 =>
 bnd (aD .eql v13 (.i .i64 (Int.ofNat 22)) h13) fun v14 h14 =>
 aS v14 (
 bnd (aO x0 h14) fun v15 h15 =>
 bnd (aB 0 v15 h15) fun v16 h16 =>
 bnd (aA v16 h16) fun v17 h17 =>
 bnd (aO x0 h17) fun v18 h18 =>
 bnd (aB 2 v18 h18) fun v19 h19 =>
 bnd (aA v19 h19) fun v20 h20 =>
 bnd (eJ [v4, v20] h20) fun v21 h21 =>
 cnd (bG (aA v16 h21) v17 && true) (
 bnd (r 42 [v17, v21] h21) fun v22 h22 =>
 bnd (aC 0 v22 h22) fun v23 h23 =>
 bnd (aC 1 v22 h23) fun v24 h24 =>
 some (.t [v23, v24], h24))) (
 bnd (r 97 [x0] h14) fun v25 h25 =>
 bnd (aC 0 v25 h25) fun v26 h26 =>
 bnd (aC 1 v25 h26) fun v27 h27 =>
 bnd (gX .not v27 h27) fun v28 h28 =>
 aS v28 (
 bnd (r 54 [] h28) fun v29 h29 =>
 bnd (aC 0 v29 h29) fun v30 h30 =>
 bnd (aC 1 v29 h30) fun v31 h31 =>
 some (.t [v30, v31], h31)) (
 bnd (aO x0 h28) fun v32 h32 =>
 bnd (aB 1 v32 h32) fun v33 h33 =>
 bnd (aA v33 h33) fun v34 h34 =>
 bnd (aD .eql v34 (.i .i64 (Int.ofNat 21)) h34) fun v35 h35 =>
 aS v35 (
 bnd (r 98 [x0, v26] h35) fun v36 h36 =>
 bnd (aC 0 v36 h36) fun v37 h37 =>
 bnd (aC 1 v36 h37) fun v38 h38 =>
 some (.t [v37, v38], h38)) (
 bnd (aO x0 h35) fun v39 h39 =>
 bnd (aB 2 v39 h39) fun v40 h40 =>
 bnd (aA v40 h40) fun v41 h41 =>
 bnd (oZ [v4, v41, v26] h41) fun v42 h42 =>
 bnd (aC 0 v42 h42) fun v43 h43 =>
 bnd (aC 1 v42 h43) fun v44 h44 =>
 bnd (aL [(.i .i64 (Int.ofNat 0))] 1 [(0, 1, (.i .i64 (Int.ofNat 9)))] h44) fun v45 h45 =>
 bnd (r 96 [x0, v45] h45) fun v46 h46 =>
 aS v46 (
 some (.t [v43, (.i .i64 (Int.ofNat 0))], h46)) (
 bnd (aO x0 h46) fun v47 h47 =>
 bnd (aB 0 v47 h47) fun v48 h48 =>
 bnd (aA v48 h48) fun v49 h49 =>
 bnd (r 42 [v49, v43] h49) fun v50 h50 =>
 bnd (aC 0 v50 h50) fun v51 h51 =>
 bnd (aC 1 v50 h51) fun v52 h52 =>
 some (.t [v51, v52], h52))))))
noncomputable abbrev c57 : Code := cf Tryz.f57
noncomputable abbrev r57 : K := aU CF Tryz.f57
noncomputable def D57 (r : RT) (n : Nat) (c : Code) (X : Nat → K) (k : K) : K := aM CF r 83 n c X r57 k
theorem dKg : D57 r n c57 x0 r57 = (K1 (s57 r n) 0) :=
 (by kernel_rfl)
theorem cPh : aF CF r n 57 args h = s57 r n (aR args 0) h :=
 (by kernel_rfl : aF CF r n 57 args h = D57 r n c57 x0 r57 (aH args) h).trans ((congrFun (congrFun (dKg r n) (aH args)) h).trans (by kernel_rfl))
end Go.Dd

namespace Go.Dd
open Go.Proofs
variable (r : RT) (n : Nat) (args : List DV) (h : Hp)
noncomputable def s58 (r : RT) (n : Nat) (x0 : DV) (h0 : Hp) : aI :=
 bnd (aO x0 h0) fun v1 h1 =>
 bnd (aB 0 v1 h1) fun v2 h2 =>
 bnd (aA v2 h2) fun v3 h3 =>
 bnd (r 23 [v3] h3) fun v4 h4 =>
 bnd (aO x0 h4) fun v5 h5 =>
 bnd (aB 0 v5 h5) fun v6 h6 =>
 bnd (aA v6 h6) fun v7 h7 =>
 cnd (bG (aA v6 h0) v7 && true) (
 bnd (aO x0 h7) fun v8 h8 =>
 bnd (aB 2 v8 h8) fun v9 h9 =>
 bnd (aA v9 h9) fun v10 h10 =>
 cnd (bG (aA v9 h0) v10 && true) (
 bnd (r 32 [v7, v10] h10) fun v11 h11 =>
 bnd (aO x0 h11) fun v12 h12 =>
 bnd (aB 1 v12 h12) fun v13 h13 =>
 bnd (aA v13 h13) fun v14 h14 =>
 bnd (aD .eql v14 (.i .i64 (Int.ofNat 23)) h14) fun v15 h15 =>
 aS v15 (
 bnd (aD .neq v11 (.i .i64 (Int.ofNat 0)) h15) fun v16 h16 =>
 aS v16 (
 bnd (r 54 [] h16) fun v17 h17 =>
 bnd (aC 0 v17 h17) fun v18 h18 =>
 bnd (aC 1 v17 h18) fun v19 h19 =>
 some (.t [v18, v19], h19)) (
 bnd (aO x0 h16) fun v20 h20 =>
 bnd (aB 2 v20 h20) fun v21 h21 =>
 bnd (aA v21 h21) fun v22 h22 =>
 bnd (aO x0 h22) fun v23 h23 =>
 bnd (aB 0 v23 h23) fun v24 h24 =>
 bnd (aA v24 h24) fun v25 h25 =>
 bnd (aO x0 h25) fun v26 h26 =>
 bnd (aB 2 v26 h26) fun v27 h27 =>
 bnd (aA v27 h27) fun v28 h28 =>
 bnd (r 37 [v25, v28] h28) fun v29 h29 =>
 cnd (bG (aA v21 h29) v22 && true) (
 bnd (iR [v4, v22, (.i .i64 (Int.ofNat 0)), v29] h29) fun v30 h30 =>
 bnd (aC 0 v30 h30) fun v31 h31 =>
 bnd (aC 1 v30 h31) fun v32 h32 =>
 some (.t [v31, v32], h32)))) (
 bnd (aO x0 h15) fun v33 h33 =>
 bnd (aB 0 v33 h33) fun v34 h34 =>
 bnd (aA v34 h34) fun v35 h35 =>
 bnd (aO x0 h35) fun v36 h36 =>
 bnd (aB 3 v36 h36) fun v37 h37 =>
 bnd (aA v37 h37) fun v38 h38 =>
 bnd (aJ 1 v38 (.i .i64 (Int.ofNat 0)) h38) fun v39 h39 =>
 bnd (aA v39 h39) fun v40 h40 =>
 bnd (r 15 [v35, v40] h40) fun v41 h41 =>
 bnd (aC 0 v41 h41) fun v42 h42 =>
 bnd (aC 1 v41 h42) fun v43 h43 =>
 bnd (gX .not v43 h43) fun v44 h44 =>
 bnd (gD v44 false (some (v42, h44)) h44) fun v45 h45 =>
 bnd (gD v44 false (aD .lss v45 (.i .i64 (Int.ofNat 0)) h45) h45) fun v46 h46 =>
 bnd (aP v44 (.b true) v46 h46) fun v47 h47 =>
 bnd (gD v47 false (some (v42, h47)) h47) fun v48 h48 =>
 bnd (gD v47 false (aD .gtr v48 (.i .i64 (Int.ofNat 250)) h48) h48) fun v49 h49 =>
 bnd (aP v47 (.b true) v49 h49) fun v50 h50 =>
 aS v50 (
 bnd (r 54 [] h50) fun v51 h51 =>
 bnd (aC 0 v51 h51) fun v52 h52 =>
 bnd (aC 1 v51 h52) fun v53 h53 =>
 some (.t [v52, v53], h53)) (
 bnd (aO x0 h50) fun v54 h54 =>
 bnd (aB 2 v54 h54) fun v55 h55 =>
 bnd (aA v55 h55) fun v56 h56 =>
 bnd (aO x0 h56) fun v57 h57 =>
 bnd (aB 0 v57 h57) fun v58 h58 =>
 bnd (aA v58 h58) fun v59 h59 =>
 bnd (r 30 [v59, (.i .i64 (Int.ofNat 9))] h59) fun v60 h60 =>
 cnd (bG (aA v55 h60) v56 && true) (
 bnd (aD .eql v56 v60 h60) fun v61 h61 =>
 aS v61 (
 bnd (aO x0 h61) fun v62 h62 =>
 bnd (aB 2 v62 h62) fun v63 h63 =>
 bnd (aA v63 h63) fun v64 h64 =>
 bnd (iR [v4, v64, (.i .i64 (Int.ofNat 0)), v42] h64) fun v65 h65 =>
 bnd (aC 0 v65 h65) fun v66 h66 =>
 bnd (aC 1 v65 h66) fun v67 h67 =>
 some (.t [v66, v67], h67)) (
 bnd (aO x0 h61) fun v68 h68 =>
 bnd (aB 2 v68 h68) fun v69 h69 =>
 bnd (aA v69 h69) fun v70 h70 =>
 bnd (aO x0 h70) fun v71 h71 =>
 bnd (aB 0 v71 h71) fun v72 h72 =>
 bnd (aA v72 h72) fun v73 h73 =>
 bnd (r 30 [v73, (.i .i64 (Int.ofNat 10))] h73) fun v74 h74 =>
 cnd (bG (aA v69 h74) v70 && true) (
 bnd (aD .eql v70 v74 h74) fun v75 h75 =>
 aS v75 (
 bnd (aO x0 h75) fun v76 h76 =>
 bnd (aB 2 v76 h76) fun v77 h77 =>
 bnd (aA v77 h77) fun v78 h78 =>
 bnd (iR [v4, v78, (.i .i64 (Int.ofNat 2)), v42] h78) fun v79 h79 =>
 bnd (aC 0 v79 h79) fun v80 h80 =>
 bnd (aC 1 v79 h80) fun v81 h81 =>
 some (.t [v80, v81], h81)) (
 bnd (r 54 [] h75) fun v82 h82 =>
 bnd (aC 0 v82 h82) fun v83 h83 =>
 bnd (aC 1 v82 h83) fun v84 h84 =>
 some (.t [v83, v84], h84)))))))))
noncomputable abbrev c58 : Code := cf Tryz.f58
noncomputable abbrev r58 : K := aU CF Tryz.f58
noncomputable def D58 (r : RT) (n : Nat) (c : Code) (X : Nat → K) (k : K) : K := aM CF r 120 n c X r58 k
theorem dLe : D58 r n c58 x0 r58 = (K1 (s58 r n) 0) :=
 (by kernel_rfl)
theorem dDk : aF CF r n 58 args h = s58 r n (aR args 0) h :=
 (by kernel_rfl : aF CF r n 58 args h = D58 r n c58 x0 r58 (aH args) h).trans ((congrFun (congrFun (dLe r n) (aH args)) h).trans (by kernel_rfl))
noncomputable def s60 (r : RT) (n : Nat) (x0 : DV) (h0 : Hp) : aI :=
 bnd (aO x0 h0) fun v1 h1 =>
 bnd (aB 0 v1 h1) fun v2 h2 =>
 bnd (aA v2 h2) fun v3 h3 =>
 bnd (aO x0 h3) fun v4 h4 =>
 bnd (aB 2 v4 h4) fun v5 h5 =>
 bnd (aA v5 h5) fun v6 h6 =>
 bnd (r 32 [v3, v6] h6) fun v7 h7 =>
 bnd (aD .lss v7 (.i .i64 (Int.ofNat 0)) h7) fun v8 h8 =>
 aS v8 (
 bnd (r 54 [] h8) fun v9 h9 =>
 bnd (aC 0 v9 h9) fun v10 h10 =>
 bnd (aC 1 v9 h10) fun v11 h11 =>
 some (.t [v10, v11], h11)) (
 bnd (aO x0 h8) fun v12 h12 =>
 bnd (aB 1 v12 h12) fun v13 h13 =>
 bnd (aA v13 h13) fun v14 h14 =>
 bnd (aD .eql v14 (.i .i64 (Int.ofNat 41)) h14) fun v15 h15 =>
 aS v15 (
 bnd (aO x0 h15) fun v16 h16 =>
 bnd (aB 0 v16 h16) fun v17 h17 =>
 bnd (aA v17 h17) fun v18 h18 =>
 bnd (aO x0 h18) fun v19 h19 =>
 bnd (aB 2 v19 h19) fun v20 h20 =>
 bnd (aA v20 h20) fun v21 h21 =>
 bnd (r 35 [v18, v21] h21) fun v22 h22 =>
 some (.t [v22, (.i .i64 (Int.ofNat 0))], h22)) (
 bnd (aO x0 h15) fun v23 h23 =>
 bnd (aB 0 v23 h23) fun v24 h24 =>
 bnd (aA v24 h24) fun v25 h25 =>
 bnd (aO x0 h25) fun v26 h26 =>
 bnd (aB 0 v26 h26) fun v27 h27 =>
 bnd (aA v27 h27) fun v28 h28 =>
 bnd (aO x0 h28) fun v29 h29 =>
 bnd (aB 2 v29 h29) fun v30 h30 =>
 bnd (aA v30 h30) fun v31 h31 =>
 bnd (r 34 [v28, v31] h31) fun v32 h32 =>
 cnd (bG (aA v24 h32) v25 && true) (
 bnd (r 44 [v25, v32] h32) fun v33 h33 =>
 bnd (aC 0 v33 h33) fun v34 h34 =>
 bnd (aC 1 v33 h34) fun v35 h35 =>
 some (.t [v34, v35], h35))))
noncomputable abbrev c60 : Code := cf Tryz.f60
noncomputable abbrev r60 : K := aU CF Tryz.f60
noncomputable def D60 (r : RT) (n : Nat) (c : Code) (X : Nat → K) (k : K) : K := aM CF r 49 n c X r60 k
theorem dLg : D60 r n c60 x0 r60 = (K1 (s60 r n) 0) :=
 (by kernel_rfl)
theorem dEn : aF CF r n 60 args h = s60 r n (aR args 0) h :=
 (by kernel_rfl : aF CF r n 60 args h = D60 r n c60 x0 r60 (aH args) h).trans ((congrFun (congrFun (dLg r n) (aH args)) h).trans (by kernel_rfl))
noncomputable def s67 (r : RT) (n : Nat) (x0 x1 : DV) (h0 : Hp) : aI :=
 bnd (aO x0 h0) fun v1 h1 =>
 bnd (aB 0 v1 h1) fun v2 h2 =>
 bnd (aA v2 h2) fun v3 h3 =>
 bnd (isF [v3, x1] h3) fun v4 h4 =>
 bnd (gD v4 true (some (x0, h4)) h4) fun v5 h5 =>
 bnd (gD v4 true (aO v5 h5) h5) fun v6 h6 =>
 bnd (gD v4 true (aB 0 v6 h6) h6) fun v7 h7 =>
 bnd (gD v4 true (aA v7 h7) h7) fun v8 h8 =>
 bnd (gD v4 true (some (x1, h8)) h8) fun v9 h9 =>
 bnd (gD v4 true (iO [v8, v9] h9) h9) fun v10 h10 =>
 bnd (gD v4 true (some (x0, h10)) h10) fun v11 h11 =>
 bnd (gD v4 true (r 30 [v11, (aE 1)] h11) h11) fun v12 h12 =>
 bnd (gD v4 true (aD .eql v10 v12 h12) h12) fun v13 h13 =>
 bnd (aP v4 v13 (.b false) h13) fun v14 h14 =>
 bnd (gD v14 true (some (x0, h14)) h14) fun v15 h15 =>
 bnd (gD v14 true (aO v15 h15) h15) fun v16 h16 =>
 bnd (gD v14 true (aB 0 v16 h16) h16) fun v17 h17 =>
 bnd (gD v14 true (aA v17 h17) h17) fun v18 h18 =>
 bnd (gD v14 true (some (x1, h18)) h18) fun v19 h19 =>
 bnd (gD v14 true (eJ [v18, v19] h19) h19) fun v20 h20 =>
 bnd (gD v14 true (aD .eql v20 (aE 6) h20) h20) fun v21 h21 =>
 bnd (aP v14 v21 (.b false) h21) fun v22 h22 =>
 some (v22, h22)
noncomputable abbrev c67 : Code := cf Tryz.f67
noncomputable abbrev r67 : K := aU CF Tryz.f67
noncomputable def D67 (r : RT) (n : Nat) (c : Code) (X : Nat → K) (k : K) : K := aM CF r 31 n c X r67 k
theorem dKf : D67 r n c67 x0 r67 = (K2 (s67 r n) 0 1) :=
 (by kernel_rfl)
theorem dHu : aF CF r n 67 args h = s67 r n (aR args 0) (aR args 1) h :=
 (by kernel_rfl : aF CF r n 67 args h = D67 r n c67 x0 r67 (aH args) h).trans ((congrFun (congrFun (dKf r n) (aH args)) h).trans (by kernel_rfl))
noncomputable def s71 (r : RT) (n : Nat) (x0 : DV) (h0 : Hp) : aI :=
 bnd (gO [x0] h0) fun v1 h1 =>
 bnd (aC 0 v1 h1) fun v2 h2 =>
 bnd (aC 1 v1 h2) fun v3 h3 =>
 some (v2, h3)
noncomputable abbrev c71 : Code := cf Tryz.f71
noncomputable abbrev r71 : K := aU CF Tryz.f71
noncomputable def D71 (r : RT) (n : Nat) (c : Code) (X : Nat → K) (k : K) : K := aM CF r 11 n c X r71 k
theorem dMk : D71 r n c71 x0 r71 = (K1 (s71 r n) 0) :=
 (by kernel_rfl)
theorem dIl : aF CF r n 71 args h = s71 r n (aR args 0) h :=
 (by kernel_rfl : aF CF r n 71 args h = D71 r n c71 x0 r71 (aH args) h).trans ((congrFun (congrFun (dMk r n) (aH args)) h).trans (by kernel_rfl))
noncomputable def s73 (r : RT) (n : Nat) (x0 x1 x2 : DV) (h0 : Hp) : aI :=
 bnd (r 30 [x0, (aE 9)] h0) fun v1 h1 =>
 bnd (aL [(aE 0), (aE 0)] 2 [(0, 1, x1), (1, 1, x2)] h1) fun v2 h2 =>
 bnd (r 82 [x0, v1, (aE 0), v2] h2) fun v3 h3 =>
 bnd (aC 0 v3 h3) fun v4 h4 =>
 bnd (aC 1 v3 h4) fun v5 h5 =>
 some (.t [v4, v5], h5)
noncomputable abbrev c73 : Code := cf Tryz.f73
noncomputable abbrev r73 : K := aU CF Tryz.f73
noncomputable def D73 (r : RT) (n : Nat) (c : Code) (X : Nat → K) (k : K) : K := aM CF r 17 n c X r73 k
theorem dLj : D73 r n c73 x0 r73 = (K3 (s73 r n) 0 1 2) :=
 (by kernel_rfl)
theorem cPl : aF CF r n 73 args h = s73 r n (aR args 0) (aR args 1) (aR args 2) h :=
 (by kernel_rfl : aF CF r n 73 args h = D73 r n c73 x0 r73 (aH args) h).trans ((congrFun (congrFun (dLj r n) (aH args)) h).trans (by kernel_rfl))
noncomputable def s75 (r : RT) (n : Nat) (x0 x1 x2 : DV) (h0 : Hp) : aI :=
 bnd (r 45 [x0, x1] h0) fun v1 h1 =>
 bnd (aD .eql v1 (aE 0) h1) fun v2 h2 =>
 aS v2 (
 some (.t [(aE 0), (aE 0), (.s []), (aE 24)], h2)) (
 bnd (r 99 [x2] h2) fun v3 h3 =>
 bnd (aC 0 v3 h3) fun v4 h4 =>
 bnd (aC 1 v3 h4) fun v5 h5 =>
 bnd (aC 2 v3 h5) fun v6 h6 =>
 bnd (bL jZ h6) fun v7 h7 =>
 bnd (aG 6 v7 v4 h7) fun _ h8 =>
 bnd (aD .neq v6 (aE 0) h8) fun v9 h9 =>
 aS v9 (
 some (.t [(aE 0), v5, (.s []), v6], h9)) (
 bnd (aK 6 v7 (resv 1 h9)) fun v10 h10 =>
 bnd (r 77 [x0, v1] h10) fun v11 h11 =>
 cnd (bG (aK 6 v7 h11) v10 && true) (
 bnd (r 100 [v10, v11] h11) fun v12 h12 =>
 bnd (aC 0 v12 h12) fun v13 h13 =>
 bnd (aC 1 v12 h13) fun v14 h14 =>
 bnd (aC 2 v12 h14) fun v15 h15 =>
 bnd (iK (bW 0 h9.next) [(.s []), (aE 0), (aE 0), (aE 0), .l0, .l0] h15) fun v16 h16 =>
 bnd (aG 6 v16 v13 h16) fun v17 h17 =>
 bnd (aD .neq v15 (aE 0) h17) fun v18 h18 =>
 aS v18 (
 some (.t [(aE 0), (aE 0), v14, v15], h18)) (
 bnd (aK 6 v16 h18) fun v19 h19 =>
 bnd (r 101 [x0, v1, v19] h19) fun v20 h20 =>
 bnd (aC 0 v20 h20) fun v21 h21 =>
 bnd (aC 1 v20 h21) fun v22 h22 =>
 bnd (aD .neq v22 (aE 0) h22) fun v23 h23 =>
 aS v23 (
 some (.t [(aE 0), (aE 0), (.s []), v22], h23)) (
 some (.t [v21, (aE 0), (.s []), (aE 0)], h23))))))
noncomputable abbrev c75 : Code := cf Tryz.f75
noncomputable abbrev r75 : K := aU CF Tryz.f75
noncomputable def D75 (r : RT) (n : Nat) (c : Code) (X : Nat → K) (k : K) : K := aM CF r 56 n c X r75 k
theorem dOk : D75 r n c75 x0 r75 = (K3 (s75 r n) 0 1 2) :=
 (by kernel_rfl)
theorem dGg : aF CF r n 75 args h = s75 r n (aR args 0) (aR args 1) (aR args 2) h :=
 (by kernel_rfl : aF CF r n 75 args h = D75 r n c75 x0 r75 (aH args) h).trans ((congrFun (congrFun (dOk r n) (aH args)) h).trans (by kernel_rfl))
noncomputable def bY (r : RT) (n : Nat) (x5 : DV) (h0 : Hp) : aI :=
 some (x5, h0)
noncomputable def cV (r : RT) (n : Nat) (kk5 : dJ) (x0 x1 x5 x6 : DV) (h0 : Hp) : aI :=
 bnd (aD .sub x6 (aE 1) h0) fun v1 h1 =>
  kk5 x0 x1 x5 v1 h1
noncomputable def eG (r : RT) (n : Nat) (kk5 : dJ) (x0 x1 x5 x6 x7 : DV) (h0 : Hp) : aI :=
 bnd (bA 1 16 x7 x5 h0) fun v1 h1 =>
 bnd (r 35 [x0, x1] h1) fun v2 h2 =>
  cV r n kk5 x0 v2 v1 x6 h2
noncomputable def aHd (r : RT) (n : Nat) (kk5 : dJ) (kk12 : TT8) (x0 x1 x5 x6 x7 x8 x34 x35 : DV) (h0 : Hp) : aI :=
 bnd (aD .lss x35 x34 h0) fun v1 h1 =>
 aS v1 (
 bnd (r 51 [x0, x8, x35] h1) fun v2 h2 =>
 bnd (r 33 [x0, v2] h2) fun v3 h3 =>
 bnd (aC 0 v3 h3) fun v4 h4 =>
 bnd (aC 1 v3 h4) fun v5 h5 =>
 bnd (aL [(.s [])] 1 [(0, 1, v4)] h5) fun v6 h6 =>
 bnd (bA 1 16 x7 v6 h6) fun v7 h7 =>
 bnd (aD .add x35 (aE 1) h7) fun v8 h8 =>
      kk12 x0 x1 x5 x6 v7 x8 x34 v8 h8) (
      eG r n kk5 x0 x1 x5 x6 x7 h1)
noncomputable def sO (r : RT) (n : Nat) (kk5 : dJ) (m : Nat) : TT8 :=
 Nat.rec (motive := fun _ => TT8) (fun _ _ _ _ _ _ _ _ _ => none) (fun _ ih => aHd r n kk5 ih) m
noncomputable def bJy (r : RT) (n : Nat) (kk5 : dJ) : TT8 := sO r n kk5 n
noncomputable def aNv (r : RT) (n : Nat) (kk5 : dJ) (x0 x1 x5 x6 x7 x8 x34 x35 : DV) (h0 : Hp) : aI :=
 bJy r n kk5 x0 x1 x5 x6 x7 x8 x34 x35 h0
noncomputable def bZo (r : RT) (n : Nat) (kk5 : dJ) (x0 x1 x5 x6 x7 x8 : DV) (h0 : Hp) : aI :=
 bnd (aO x0 h0) fun v1 h1 =>
 bnd (aB 0 v1 h1) fun v2 h2 =>
 bnd (aA v2 h2) fun v3 h3 =>
 bnd (eJ [v3, x8] h3) fun v4 h4 =>
  aNv r n kk5 x0 x1 x5 x6 x7 x8 v4 (aE 0) h4
noncomputable def bZe (r : RT) (n : Nat) (kk5 : dJ) (x0 x1 x5 x6 x7 : DV) (h0 : Hp) : aI :=
 bnd (r 51 [x0, x1, (aE 3)] h0) fun v1 h1 =>
  bZo r n kk5 x0 x1 x5 x6 x7 v1 h1
noncomputable def bYk (r : RT) (n : Nat) (kk5 : dJ) (x0 x1 x5 x6 : DV) (h0 : Hp) : aI :=
 bZe r n kk5 x0 x1 x5 x6 .l0 h0
noncomputable def bUb (r : RT) (n : Nat) (kk5 : dJ) (x0 x1 x5 x6 : DV) (h0 : Hp) : aI :=
 bnd (aD .gtr x6 (aE 0) h0) fun v1 h1 =>
 bnd (gD v1 true (some (x0, h1)) h1) fun v2 h2 =>
 bnd (gD v1 true (some (x1, h2)) h2) fun v3 h3 =>
 bnd (gD v1 true (r 67 [v2, v3] h3) h3) fun v4 h4 =>
 bnd (aP v1 v4 (.b false) h4) fun v5 h5 =>
 aS v5 (
   bYk r n kk5 x0 x1 x5 x6 h5) (
   bY r n x5 h5)
noncomputable def aHt (r : RT) (n : Nat) (m : Nat) : dJ :=
 Nat.rec (motive := fun _ => dJ) (fun _ _ _ _ _ => none) (fun _ ih => bUb r n ih) m
noncomputable def cPx (r : RT) (n : Nat) : dJ := aHt r n n
noncomputable def bQz (r : RT) (n : Nat) (x0 x1 x5 x6 : DV) (h0 : Hp) : aI :=
 cPx r n x0 x1 x5 x6 h0
noncomputable def bVy (r : RT) (n : Nat) (x0 x1 x5 : DV) (h0 : Hp) : aI :=
 bnd (aO x0 h0) fun v1 h1 =>
 bnd (aB 0 v1 h1) fun v2 h2 =>
 bnd (aA v2 h2) fun v3 h3 =>
 bnd (zZ [v3] h3) fun v4 h4 =>
  bQz r n x0 x1 x5 v4 h4
noncomputable def bRf (r : RT) (n : Nat) (x0 x1 : DV) (h0 : Hp) : aI :=
 bVy r n x0 x1 .l0 h0
noncomputable def s77 (r : RT) (n : Nat) (x0 x1 : DV) (h0 : Hp) : aI :=
 bRf r n x0 x1 h0
noncomputable abbrev c77 : Code := cf Tryz.f77
noncomputable abbrev aUr : Code := cR c77
noncomputable abbrev aWu : Code := cR aUr
noncomputable abbrev dHi : Code := cR aWu
noncomputable abbrev aMw : Code := cL aWu
noncomputable abbrev bIb : Code := cR aMw
noncomputable abbrev aUd : Code := cL bIb
noncomputable abbrev nA : Code := cL aUd
noncomputable abbrev bAk : Code := cR nA
noncomputable abbrev dHo : Code := cR bAk
noncomputable abbrev aHa : Code := cL bAk
noncomputable abbrev aIl : Code := cL aHa
noncomputable abbrev aJa : Code := cR aIl
noncomputable abbrev aHr : Code := cR aJa
noncomputable abbrev cZq : Code := cR aHr
noncomputable abbrev vH : Code := cL aHr
noncomputable abbrev aSv : Code := cR vH
noncomputable abbrev aJv : Code := cL aSv
noncomputable abbrev mE : Code := cL aJv
noncomputable abbrev bZb : Code := cL vH
noncomputable abbrev bYn : Code := cL aJa
noncomputable abbrev bGz : Code := cL aIl
noncomputable abbrev bVf : Code := cL nA
noncomputable abbrev bGg : Code := cL aMw
noncomputable abbrev bRb : Code := cL aUr
noncomputable abbrev bQe : Code := cL c77
noncomputable abbrev r77 : K := aU CF Tryz.f77
noncomputable def D77 (r : RT) (n : Nat) (c : Code) (X : Nat → K) (k : K) : K := aM CF r 59 n c X r77 k
theorem dCb : D77 r n dHi x0 r77 = (K1 (bY r n) 5) :=
 (by kernel_rfl)
theorem cRs (kk5 : dJ) : D77 r n dHo (xs x0 0 (K1 (bY r n) 5)) (K4 kk5 0 1 5 6) = (K4 (cV r n kk5) 0 1 5 6) :=
 (by kernel_rfl)
theorem cAu (kk5 : dJ) : D77 r n cZq (xs (xs x0 0 (K1 (bY r n) 5)) 1 (K4 (cV r n kk5) 0 1 5 6)) (K4 (cV r n kk5) 0 1 5 6) = (K5 (eG r n kk5) 0 1 5 6 7) :=
 (by kernel_rfl)
theorem bTe (kk5 : dJ) (kk12 : TT8) (q0 : TT1) (q1 : dJ) (q2 : cG) : D77 r n mE (xs (xs (xs x0 0 (K1 q0 5)) 1 (K4 q1 0 1 5 6)) 2 (K5 q2 0 1 5 6 7)) (K8 kk12 0 1 5 6 7 8 34 35) = fun (env : aZ) (h : Hp) =>
 bnd (aD .lss (env 35) (env 34) h) fun v1 h1 =>
 aS v1 (
 bnd (r 51 [(env 0), (env 8), (env 35)] h1) fun v2 h2 =>
 bnd (r 33 [(env 0), v2] h2) fun v3 h3 =>
 bnd (aC 0 v3 h3) fun v4 h4 =>
 bnd (aC 1 v3 h4) fun v5 h5 =>
 bnd (aL [(.s [])] 1 [(0, 1, v4)] h5) fun v6 h6 =>
 bnd (bA 1 16 (env 7) v6 h6) fun v7 h7 =>
 bnd (aD .add (env 35) (aE 1) h7) fun v8 h8 =>
      kk12 (env 0) (env 1) (env 5) (env 6) v7 (env 8) (env 34) v8 h8) (
      q2 (env 0) (env 1) (env 5) (env 6) (env 7) h1) := by kernel_rfl
theorem bDp (kk5 : dJ) (kk12 : TT8) : (fun (env : aZ) (h : Hp) =>
 bnd (aD .lss (env 35) (env 34) h) fun v1 h1 =>
 aS v1 (
 bnd (r 51 [(env 0), (env 8), (env 35)] h1) fun v2 h2 =>
 bnd (r 33 [(env 0), v2] h2) fun v3 h3 =>
 bnd (aC 0 v3 h3) fun v4 h4 =>
 bnd (aC 1 v3 h4) fun v5 h5 =>
 bnd (aL [(.s [])] 1 [(0, 1, v4)] h5) fun v6 h6 =>
 bnd (bA 1 16 (env 7) v6 h6) fun v7 h7 =>
 bnd (aD .add (env 35) (aE 1) h7) fun v8 h8 =>
      kk12 (env 0) (env 1) (env 5) (env 6) v7 (env 8) (env 34) v8 h8) (
      eG r n kk5 (env 0) (env 1) (env 5) (env 6) (env 7) h1)) = (K8 (aHd r n kk5 kk12) 0 1 5 6 7 8 34 35) := by kernel_rfl
theorem bYa (kk5 : dJ) (kk12 : TT8) : D77 r n mE (xs (xs (xs x0 0 (K1 (bY r n) 5)) 1 (K4 (cV r n kk5) 0 1 5 6)) 2 (K5 (eG r n kk5) 0 1 5 6 7)) (K8 kk12 0 1 5 6 7 8 34 35) = (K8 (aHd r n kk5 kk12) 0 1 5 6 7 8 34 35) :=
 (bTe r n kk5 kk12 (bY r n) (cV r n kk5) (eG r n kk5)).trans (bDp r n kk5 kk12)
theorem bJs (kk5 : dJ) (m : Nat) : aN (fun kk => D77 r n mE (xs (xs (xs x0 0 (K1 (bY r n) 5)) 1 (K4 (cV r n kk5) 0 1 5 6)) 2 (K5 (eG r n kk5) 0 1 5 6 7)) kk) m = (K8 (sO r n kk5 m) 0 1 5 6 7 8 34 35) := by
 induction m with
 | zero => exact (by kernel_rfl : aN (fun kk => D77 r n mE (xs (xs (xs x0 0 (K1 (bY r n) 5)) 1 (K4 (cV r n kk5) 0 1 5 6)) 2 (K5 (eG r n kk5) 0 1 5 6 7)) kk) 0 = (K8 (sO r n kk5 0) 0 1 5 6 7 8 34 35))
 | succ m ih =>
  refine (by kernel_rfl : aN (fun kk => D77 r n mE (xs (xs (xs x0 0 (K1 (bY r n) 5)) 1 (K4 (cV r n kk5) 0 1 5 6)) 2 (K5 (eG r n kk5) 0 1 5 6 7)) kk) (m + 1) = D77 r n mE (xs (xs (xs x0 0 (K1 (bY r n) 5)) 1 (K4 (cV r n kk5) 0 1 5 6)) 2 (K5 (eG r n kk5) 0 1 5 6 7)) (aN (fun kk => D77 r n mE (xs (xs (xs x0 0 (K1 (bY r n) 5)) 1 (K4 (cV r n kk5) 0 1 5 6)) 2 (K5 (eG r n kk5) 0 1 5 6 7)) kk) m)).trans ?_
  rw [ih]
  exact (bYa r n kk5 (sO r n kk5 m)).trans (by kernel_rfl)
theorem cDo (kk5 : dJ) : D77 r n aJv (xs (xs (xs x0 0 (K1 (bY r n) 5)) 1 (K4 (cV r n kk5) 0 1 5 6)) 2 (K5 (eG r n kk5) 0 1 5 6 7)) (K5 (eG r n kk5) 0 1 5 6 7) = (K8 (bJy r n kk5) 0 1 5 6 7 8 34 35) :=
 (by kernel_rfl : D77 r n aJv (xs (xs (xs x0 0 (K1 (bY r n) 5)) 1 (K4 (cV r n kk5) 0 1 5 6)) 2 (K5 (eG r n kk5) 0 1 5 6 7)) (K5 (eG r n kk5) 0 1 5 6 7) = aN (fun kk => D77 r n mE (xs (xs (xs x0 0 (K1 (bY r n) 5)) 1 (K4 (cV r n kk5) 0 1 5 6)) 2 (K5 (eG r n kk5) 0 1 5 6 7)) kk) n).trans ((bJs r n kk5 n).trans (by kernel_rfl))
theorem cDs (kk5 : dJ) : D77 r n aSv (xs (xs x0 0 (K1 (bY r n) 5)) 1 (K4 (cV r n kk5) 0 1 5 6)) (K5 (eG r n kk5) 0 1 5 6 7) = (K8 (aNv r n kk5) 0 1 5 6 7 8 34 35) :=
 (by kernel_rfl : D77 r n aSv (xs (xs x0 0 (K1 (bY r n) 5)) 1 (K4 (cV r n kk5) 0 1 5 6)) (K5 (eG r n kk5) 0 1 5 6 7) = D77 r n aJv (xs (xs (xs x0 0 (K1 (bY r n) 5)) 1 (K4 (cV r n kk5) 0 1 5 6)) 2 (K5 (eG r n kk5) 0 1 5 6 7)) (K5 (eG r n kk5) 0 1 5 6 7)).trans
 ((cDo r n kk5).trans (by kernel_rfl))
theorem cEk (kk5 : dJ) : D77 r n aHr (xs (xs x0 0 (K1 (bY r n) 5)) 1 (K4 (cV r n kk5) 0 1 5 6)) (K4 (cV r n kk5) 0 1 5 6) = D77 r n vH (xs (xs x0 0 (K1 (bY r n) 5)) 1 (K4 (cV r n kk5) 0 1 5 6)) (K5 (eG r n kk5) 0 1 5 6 7) :=
 congrArg (fun k => D77 r n vH (xs (xs x0 0 (K1 (bY r n) 5)) 1 (K4 (cV r n kk5) 0 1 5 6)) k) (cAu r n kk5)
theorem cPd (kk5 : dJ) : D77 r n vH (xs (xs x0 0 (K1 (bY r n) 5)) 1 (K4 (cV r n kk5) 0 1 5 6)) (K5 (eG r n kk5) 0 1 5 6 7) = D77 r n bZb (xs (xs x0 0 (K1 (bY r n) 5)) 1 (K4 (cV r n kk5) 0 1 5 6)) (K8 (aNv r n kk5) 0 1 5 6 7 8 34 35) :=
 congrArg (fun k => D77 r n bZb (xs (xs x0 0 (K1 (bY r n) 5)) 1 (K4 (cV r n kk5) 0 1 5 6)) k) (cDs r n kk5)
theorem cSv (kk5 : dJ) : D77 r n aHr (xs (xs x0 0 (K1 (bY r n) 5)) 1 (K4 (cV r n kk5) 0 1 5 6)) (K4 (cV r n kk5) 0 1 5 6) = (K6 (bZo r n kk5) 0 1 5 6 7 8) :=
 (cEk r n kk5).trans
 ((cPd r n kk5).trans
 ((by kernel_rfl)))
theorem cJn (kk5 : dJ) : D77 r n aJa (xs (xs x0 0 (K1 (bY r n) 5)) 1 (K4 (cV r n kk5) 0 1 5 6)) (K4 (cV r n kk5) 0 1 5 6) = D77 r n bYn (xs (xs x0 0 (K1 (bY r n) 5)) 1 (K4 (cV r n kk5) 0 1 5 6)) (K6 (bZo r n kk5) 0 1 5 6 7 8) :=
 congrArg (fun k => D77 r n bYn (xs (xs x0 0 (K1 (bY r n) 5)) 1 (K4 (cV r n kk5) 0 1 5 6)) k) (cSv r n kk5)
theorem cSs (kk5 : dJ) : D77 r n aJa (xs (xs x0 0 (K1 (bY r n) 5)) 1 (K4 (cV r n kk5) 0 1 5 6)) (K4 (cV r n kk5) 0 1 5 6) = (K5 (bZe r n kk5) 0 1 5 6 7) :=
 (cJn r n kk5).trans
 ((by kernel_rfl))
theorem cKn (kk5 : dJ) : D77 r n bAk (xs x0 0 (K1 (bY r n) 5)) (K4 kk5 0 1 5 6) = D77 r n aHa (xs x0 0 (K1 (bY r n) 5)) (K4 (cV r n kk5) 0 1 5 6) :=
 congrArg (fun k => D77 r n aHa (xs x0 0 (K1 (bY r n) 5)) k) (cRs r n kk5)
theorem cDv (kk5 : dJ) : D77 r n aIl (xs (xs x0 0 (K1 (bY r n) 5)) 1 (K4 (cV r n kk5) 0 1 5 6)) (K4 (cV r n kk5) 0 1 5 6) = D77 r n bGz (xs (xs x0 0 (K1 (bY r n) 5)) 1 (K4 (cV r n kk5) 0 1 5 6)) (K5 (bZe r n kk5) 0 1 5 6 7) :=
 congrArg (fun k => D77 r n bGz (xs (xs x0 0 (K1 (bY r n) 5)) 1 (K4 (cV r n kk5) 0 1 5 6)) k) (cSs r n kk5)
theorem cYw (kk5 : dJ) : D77 r n bAk (xs x0 0 (K1 (bY r n) 5)) (K4 kk5 0 1 5 6) = (K4 (bYk r n kk5) 0 1 5 6) :=
 (cKn r n kk5).trans
 ((by kernel_rfl : D77 r n aHa (xs x0 0 (K1 (bY r n) 5)) (K4 (cV r n kk5) 0 1 5 6) = D77 r n aIl (xs (xs x0 0 (K1 (bY r n) 5)) 1 (K4 (cV r n kk5) 0 1 5 6)) (K4 (cV r n kk5) 0 1 5 6)).trans
 ((cDv r n kk5).trans
 ((by kernel_rfl))))
theorem cNo (kk5 : dJ) : D77 r n nA (xs x0 0 (K1 (bY r n) 5)) (K4 kk5 0 1 5 6) = D77 r n bVf (xs x0 0 (K1 (bY r n) 5)) (K4 (bYk r n kk5) 0 1 5 6) :=
 congrArg (fun k => D77 r n bVf (xs x0 0 (K1 (bY r n) 5)) k) (cYw r n kk5)
theorem cNv (kk5 : dJ) : D77 r n nA (xs x0 0 (K1 (bY r n) 5)) (K4 kk5 0 1 5 6) = (K4 (bUb r n kk5) 0 1 5 6) :=
 (cNo r n kk5).trans
 ((by kernel_rfl))
theorem cMd (m : Nat) : aN (fun kk => D77 r n nA (xs x0 0 (K1 (bY r n) 5)) kk) m = (K4 (aHt r n m) 0 1 5 6) := by
 induction m with
 | zero => exact (by kernel_rfl : aN (fun kk => D77 r n nA (xs x0 0 (K1 (bY r n) 5)) kk) 0 = (K4 (aHt r n 0) 0 1 5 6))
 | succ m ih =>
  refine (by kernel_rfl : aN (fun kk => D77 r n nA (xs x0 0 (K1 (bY r n) 5)) kk) (m + 1) = D77 r n nA (xs x0 0 (K1 (bY r n) 5)) (aN (fun kk => D77 r n nA (xs x0 0 (K1 (bY r n) 5)) kk) m)).trans ?_
  rw [ih]
  exact (cNv r n (aHt r n m)).trans (by kernel_rfl)
theorem cXb : D77 r n aUd (xs x0 0 (K1 (bY r n) 5)) (K1 (bY r n) 5) = (K4 (cPx r n) 0 1 5 6) :=
 (by kernel_rfl : D77 r n aUd (xs x0 0 (K1 (bY r n) 5)) (K1 (bY r n) 5) = aN (fun kk => D77 r n nA (xs x0 0 (K1 (bY r n) 5)) kk) n).trans ((cMd r n n).trans (by kernel_rfl))
theorem cUo : D77 r n bIb x0 (K1 (bY r n) 5) = (K4 (bQz r n) 0 1 5 6) :=
 (by kernel_rfl : D77 r n bIb x0 (K1 (bY r n) 5) = D77 r n aUd (xs x0 0 (K1 (bY r n) 5)) (K1 (bY r n) 5)).trans
 ((cXb r n).trans (by kernel_rfl))
theorem cEy : D77 r n aWu x0 r77 = D77 r n aMw x0 (K1 (bY r n) 5) :=
 congrArg (fun k => D77 r n aMw x0 k) (dCb r n)
theorem cKt : D77 r n aMw x0 (K1 (bY r n) 5) = D77 r n bGg x0 (K4 (bQz r n) 0 1 5 6) :=
 congrArg (fun k => D77 r n bGg x0 k) (cUo r n)
theorem cTo : D77 r n aWu x0 r77 = (K3 (bVy r n) 0 1 5) :=
 (cEy r n).trans
 ((cKt r n).trans
 ((by kernel_rfl)))
theorem bZw : D77 r n aUr x0 r77 = D77 r n bRb x0 (K3 (bVy r n) 0 1 5) :=
 congrArg (fun k => D77 r n bRb x0 k) (cTo r n)
theorem cYr : D77 r n aUr x0 r77 = (K2 (bRf r n) 0 1) :=
 (bZw r n).trans
 ((by kernel_rfl))
theorem cUa : D77 r n c77 x0 r77 = D77 r n bQe x0 (K2 (bRf r n) 0 1) :=
 congrArg (fun k => D77 r n bQe x0 k) (cYr r n)
theorem dMn : D77 r n c77 x0 r77 = (K2 (s77 r n) 0 1) :=
 (cUa r n).trans
 ((by kernel_rfl))
theorem dIm : aF CF r n 77 args h = s77 r n (aR args 0) (aR args 1) h :=
 (by kernel_rfl : aF CF r n 77 args h = D77 r n c77 x0 r77 (aH args) h).trans ((congrFun (congrFun (dMn r n) (aH args)) h).trans (by kernel_rfl))
noncomputable def gR (r : RT) (n : Nat) (x10 : DV) (h0 : Hp) : aI :=
 some (.t [x10, (aE 0)], h0)
noncomputable def qG (r : RT) (n : Nat) (kk6 : cG) (x0 x10 x29 x30 x31 : DV) (h0 : Hp) : aI :=
 bnd (aD .lss x31 x30 h0) fun v1 h1 =>
 aS v1 (
 bnd (aJ 1 x29 x31 h1) fun v2 h2 =>
 bnd (aA v2 h2) fun v3 h3 =>
 bnd (aO x0 h3) fun v4 h4 =>
 bnd (aB 0 v4 h4) fun v5 h5 =>
 bnd (aA v5 h5) fun v6 h6 =>
 bnd (zN [v6, x10, x31, v3] h6) fun v7 h7 =>
 bnd (aD .add x31 (aE 1) h7) fun v8 h8 =>
      kk6 x0 x10 x29 x30 v8 h8) (
      gR r n x10 h1)
noncomputable def oF (r : RT) (n : Nat) (m : Nat) : cG :=
 Nat.rec (motive := fun _ => cG) (fun _ _ _ _ _ _ => none) (fun _ ih => qG r n ih) m
noncomputable def bPu (r : RT) (n : Nat) : cG := oF r n n
noncomputable def aXf (r : RT) (n : Nat) (x0 x10 x29 x30 x31 : DV) (h0 : Hp) : aI :=
 bPu r n x0 x10 x29 x30 x31 h0
noncomputable def bAm (r : RT) (n : Nat) (x0 x3 x10 : DV) (h0 : Hp) : aI :=
 bnd (bZ x3 h0) fun v1 h1 =>
  aXf r n x0 x10 x3 v1 (aE 0) h1
noncomputable def aYd (r : RT) (n : Nat) (x0 x3 x10 x11 : DV) (h0 : Hp) : aI :=
 bnd (aD .neq x11 (aE 0) h0) fun v1 h1 =>
 aS v1 (
 some (.t [(aE 0), x11], h1)) (
  bAm r n x0 x3 x10 h1)
noncomputable def aZe (r : RT) (n : Nat) (x0 x1 x2 x3 : DV) (h0 : Hp) : aI :=
 bnd (aO x0 h0) fun v1 h1 =>
 bnd (aB 0 v1 h1) fun v2 h2 =>
 bnd (aA v2 h2) fun v3 h3 =>
 bnd (bZ x3 h3) fun v4 h4 =>
 bnd (iR [v3, x1, x2, v4] h4) fun v5 h5 =>
 bnd (aC 0 v5 h5) fun v6 h6 =>
 bnd (aC 1 v5 h6) fun v7 h7 =>
  aYd r n x0 x3 v6 v7 h7
noncomputable def s82 (r : RT) (n : Nat) (x0 x1 x2 x3 : DV) (h0 : Hp) : aI :=
 aZe r n x0 x1 x2 x3 h0
noncomputable abbrev c82 : Code := cf Tryz.f82
noncomputable abbrev aVx : Code := cR c82
noncomputable abbrev bBj : Code := cR aVx
noncomputable abbrev bAw : Code := cR bBj
noncomputable abbrev dFj : Code := cR bAw
noncomputable abbrev aKz : Code := cL bAw
noncomputable abbrev bIp : Code := cR aKz
noncomputable abbrev aWr : Code := cL bIp
noncomputable abbrev xE : Code := cL aWr
noncomputable abbrev cPw : Code := cL aKz
noncomputable abbrev bHr : Code := cL bBj
noncomputable abbrev bZl : Code := cL aVx
noncomputable abbrev cAb : Code := cL c82
noncomputable abbrev r82 : K := aU CF Tryz.f82
noncomputable def D82 (r : RT) (n : Nat) (c : Code) (X : Nat → K) (k : K) : K := aM CF r 46 n c X r82 k
theorem cZo : D82 r n dFj x0 r82 = (K1 (gR r n) 10) :=
 (by kernel_rfl)
theorem cOp (kk6 : cG) : D82 r n xE (xs x0 0 (K1 (gR r n) 10)) (K5 kk6 0 10 29 30 31) = (K5 (qG r n kk6) 0 10 29 30 31) :=
 (by kernel_rfl)
theorem cIr (m : Nat) : aN (fun kk => D82 r n xE (xs x0 0 (K1 (gR r n) 10)) kk) m = (K5 (oF r n m) 0 10 29 30 31) := by
 induction m with
 | zero => exact (by kernel_rfl : aN (fun kk => D82 r n xE (xs x0 0 (K1 (gR r n) 10)) kk) 0 = (K5 (oF r n 0) 0 10 29 30 31))
 | succ m ih =>
  refine (by kernel_rfl : aN (fun kk => D82 r n xE (xs x0 0 (K1 (gR r n) 10)) kk) (m + 1) = D82 r n xE (xs x0 0 (K1 (gR r n) 10)) (aN (fun kk => D82 r n xE (xs x0 0 (K1 (gR r n) 10)) kk) m)).trans ?_
  rw [ih]
  exact (cOp r n (oF r n m)).trans (by kernel_rfl)
theorem cTn : D82 r n aWr (xs x0 0 (K1 (gR r n) 10)) (K1 (gR r n) 10) = (K5 (bPu r n) 0 10 29 30 31) :=
 (by kernel_rfl : D82 r n aWr (xs x0 0 (K1 (gR r n) 10)) (K1 (gR r n) 10) = aN (fun kk => D82 r n xE (xs x0 0 (K1 (gR r n) 10)) kk) n).trans ((cIr r n n).trans (by kernel_rfl))
theorem dBb : D82 r n bIp x0 (K1 (gR r n) 10) = (K5 (aXf r n) 0 10 29 30 31) :=
 (by kernel_rfl : D82 r n bIp x0 (K1 (gR r n) 10) = D82 r n aWr (xs x0 0 (K1 (gR r n) 10)) (K1 (gR r n) 10)).trans
 ((cTn r n).trans (by kernel_rfl))
theorem cCa : D82 r n bAw x0 r82 = D82 r n aKz x0 (K1 (gR r n) 10) :=
 congrArg (fun k => D82 r n aKz x0 k) (cZo r n)
theorem cIj : D82 r n aKz x0 (K1 (gR r n) 10) = D82 r n cPw x0 (K5 (aXf r n) 0 10 29 30 31) :=
 congrArg (fun k => D82 r n cPw x0 k) (dBb r n)
theorem cUp : D82 r n bAw x0 r82 = (K3 (bAm r n) 0 3 10) :=
 (cCa r n).trans
 ((cIj r n).trans
 ((by kernel_rfl)))
theorem cNa : D82 r n bBj x0 r82 = D82 r n bHr x0 (K3 (bAm r n) 0 3 10) :=
 congrArg (fun k => D82 r n bHr x0 k) (cUp r n)
theorem cWj : D82 r n bBj x0 r82 = (K4 (aYd r n) 0 3 10 11) :=
 (cNa r n).trans
 ((by kernel_rfl))
theorem cKq : D82 r n aVx x0 r82 = D82 r n bZl x0 (K4 (aYd r n) 0 3 10 11) :=
 congrArg (fun k => D82 r n bZl x0 k) (cWj r n)
theorem cSy : D82 r n aVx x0 r82 = (K4 (aZe r n) 0 1 2 3) :=
 (cKq r n).trans
 ((by kernel_rfl))
theorem dIi : D82 r n c82 x0 r82 = D82 r n cAb x0 (K4 (aZe r n) 0 1 2 3) :=
 congrArg (fun k => D82 r n cAb x0 k) (cSy r n)
theorem dKr : D82 r n c82 x0 r82 = (K4 (s82 r n) 0 1 2 3) :=
 (dIi r n).trans
 ((by kernel_rfl))
theorem cQv : aF CF r n 82 args h = s82 r n (aR args 0) (aR args 1) (aR args 2) (aR args 3) h :=
 (by kernel_rfl : aF CF r n 82 args h = D82 r n c82 x0 r82 (aH args) h).trans ((congrFun (congrFun (dKr r n) (aH args)) h).trans (by kernel_rfl))
noncomputable def fK (r : RT) (n : Nat) (x0 x1 x8 : DV) (h0 : Hp) : aI :=
 bnd (r 82 [x0, x1, (aE 2), x8] h0) fun v1 h1 =>
 bnd (aC 0 v1 h1) fun v2 h2 =>
 bnd (aC 1 v1 h2) fun v3 h3 =>
 some (.t [v2, v3], h3)
noncomputable def oI (r : RT) (n : Nat) (kk5 : fF) (x0 x1 x2 x8 x11 x12 : DV) (h0 : Hp) : aI :=
 bnd (aD .lss x12 x11 h0) fun v1 h1 =>
 aS v1 (
 bnd (fE x2 x12 h1) fun v2 h2 =>
 bnd (eC .i64 v2 h2) fun v3 h3 =>
 bnd (aL [(aE 0)] 1 [(0, 1, v3)] h3) fun v4 h4 =>
 bnd (bA 1 8 x8 v4 h4) fun v5 h5 =>
 bnd (aD .add x12 (aE 1) h5) fun v6 h6 =>
      kk5 x0 x1 x2 v5 x11 v6 h6) (
      fK r n x0 x1 x8 h1)
noncomputable def nV (r : RT) (n : Nat) (m : Nat) : fF :=
 Nat.rec (motive := fun _ => fF) (fun _ _ _ _ _ _ _ => none) (fun _ ih => oI r n ih) m
noncomputable def bId (r : RT) (n : Nat) : fF := nV r n n
noncomputable def aUw (r : RT) (n : Nat) (x0 x1 x2 x8 x11 x12 : DV) (h0 : Hp) : aI :=
 bId r n x0 x1 x2 x8 x11 x12 h0
noncomputable def aYw (r : RT) (n : Nat) (x0 x1 x2 x8 : DV) (h0 : Hp) : aI :=
 bnd (dU x2 h0) fun v1 h1 =>
  aUw r n x0 x1 x2 x8 v1 (aE 0) h1
noncomputable def aUs (r : RT) (n : Nat) (x0 x1 x2 : DV) (h0 : Hp) : aI :=
 aYw r n x0 x1 x2 .l0 h0
noncomputable def s83 (r : RT) (n : Nat) (x0 x1 x2 : DV) (h0 : Hp) : aI :=
 aUs r n x0 x1 x2 h0
noncomputable abbrev c83 : Code := cf Tryz.f83
noncomputable abbrev aWh : Code := cR c83
noncomputable abbrev aVl : Code := cR aWh
noncomputable abbrev dGi : Code := cR aVl
noncomputable abbrev aNc : Code := cL aVl
noncomputable abbrev bMh : Code := cR aNc
noncomputable abbrev aVg : Code := cL bMh
noncomputable abbrev rP : Code := cL aVg
noncomputable abbrev cQt : Code := cL aNc
noncomputable abbrev cQs : Code := cL aWh
noncomputable abbrev bKo : Code := cL c83
noncomputable abbrev r83 : K := aU CF Tryz.f83
noncomputable def D83 (r : RT) (n : Nat) (c : Code) (X : Nat → K) (k : K) : K := aM CF r 29 n c X r83 k
theorem cZb : D83 r n dGi x0 r83 = (K3 (fK r n) 0 1 8) :=
 (by kernel_rfl)
theorem cFz (kk5 : fF) (q0 : mN) : D83 r n rP (xs x0 0 (K3 q0 0 1 8)) (K6 kk5 0 1 2 8 11 12) = fun (env : aZ) (h : Hp) =>
 bnd (aD .lss (env 12) (env 11) h) fun v1 h1 =>
 aS v1 (
 bnd (fE (env 2) (env 12) h1) fun v2 h2 =>
 bnd (eC .i64 v2 h2) fun v3 h3 =>
 bnd (aL [(aE 0)] 1 [(0, 1, v3)] h3) fun v4 h4 =>
 bnd (bA 1 8 (env 8) v4 h4) fun v5 h5 =>
 bnd (aD .add (env 12) (aE 1) h5) fun v6 h6 =>
      kk5 (env 0) (env 1) (env 2) v5 (env 11) v6 h6) (
      q0 (env 0) (env 1) (env 8) h1) := by kernel_rfl
theorem bGf (kk5 : fF) : (fun (env : aZ) (h : Hp) =>
 bnd (aD .lss (env 12) (env 11) h) fun v1 h1 =>
 aS v1 (
 bnd (fE (env 2) (env 12) h1) fun v2 h2 =>
 bnd (eC .i64 v2 h2) fun v3 h3 =>
 bnd (aL [(aE 0)] 1 [(0, 1, v3)] h3) fun v4 h4 =>
 bnd (bA 1 8 (env 8) v4 h4) fun v5 h5 =>
 bnd (aD .add (env 12) (aE 1) h5) fun v6 h6 =>
      kk5 (env 0) (env 1) (env 2) v5 (env 11) v6 h6) (
      fK r n (env 0) (env 1) (env 8) h1)) = (K6 (oI r n kk5) 0 1 2 8 11 12) := by kernel_rfl
theorem cJi (kk5 : fF) : D83 r n rP (xs x0 0 (K3 (fK r n) 0 1 8)) (K6 kk5 0 1 2 8 11 12) = (K6 (oI r n kk5) 0 1 2 8 11 12) :=
 (cFz r n kk5 (fK r n)).trans (bGf r n kk5)
theorem cKw (m : Nat) : aN (fun kk => D83 r n rP (xs x0 0 (K3 (fK r n) 0 1 8)) kk) m = (K6 (nV r n m) 0 1 2 8 11 12) := by
 induction m with
 | zero => exact (by kernel_rfl : aN (fun kk => D83 r n rP (xs x0 0 (K3 (fK r n) 0 1 8)) kk) 0 = (K6 (nV r n 0) 0 1 2 8 11 12))
 | succ m ih =>
  refine (by kernel_rfl : aN (fun kk => D83 r n rP (xs x0 0 (K3 (fK r n) 0 1 8)) kk) (m + 1) = D83 r n rP (xs x0 0 (K3 (fK r n) 0 1 8)) (aN (fun kk => D83 r n rP (xs x0 0 (K3 (fK r n) 0 1 8)) kk) m)).trans ?_
  rw [ih]
  exact (cJi r n (nV r n m)).trans (by kernel_rfl)
theorem cZv : D83 r n aVg (xs x0 0 (K3 (fK r n) 0 1 8)) (K3 (fK r n) 0 1 8) = (K6 (bId r n) 0 1 2 8 11 12) :=
 (by kernel_rfl : D83 r n aVg (xs x0 0 (K3 (fK r n) 0 1 8)) (K3 (fK r n) 0 1 8) = aN (fun kk => D83 r n rP (xs x0 0 (K3 (fK r n) 0 1 8)) kk) n).trans ((cKw r n n).trans (by kernel_rfl))
theorem cUx : D83 r n bMh x0 (K3 (fK r n) 0 1 8) = (K6 (aUw r n) 0 1 2 8 11 12) :=
 (by kernel_rfl : D83 r n bMh x0 (K3 (fK r n) 0 1 8) = D83 r n aVg (xs x0 0 (K3 (fK r n) 0 1 8)) (K3 (fK r n) 0 1 8)).trans
 ((cZv r n).trans (by kernel_rfl))
theorem cEe : D83 r n aVl x0 r83 = D83 r n aNc x0 (K3 (fK r n) 0 1 8) :=
 congrArg (fun k => D83 r n aNc x0 k) (cZb r n)
theorem cHz : D83 r n aNc x0 (K3 (fK r n) 0 1 8) = D83 r n cQt x0 (K6 (aUw r n) 0 1 2 8 11 12) :=
 congrArg (fun k => D83 r n cQt x0 k) (cUx r n)
theorem dAn : D83 r n aVl x0 r83 = (K4 (aYw r n) 0 1 2 8) :=
 (cEe r n).trans
 ((cHz r n).trans
 ((by kernel_rfl)))
theorem cGr : D83 r n aWh x0 r83 = D83 r n cQs x0 (K4 (aYw r n) 0 1 2 8) :=
 congrArg (fun k => D83 r n cQs x0 k) (dAn r n)
theorem cSi : D83 r n aWh x0 r83 = (K3 (aUs r n) 0 1 2) :=
 (cGr r n).trans
 ((by kernel_rfl))
theorem dGm : D83 r n c83 x0 r83 = D83 r n bKo x0 (K3 (aUs r n) 0 1 2) :=
 congrArg (fun k => D83 r n bKo x0 k) (cSi r n)
theorem dMm : D83 r n c83 x0 r83 = (K3 (s83 r n) 0 1 2) :=
 (dGm r n).trans
 ((by kernel_rfl))
theorem cPy : aF CF r n 83 args h = s83 r n (aR args 0) (aR args 1) (aR args 2) h :=
 (by kernel_rfl : aF CF r n 83 args h = D83 r n c83 x0 r83 (aH args) h).trans ((congrFun (congrFun (dMm r n) (aH args)) h).trans (by kernel_rfl))
noncomputable def s84 (r : RT) (n : Nat) (x0 x1 : DV) (h0 : Hp) : aI :=
 bnd (aA x1 h0) fun v1 h1 =>
 bnd (aO v1 h1) fun v2 h2 =>
 bnd (aB 0 v2 h2) fun v3 h3 =>
 bnd (aA v3 h3) fun v4 h4 =>
 bnd (aDc [v4, x0] h4) fun v5 h5 =>
 bnd (gX .not v5 h5) fun v6 h6 =>
 some (v6, h6)
noncomputable abbrev c84 : Code := cf Tryz.f84
noncomputable abbrev r84 : K := aU CF Tryz.f84
noncomputable def D84 (r : RT) (n : Nat) (c : Code) (X : Nat → K) (k : K) : K := aM CF r 11 n c X r84 k
theorem dOu : D84 r n c84 x0 r84 = (K2 (s84 r n) 0 1) :=
 (by kernel_rfl)
theorem cQm : aF CF r n 84 args h = s84 r n (aR args 0) (aR args 1) h :=
 (by kernel_rfl : aF CF r n 84 args h = D84 r n c84 x0 r84 (aH args) h).trans ((congrFun (congrFun (dOu r n) (aH args)) h).trans (by kernel_rfl))
noncomputable def gT (r : RT) (n : Nat) (h0 : Hp) : aI :=
 some ((.i .i64 (Int.negSucc 0)), h0)
noncomputable def gM (r : RT) (n : Nat) (kk4 : dJ) (x0 x1 x7 x8 : DV) (h0 : Hp) : aI :=
 bnd (aD .lss x8 x7 h0) fun v1 h1 =>
 aS v1 (
 bnd (aJ 1 x0 x8 h1) fun v2 h2 =>
 bnd (aA v2 h2) fun v3 h3 =>
 bnd (cX CF r x1 [v3] h3) fun v4 h4 =>
 aS v4 (
 some (x8, h4)) (
 bnd (aD .add x8 (aE 1) h4) fun v5 h5 =>
    kk4 x0 x1 x7 v5 h5)) (
      gT r n h1)
noncomputable def iL (r : RT) (n : Nat) (m : Nat) : dJ :=
 Nat.rec (motive := fun _ => dJ) (fun _ _ _ _ _ => none) (fun _ ih => gM r n ih) m
noncomputable def bAn (r : RT) (n : Nat) : dJ := iL r n n
noncomputable def aKv (r : RT) (n : Nat) (x0 x1 x7 x8 : DV) (h0 : Hp) : aI :=
 bAn r n x0 x1 x7 x8 h0
noncomputable def aMh (r : RT) (n : Nat) (x0 x1 : DV) (h0 : Hp) : aI :=
 bnd (bZ x0 h0) fun v1 h1 =>
  aKv r n x0 x1 v1 (aE 0) h1
noncomputable def s89 (r : RT) (n : Nat) (x0 x1 : DV) (h0 : Hp) : aI :=
 aMh r n x0 x1 h0
noncomputable abbrev c89 : Code := cf Tryz.f89
noncomputable abbrev bBc : Code := cR c89
noncomputable abbrev dJl : Code := cR bBc
noncomputable abbrev aNd : Code := cL bBc
noncomputable abbrev bWi : Code := cR aNd
noncomputable abbrev aWm : Code := cL bWi
noncomputable abbrev yT : Code := cL aWm
noncomputable abbrev cQd : Code := cL aNd
noncomputable abbrev cPp : Code := cL c89
noncomputable abbrev r89 : K := aU CF Tryz.f89
noncomputable def D89 (r : RT) (n : Nat) (c : Code) (X : Nat → K) (k : K) : K := aM CF r 19 n c X r89 k
theorem cUb : D89 r n dJl x0 r89 = (K0 (gT r n)) :=
 (by kernel_rfl)
theorem cLt (kk4 : dJ) : D89 r n yT (xs x0 0 (K0 (gT r n))) (K4 kk4 0 1 7 8) = (K4 (gM r n kk4) 0 1 7 8) :=
 (by kernel_rfl)
theorem cGu (m : Nat) : aN (fun kk => D89 r n yT (xs x0 0 (K0 (gT r n))) kk) m = (K4 (iL r n m) 0 1 7 8) := by
 induction m with
 | zero => exact (by kernel_rfl : aN (fun kk => D89 r n yT (xs x0 0 (K0 (gT r n))) kk) 0 = (K4 (iL r n 0) 0 1 7 8))
 | succ m ih =>
  refine (by kernel_rfl : aN (fun kk => D89 r n yT (xs x0 0 (K0 (gT r n))) kk) (m + 1) = D89 r n yT (xs x0 0 (K0 (gT r n))) (aN (fun kk => D89 r n yT (xs x0 0 (K0 (gT r n))) kk) m)).trans ?_
  rw [ih]
  exact (cLt r n (iL r n m)).trans (by kernel_rfl)
theorem dBo : D89 r n aWm (xs x0 0 (K0 (gT r n))) (K0 (gT r n)) = (K4 (bAn r n) 0 1 7 8) :=
 (by kernel_rfl : D89 r n aWm (xs x0 0 (K0 (gT r n))) (K0 (gT r n)) = aN (fun kk => D89 r n yT (xs x0 0 (K0 (gT r n))) kk) n).trans ((cGu r n n).trans (by kernel_rfl))
theorem cZa : D89 r n bWi x0 (K0 (gT r n)) = (K4 (aKv r n) 0 1 7 8) :=
 (by kernel_rfl : D89 r n bWi x0 (K0 (gT r n)) = D89 r n aWm (xs x0 0 (K0 (gT r n))) (K0 (gT r n))).trans
 ((dBo r n).trans (by kernel_rfl))
theorem cJo : D89 r n bBc x0 r89 = D89 r n aNd x0 (K0 (gT r n)) :=
 congrArg (fun k => D89 r n aNd x0 k) (cUb r n)
theorem cEv : D89 r n aNd x0 (K0 (gT r n)) = D89 r n cQd x0 (K4 (aKv r n) 0 1 7 8) :=
 congrArg (fun k => D89 r n cQd x0 k) (cZa r n)
theorem dBh : D89 r n bBc x0 r89 = (K2 (aMh r n) 0 1) :=
 (cJo r n).trans
 ((cEv r n).trans
 ((by kernel_rfl)))
theorem dFz : D89 r n c89 x0 r89 = D89 r n cPp x0 (K2 (aMh r n) 0 1) :=
 congrArg (fun k => D89 r n cPp x0 k) (dBh r n)
theorem dPd : D89 r n c89 x0 r89 = (K2 (s89 r n) 0 1) :=
 (dFz r n).trans
 ((by kernel_rfl))
theorem bHw : aF CF r n 89 args h = s89 r n (aR args 0) (aR args 1) h :=
 (by kernel_rfl : aF CF r n 89 args h = D89 r n c89 x0 r89 (aH args) h).trans ((congrFun (congrFun (dPd r n) (aH args)) h).trans (by kernel_rfl))
end Go.Dd

