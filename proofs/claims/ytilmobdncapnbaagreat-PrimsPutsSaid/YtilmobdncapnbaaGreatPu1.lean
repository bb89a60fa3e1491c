/- A part of the proof: N O CH RF1 RF2 RF3 RF4 RF5 RF6 RF7 SM SN RS RG MF Qh Q0 Q1 Q2: each text has a comment of its own. -/
import Derived.Test.YtilmobdncapnbaaGreatPu0
import Derived.LoopN
import Derived.Scope
import Derived.OrdersIn
import Derived.LoopNIn
import Derived.LoopIn
import Derived.RangeFuncIn
import Derived.RangeFuncCalls
import Derived.RangeFuncLeaves
import Derived.Test.YtilmobdncapnbaaGreatProg
import Derived.KernelRfl
set_option linter.unusedVariables false
set_option linter.unusedSimpArgs false
set_option linter.constructorNameAsVariable false
set_option maxRecDepth 100000
namespace Go.Dd
open Go.RowKit (Below)
section
variable {C : Cfg} {G : Gd} {rec : FuncId → List DV → Hp → aH} {ops : Array Oper} {nt : Nat} {p0 : Pos}
theorem sE {listed : Array Bool} {i : Nat} : i ∈ Region.ready .any ops listed ↔ i < ops.size ∧ listed.getD i true = false ∧ ∃ o, ops[i]? = some o ∧ ∀ e ∈ o.after, Region.binds .any e = true → listed.getD e.on false = true := by
 unfold Region.ready
 rw [List.mem_filter]
 simp only [List.mem_range, Bool.and_eq_true, Bool.not_eq_eq_eq_not, Bool.not_true]
 constructor
 ·rintro ⟨h1, h2, h3⟩
  refine ⟨h1, h2, ops[i], by simp [h1], fun e he hb => ?_⟩
  simp only [h1, getElem?_pos, Option.map_some, Option.getD_some] at h3
  have := (Array.all_eq_true_iff_forall_mem.1 h3) e he
  simpa [hb] using this
 ·rintro ⟨h1, h2, o, ho, h3⟩
  refine ⟨h1, h2, ?_⟩
  simp only [ho, Option.map_some, Option.getD_some]
  refine Array.all_eq_true_iff_forall_mem.2 fun e he => ?_
  cases hb : Region.binds .any e with
  | false => simp
  | true => simp [h3 e he hb]
noncomputable def idp (C : Cfg) (ops : Array Oper) (p0 : Pos) (p : Nat) : Pos := bX (cG C.P (ops.toList.take p)) p0
structure Tr1 (C : Cfg) (rec : FuncId → List DV → Hp → aH) (ops : Array Oper) (nt : Nat) (p0 : Pos) (E : Nat → aV) (Hh : Nat → Hp) (V : Nat → DV) : Prop where
 ok : fE C.P ops = true
 st : ∀ p o, ops[p]? = some o → StepT C rec ops (Region.before ops) nt (idp C ops p0 p) E Hh V 0 [(none, Hh 0)] p o
theorem Tr1.same {E : Nat → aV} {Hh : Nat → Hp} {V : Nat → DV} (T : Tr1 C rec ops nt p0 E Hh V) {p : Nat} {o : Oper} (ho : ops[p]? = some o) (hc : bW C.P o.op ≠ .acts) (hm : bW C.P o.op ≠ .makes) : Hh (p + 1) = Hh p := by
 have hs := (T.st p o ho).step hm
 cases hcl : bW C.P o.op with
 | pure => exact (rW hcl _ _ _ hs).1
 | reads => exact oO hcl hs
 | makes => exact absurd hcl hm
 | acts => exact absurd hcl hc
def cYx (C : Cfg) (ops : Array Oper) (q : Nat) : Prop := q = 0 ∨ ∃ j oj, ops[j]? = some oj ∧ bW C.P oj.op = .acts ∧ q = j + 1
theorem oI {m : Array Nat} {i q : Nat} {Pv : Hp → Prop} {Hh : Nat → Hp} {tl : List (Option Nat × Hp)} : ∀ d, q ≤ d → qR m i Pv (iT C ops Hh 0 d ++ tl) →
  (∀ j oj, ops[j]? = some oj → bW C.P oj.op = .acts → q ≤ j → j < d → ¬ gK m j i = true) → qR m i Pv (iT C ops Hh 0 q ++ tl)
 | 0, hq, hc, _ => by have : q = 0 := by omega
                      subst this; exact hc
 | d + 1, hq, hc, hno => by
  by_cases e : q = d + 1
  ·subst e; exact hc
  ·have hq' : q ≤ d := by omega
   simp only [iT, Nat.zero_add] at hc
   cases ha : jN C ops d with
   | false =>
    rw [ha] at hc
    simp only [Bool.false_eq_true, if_false, List.nil_append] at hc
    exact oI d hq' hc fun j oj h1 h2 h3 h4 => hno j oj h1 h2 h3 (by omega)
   | true =>
    rw [ha] at hc
    simp only [if_true, List.cons_append, List.nil_append] at hc
    obtain ⟨_, h2⟩ := hc
    have ⟨oj, hoj, hcj⟩ : ∃ oj, ops[d]? = some oj ∧ bW C.P oj.op = .acts := by
     unfold jN at ha
     split at ha
     ·rename_i o ho; exact ⟨o, ho, by simpa using ha⟩
     ·cases ha
    rcases h2 with h2 | h2
    ·exact absurd h2 (hno d oj hoj hcj hq' (by omega))
    ·exact oI d hq' h2 fun j oj h1 h2 h3 h4 => hno j oj h1 h2 h3 (by omega)
theorem Tr1.value {E : Nat → aV} {Hh : Nat → Hp} {V : Nat → DV} (T : Tr1 C rec ops nt p0 E Hh V) {listed : Array Bool} {i q : Nat} {o : Oper} (ho : ops[i]? = some o) (hc : bW C.P o.op ≠ .acts) (hm : bW C.P o.op ≠ .makes)
  (hq : cYx C ops q) (hgap : ∀ j oj, ops[j]? = some oj → bW C.P oj.op = .acts → (j < q ↔ S listed j))
  (hni : ¬ S listed i) (hdown : ∀ j x, gK (Region.before ops) j x = true → S listed x → S listed j) (hpre : ∀ j, gK (Region.before ops) j i = true → S listed j) :
  bL C rec ops o (E i) (Hh q) = some (V i, Hh q) := by
 have hst := T.st i o ho
 cases hcl : bW C.P o.op with
 | acts => exact absurd hcl hc
 | makes => exact absurd hcl hm
 | pure => exact (rW hcl _ _ _ (hst.step hm)).2 _
 | reads =>
  rcases Nat.lt_or_ge i q with h | h
  ·rcases hq with rfl | ⟨j, oj, hj, haj, rfl⟩
   ·omega
   ·have hSj : S listed j := (hgap j oj hj haj).1 (by omega)
    have hij : i ≠ j := fun e => by subst e; exact hni hSj
    rcases (T.st j oj hj).acts haj i o (Nat.zero_le _) (by omega) ho hcl with h3 | h3
    ·exact absurd (hdown i j h3 hSj) hni
    ·exact sM hcl h3
  ·have h1 := hst.reads hcl
   rw [Nat.sub_zero] at h1
   have h2 := oI (q := q) i h h1 fun j oj hj haj hqj hji hord => by
    have := (hgap j oj hj haj).2 (hpre j hord)
    omega
   rcases hq with rfl | ⟨j, oj, hj, haj, rfl⟩
   ·exact h2.1
   ·simp only [iT, Nat.zero_add, (bGj hj).2 haj, if_true, List.cons_append, List.nil_append] at h2
    exact h2.1
theorem cRh {listed : Array Bool} {i j : Nat} (hi : i < listed.size) : S (listed.setIfInBounds i true) j ↔ (j = i ∨ S listed j) := by
 unfold S
 by_cases e : j = i
 ·subst e; simp [hi]
 ·simp [Array.getElem?_setIfInBounds_ne (Ne.symm e), e]
theorem qT {listed : Array Bool} {i : Nat} (hi : i < listed.size) : listed.getD i true = listed.getD i false := by
 simp [hi]
theorem cTz {V : Nat → DV} {env : aV} {listed : Array Bool} {i : Nat} {o : Oper} (ho : ops[i]? = some o) (hi : i < listed.size) (hni : ¬ S listed i) (t : Nat)
  (hlast : ∀ j oj, i < j → ops[j]? = some oj → oj.dst = some t → o.dst = some t → ¬ S listed j) :
  ∀ p, i < p → TS ops V env (listed.setIfInBounds i true) p t = if o.dst = some t then V i else TS ops V env listed p t := by
 have hbefore : ∀ p, p ≤ i → TS ops V env (listed.setIfInBounds i true) p = TS ops V env listed p := by
  intro p
  induction p with
  | zero => intro _; rfl
  | succ p ih =>
   intro h
   have e : (listed.setIfInBounds i true).getD p false = listed.getD p false := by simp [Array.getElem?_setIfInBounds_ne (show i ≠ p by omega)]
   simp only [TS, ih (by omega), e]
 intro p
 induction p with
 | zero => intro h; omega
 | succ p ih =>
  intro h
  by_cases hpi : p = i
  ·subst hpi
   have e1 : (listed.setIfInBounds p true).getD p false = true := by simp [hi]
   have e2 : ¬ listed.getD p false = true := hni
   simp only [TS, ho, hbefore p (Nat.le_refl _), e1, if_true, lH]
   rw [if_neg e2]
  ·have ih' := ih (by omega)
   have e : (listed.setIfInBounds i true).getD p false = listed.getD p false := by simp [Array.getElem?_setIfInBounds_ne (Ne.symm hpi)]
   cases hop : ops[p]? with
   | none => simp only [TS, hop]; exact ih'
   | some op =>
    simp only [TS, hop, e]
    split
    ·rename_i hl
     rw [lH, lH, ih']
     by_cases hd : op.dst = some t
     ·rw [if_pos hd, if_pos hd]
      by_cases hod : o.dst = some t
      ·exact absurd hl (hlast p op (by omega) hop hd hod)
      ·rw [if_neg hod]
     ·rw [if_neg hd, if_neg hd]
    ·exact ih'
def iQ (C : Cfg) (ops : Array Oper) (listed : Array Bool) (q i : Nat) : Prop := ∃ o, ops[i]? = some o ∧ bW C.P o.op = .makes ∧ S listed i ∧ q ≤ i
def GX (G : Gd) (N : Nat) (C : Cfg) (ops : Array Oper) (listed : Array Bool) (R : Nat → Nat) (q : Nat) : Gd := ⟨G.B, fun k => G.X k ∨ ∃ i, iQ C ops listed q i ∧ R i = k, N, G.W, G.ok⟩
structure Made (G : Gd) (C : Cfg) (ops : Array Oper) (p0 : Pos) (Hh : Nat → Hp) (ρ : dD) (w : World) (R : Nat → Nat) (i : Nat) : Prop where
 name : ρ (idp C ops p0 i) = some ⟨R i, 0, 0, none⟩
 low : G.B ≤ R i
 ex : ¬ G.X (R i)
 row : ∃ (arr : Array Value) (t : TypeId) (cs : List DV), w.heap[R i]? = some (.cells arr t (0, 0)) ∧ VRs ρ cs arr.toList ∧ Hh (i + 1) = ⟨(Hh i).next, Tr.set (.row .ex cs) (idp C ops p0 i) (Hh i).bl⟩
theorem aNf {E : Nat → aV} {Hh : Nat → Hp} {V : Nat → DV} (T : Tr1 C rec ops nt p0 E Hh V) {listed : Array Bool} {R : Nat → Nat} {N q : Nat} {ρ : dD} {w : World}
  (hmade : ∀ i, iQ C ops listed q i → Made G C ops p0 Hh ρ w R i) (hdist : ∀ i i', iQ C ops listed q i → iQ C ops listed q i' → R i = R i' → i = i') :
  ∀ p, q ≤ p → p ≤ ops.size → (∀ j oj, ops[j]? = some oj → q ≤ j → j < p → bW C.P oj.op ≠ .acts ∧ (bW C.P oj.op = .makes → S listed j)) →
  HR (GX G N C ops listed R q) ρ (Hh q) w → HR (GX G N C ops listed R p) ρ (Hh p) w := by
 intro p
 induction p with
 | zero => intro h1 _ _ H; have : q = 0 := by omega
           subst this; exact H
 | succ p ih =>
  intro h1 h2 hr H
  by_cases e : q = p + 1
  ·subst e; exact H
  ·have H' := ih (by omega) (by omega) (fun j oj hj hq hjp => hr j oj hj hq (by omega)) H
   obtain ⟨o, ho⟩ : ∃ o, ops[p]? = some o := ⟨ops[p], by simp [show p < ops.size by omega]⟩
   obtain ⟨ha, hm⟩ := hr p o ho (by omega) (by omega)
   have hsub : ∀ k, (GX G N C ops listed R (p + 1)).X k → (GX G N C ops listed R p).X k := by
    rintro k (hk | ⟨i, ⟨oi, h3, h4, h5, h6⟩, h7⟩)
    ·exact .inl hk
    ·exact .inr ⟨i, ⟨oi, h3, h4, h5, by omega⟩, h7⟩
   by_cases hmk : bW C.P o.op = .makes
   ·have hE : iQ C ops listed q p := ⟨o, ho, hmk, hm hmk, by omega⟩
    have hM := hmade p hE
    obtain ⟨arr, t, cs, r1, r2, r3⟩ := hM.row
    rw [r3]
    refine dUc (G := GX G N C ops listed R (p + 1)) H' rfl hsub (Nat.le_refl _) rfl hM.name r1 r2 hM.low ?_ (.inr ⟨p, ⟨o, ho, hmk, hm hmk, Nat.le_refl _⟩, rfl⟩)
    rintro (hk | ⟨i, ⟨oi, h3, h4, h5, h6⟩, h7⟩)
    ·exact hM.ex hk
    ·have := hdist i p ⟨oi, h3, h4, h5, by omega⟩ hE h7
     omega
   ·rw [T.same ho ha hmk]
    exact H'.weak rfl hsub (Nat.le_refl _) rfl
def Inv (DD : List Deferred) (C : Cfg) (G : Gd) (ops : Array Oper) (nt : Nat) (p0 : Pos) (N : Nat) (E : Nat → aV) (Hh : Nat → Hp) (V : Nat → DV) (ρ : dD) (w0 : World) (listed : Array Bool) (a : Act) (w : World) : Prop :=
 listed.size = ops.size ∧ (∀ j x, gK (Region.before ops) j x = true → S listed x → S listed j) ∧
 ∃ q, q ≤ ops.size ∧ cYx C ops q ∧ (∀ j oj, ops[j]? = some oj → bW C.P oj.op = .acts → (j < q ↔ S listed j)) ∧
 ∃ (ρ' : dD) (R : Nat → Nat), Ex G ρ ρ' ∧ HR (GX G N C ops listed R q) ρ' (Hh q) w ∧ EnvR ρ' (TS ops V (E 0) listed ops.size) a ∧ Kp G w0 w ∧ nt ≤ a.tmps.size ∧ a.defers = DD ∧
  (∀ i o, ops[i]? = some o → bW C.P o.op = .makes → ¬ S listed i → ρ' (idp C ops p0 i) = none) ∧
  (∀ i, iQ C ops listed q i → Made G C ops p0 Hh ρ' w R i) ∧ (∀ i i', iQ C ops listed q i → iQ C ops listed q i' → R i = R i' → i = i')
theorem bRq {i : Nat} {o : Oper} (ho : ops[i]? = some o) (hm : bW C.P o.op = .makes) : (idp C ops p0 i).toNat < p0.toNat + cG C.P ops.toList := by
 unfold idp
 rw [dZ]
 have hlt : i < ops.toList.length := by
  rcases Nat.lt_or_ge i ops.toList.length with h | h
  ·exact h
  ·simp at h; simp [Array.getElem?_eq_none h] at ho
 have key : ∀ (l : List Oper) (i : Nat), l[i]? = some o → cG C.P (l.take i) < cG C.P l := by
  intro l
  induction l with
  | nil => intro i h; simp at h
  | cons x l ih =>
   intro i h
   cases i with
   | zero => simp at h; subst h; simp [cG, hm]; omega
   | succ i => simp at h; have := ih i h; simp only [List.take_succ_cons, cG]; omega
 have := key ops.toList i (by simpa using ho)
 omega
theorem dEq {i i' : Nat} {o o' : Oper} (ho : ops[i]? = some o) (hm : bW C.P o.op = .makes) (ho' : ops[i']? = some o') (hm' : bW C.P o'.op = .makes) (hne : i ≠ i') : idp C ops p0 i ≠ idp C ops p0 i' := by
 have key : ∀ (l : List Oper) (i j : Nat) (o : Oper), l[i]? = some o → bW C.P o.op = .makes → i < j → cG C.P (l.take i) < cG C.P (l.take j) := by
  intro l
  induction l with
  | nil => intro i j o h; simp at h
  | cons x l ih =>
   intro i j o h hm hij
   cases j with
   | zero => omega
   | succ j =>
    cases i with
    | zero => simp at h; subst h; simp only [List.take_succ_cons, cG, hm, List.take_zero]; omega
    | succ i => simp at h; have := ih i j o h hm (by omega); simp only [List.take_succ_cons, cG]; omega
 intro e
 have e' := congrArg Pos.toNat e
 unfold idp at e'
 rw [dZ, dZ] at e'
 rcases Nat.lt_or_ge i i' with h | h
 ·have := key ops.toList i i' o (by simpa using ho) hm h; omega
 ·have := key ops.toList i' i o' (by simpa using ho') hm' (by omega); omega
theorem bUs {DD : List Deferred} (K : OkC C rec) {N : Nat} {E : Nat → aV} {Hh : Nat → Hp} {V : Nat → DV} (T : Tr1 C rec ops nt p0 E Hh V) (hN : N = p0.toNat + cG C.P ops.toList) (hGN : G.N ≤ p0.toNat) {ρ : dD} {w0 : World} {Q : Exit → Act → World → Prop}
  (hQ : ∀ ρ' a' w', Ex G ρ ρ' → HR G ρ' (Hh ops.size) w' → EnvR ρ' (E ops.size) a' → Kp G w0 w' → nt ≤ a'.tmps.size → a'.defers = DD → Q .normal a' w') :
  ∀ (fuel : Nat) (listed : Array Bool) (a : Act) (w : World), Inv DD C G ops nt p0 N E Hh V ρ w0 listed a w → ((List.range ops.size).filter fun i => !listed.getD i false).length ≤ fuel → wpAny C.P .any ops Q fuel listed a w := by
 have hlt : ∀ p, p < ops.size → ∃ o, ops[p]? = some o := fun p hp => ⟨ops[p], by simp [hp]⟩
 have hin : ∀ (j : Nat) oj, ops[j]? = some oj → j < ops.size := fun j oj hj => by
  rcases Nat.lt_or_ge j ops.size with h | h
  ·exact h
  ·simp [Array.getElem?_eq_none h] at hj
 have hend : ∀ listed a w, Inv DD C G ops nt p0 N E Hh V ρ w0 listed a w → (∀ i, i < ops.size → S listed i) → Q .normal a w := by
  rintro listed a w ⟨hsz, hdown, q, hq, hcand, hgap, ρ', R, h1, h2, h3, h4, h5, h6, h7, h8, h9⟩ hall
  have hH := aNf (G := G) T h8 h9 ops.size hq (Nat.le_refl _) (fun j oj hj hqj hjn => ⟨fun ha => by
   have := (hgap j oj hj ha).2 (hall j hjn)
   omega, fun _ => hall j hjn⟩) h2
  have hE : ∀ t, TS ops V (E 0) listed ops.size t = E ops.size t := fun t =>
   bSk (E := E) rfl (fun p o hp ho => (T.st p o ho).env) (fun p hp => hlt p hp) (fun j o hj _ _ => hall j hj) ops.size (Nat.le_refl _)
  refine hQ ρ' a w h1 (hH.weak rfl (fun k hk => .inl hk) (by show G.N ≤ N; omega) rfl) (fun t => ?_) h4 h5 h6
  rw [← hE t]
  exact h3 t
 have hready : ∀ listed, listed.size = ops.size → Region.ready .any ops listed = [] → ∀ i, i < ops.size → S listed i := by
  intro listed hsz hr i
  induction i using Nat.strongRecOn with
  | _ i ih =>
   intro hi
   obtain ⟨o, ho⟩ := hlt i hi
   by_cases hs : S listed i
   ·exact hs
   ·exfalso
    have hmem : i ∈ Region.ready .any ops listed := by
     rw [sE]
     refine ⟨hi, ?_, o, ho, fun e he hb => ?_⟩
     ·rw [qT (by omega)]
      unfold S at hs
      simpa using hs
     ·have := (dS T.ok ho).1 e he hb
      exact ih e.on this (by omega)
    rw [hr] at hmem
    cases hmem
 intro fuel
 induction fuel with
 | zero =>
  intro listed a w hI hfuel
  have hall : ∀ i, i < ops.size → S listed i := by
   intro i hi
   by_cases hs : S listed i
   ·exact hs
   ·exfalso
    have : i ∈ (List.range ops.size).filter fun i => !listed.getD i false := by
     rw [List.mem_filter]
     refine ⟨by simpa using hi, ?_⟩
     unfold S at hs
     simpa using hs
    have := List.length_pos_of_mem this
    omega
  refine ⟨?_, hend listed a w hI hall⟩
  cases hr : Region.ready .any ops listed with
  | nil => rfl
  | cons x xs =>
   have hx : x ∈ Region.ready .any ops listed := by rw [hr]; simp
   rw [sE] at hx
   have := hall x hx.1
   rw [qT (by rw [hI.1]; exact hx.1)] at hx
   unfold S at this
   rw [this] at hx
   cases hx.2.1
 | succ fuel ih =>
  intro listed a w hI hfuel
  refine ⟨fun hr => hend listed a w hI (hready listed hI.1 hr), fun i hi => ?_⟩
  obtain ⟨hsz, hdown, q, hq, hcand, hgap, ρ', R, h1, h2, h3, h4, h5, h6, h7, h8, h9⟩ := hI
  rw [sE] at hi
  obtain ⟨hisz, hni, o, ho, hpre0⟩ := hi
  rw [qT (by omega)] at hni
  have hnS : ¬ S listed i := by unfold S; rw [hni]; simp
  have hpre : ∀ j, gK (Region.before ops) j i = true → S listed j := by
   intro j hj
   obtain ⟨e, he, hb, h | h⟩ := aMp ho hj
   ·rw [← h]; exact hpre0 e he hb
   ·exact hdown j e.on h (hpre0 e he hb)
  have hst := T.st i o ho
  have hlook : ∀ t ∈ o.looksAt ops, TS ops V (E 0) listed ops.size t = E i t := by
   intro t ht
   rw [cMx (i := i) (fun j oj hij hj hd hS => ?_) ops.size (by omega)]
   ·exact bSk (E := E) rfl (fun p op hp hop => (T.st p op hop).env) (fun p hp => hlt p (by omega)) (fun j oj hj hoj hd => by
     rcases (dS T.ok ho).2.2 j oj hj hoj with h | ⟨h, _⟩
     ·exact hpre j h
     ·exact absurd ht ((Oper.apart_spec h).1 t hd)) i (Nat.le_refl _)
   ·rcases Nat.eq_or_lt_of_le hij with e | e
    ·subst e; exact hnS hS
    ·rcases (dS T.ok hj).2.2 i o e ho with h | ⟨h, _⟩
     ·exact hnS (hdown i j h hS)
     ·exact absurd ht ((Oper.apart_spec h).2.2 t hd)
  have hmkq : ∀ j oj, ops[j]? = some oj → bW C.P oj.op = .makes → j < q → S listed j := by
   intro j oj hj hmj hjq
   rcases hcand with rfl | ⟨l, ol, hl, hal, rfl⟩
   ·omega
   ·have hSl : S listed l := (hgap l ol hl hal).1 (by omega)
    have hjl : j ≠ l := fun e => by subst e; rw [hl] at hj; cases hj; rw [hal] at hmj; cases hmj
    rcases (dS T.ok hl).2.2 j oj (by omega) hj with h | ⟨_, h⟩
    ·exact hdown j l h hSl
    ·exact absurd ⟨.inr hmj, hal⟩ h
  have hdown' : ∀ j x, gK (Region.before ops) j x = true → S (listed.setIfInBounds i true) x → S (listed.setIfInBounds i true) j := by
   intro j x hjx hx
   rw [cRh (by omega)] at hx ⊢
   rcases hx with rfl | hx
   ·exact .inr (hpre j hjx)
   ·exact .inr (hdown j x hjx hx)
  have hTS : ∀ (ρ2 : dD) (v2 : Value), Ext ρ' ρ2 → VR ρ2 (V i) v2 → EnvR ρ2 (TS ops V (E 0) (listed.setIfInBounds i true) ops.size) (a.put o.dst v2) := by
   intro ρ2 v2 e1 e2 t
   rw [cTz ho (by omega) hnS t (fun j oj hij hj hd hod hS => by
    rcases (dS T.ok hj).2.2 i o hij ho with h | ⟨h, _⟩
    ·exact hnS (hdown i j h hS)
    ·exact (Oper.apart_spec h).2.1 t hod hd) ops.size (by omega)]
   have := EnvR.put h3 e1 e2 hst.fits h5 t
   rwa [lH] at this
  have hcount : ((List.range ops.size).filter fun j => !(listed.setIfInBounds i true).getD j false).length ≤ fuel := by
   have hmem : i ∈ (List.range ops.size).filter fun i => !listed.getD i false := by
    rw [List.mem_filter]
    exact ⟨by simpa using hisz, by simp [hni]⟩
   have hle : ((List.range ops.size).filter fun j => !(listed.setIfInBounds i true).getD j false).length < ((List.range ops.size).filter fun j => !listed.getD j false).length := by
    have hsub : ((List.range ops.size).filter fun j => !(listed.setIfInBounds i true).getD j false) = ((List.range ops.size).filter fun j => !listed.getD j false).filter (fun j => j != i) := by
     rw [List.filter_filter]
     apply List.filter_congr
     intro j hj
     by_cases e : j = i
     ·subst e; simp [show j < listed.size by omega]
     ·simp [Array.getElem?_setIfInBounds_ne (Ne.symm e), e]
    rw [hsub]
    exact List.length_filter_lt_length_iff_exists.2 ⟨i, hmem, by simp⟩
   omega
  have hS' : ∀ j, S (listed.setIfInBounds i true) j ↔ (j = i ∨ S listed j) := fun j => cRh (by omega)
  by_cases hmk : bW C.P o.op = .makes
  ·
   have hqi : q ≤ i := by
    rcases Nat.lt_or_ge i q with h | h
    ·exact absurd (hmkq i o ho hmk h) hnS
    ·exact h
   have hg := (dS T.ok ho).2.1 hmk
   have hbn := h7 i o ho hmk hnS
   have hst1 := hst.made hmk
   have hext : Ext ρ' (nP ρ' (idp C ops p0 i) ⟨w.heap.size, 0, 0, none⟩) := by
    intro x L hx
    by_cases e : x = idp C ops p0 i
    ·subst e; rw [hbn] at hx; cases hx
    ·rw [aY _ _ e]; exact hx
   have hE0 : dV C o (idp C ops p0 i) (TS ops V (E 0) listed ops.size) (Hh i) = some (V i, Hh (i + 1)) := by
    rw [← hst1]
    refine aAm fun x hx => aAz fun t ht => hlook t ?_
    unfold Oper.looksAt
    refine List.mem_append_left _ (List.mem_filterMap.2 ⟨x, by simpa using hx, ?_⟩)
    rw [ht]
   obtain ⟨cs, arr, t, v', m1, m2, m3, m4⟩ := dBq (w := w) h3 hE0 hbn
   have hidlt := bRq (p0 := p0) ho hmk
   have H2 := h2.early hbn (by have := h2.nx; simp only [GX] at this; omega) arr t
   unfold wpOp
   simp only [ho]
   rw [if_pos (by simp [Region.wanted, hg])]
   refine .inl ?_
   unfold Oper.wp
   rw [m1]
   show wpAny C.P .any ops Q fuel (listed.setIfInBounds i true) (a.put o.dst v') (w.alloc (.cells arr t))
   have hEarly : ∀ j, iQ C ops (listed.setIfInBounds i true) q j → j = i ∨ iQ C ops listed q j := by
    rintro j ⟨oj, e1, e2, e3, e4⟩
    rcases (hS' j).1 e3 with e | e
    ·exact .inl e
    ·exact .inr ⟨oj, e1, e2, e, e4⟩
   have hRlt : ∀ j, iQ C ops listed q j → R j < w.heap.size := fun j hj => h2.sz.2 _ (.inr ⟨j, hj, rfl⟩)
   have hjne : ∀ j, iQ C ops listed q j → j ≠ i := by
    rintro j ⟨oj, e1, e2, e3, e4⟩ e
    subst e; exact hnS e3
   refine ih _ _ _ ⟨by simpa using hsz, hdown', q, hq, hcand, fun j oj hj haj => ?_, nP ρ' (idp C ops p0 i) ⟨w.heap.size, 0, 0, none⟩, fun j => if j = i then w.heap.size else R j, ?_, ?_, hTS _ _ hext m4, ?_, by rw [pC]; exact h5, by rw [lJ]; exact h6, ?_, ?_, ?_⟩ hcount
   ·rw [hS' j, hgap j oj hj haj]
    constructor
    ·exact .inr
    ·rintro (h | h)
     ·subst h; rw [ho] at hj; cases hj; rw [hmk] at haj; cases haj
     ·exact h
   ·refine h1.trans ⟨hext, fun b L hb => ?_⟩
    by_cases e : b = idp C ops p0 i
    ·right
     rw [e]
     unfold idp
     rw [dZ]
     omega
    ·rw [aY _ _ e] at hb; exact .inl hb
   ·refine H2.weak rfl ?_ (Nat.le_refl _) rfl
    rintro k (hk | ⟨j, hj, hjk⟩)
    ·exact .inl (.inl hk)
    ·rcases hEarly j hj with rfl | hj'
     ·right; simpa using hjk.symm
     ·left; right
      refine ⟨j, hj', ?_⟩
      simpa [hjne j hj'] using hjk
   ·exact h4.trans (fQ (G := G) ⟨h2.sz.1, fun k hk => h2.sz.2 k (.inl hk)⟩ _)
   ·intro j oj hj hmj hSj
    have hji : j ≠ i := fun e => hSj ((hS' j).2 (.inl e))
    rw [aY _ _ (dEq hj hmj ho hmk hji)]
    exact h7 j oj hj hmj fun h => hSj ((hS' j).2 (.inr h))
   ·intro j hj
    rcases hEarly j hj with rfl | hj'
    ·refine ⟨by simp [cI], by simp; exact h2.sz.1, ?_, arr, t, cs, ?_, m2.mono hext, m3⟩
     ·simp only [if_true]
      intro hx
      have := h2.sz.2 _ (.inl hx)
      omega
     ·simp only [if_true]
      show (w.heap.push _)[w.heap.size]? = _
      simp
    ·have hM := h8 j hj'
     obtain ⟨arr', t', cs', r1, r2, r3⟩ := hM.row
     have hji := hjne j hj'
     refine ⟨?_, by simp [hji]; exact hM.low, by simp [hji]; exact hM.ex, arr', t', cs', ?_, r2.mono hext, r3⟩
     ·simp only [hji, if_false]; exact hext _ _ hM.name
     ·simp only [hji, if_false]
      rw [Below.heap_alloc _ _ _ (hRlt j hj')]
      exact r1
   ·intro j j' hj hj' he
    rcases hEarly j hj with rfl | hj1
    ·rcases hEarly j' hj' with rfl | hj1'
     ·rfl
     ·simp only [if_true, hjne j' hj1', if_false] at he
      have := hRlt j' hj1'
      omega
    ·rcases hEarly j' hj' with rfl | hj1'
     ·simp only [if_true, hjne j hj1, if_false] at he
      have := hRlt j hj1
      omega
     ·simp only [hjne j hj1, hjne j' hj1', if_false] at he
      exact h9 j j' hj1 hj1' he
  ·
   have hstep : ∃ q1 q2, q ≤ q1 ∧ q1 ≤ ops.size ∧ q2 ≤ ops.size ∧ q1 ≤ q2 ∧ cYx C ops q2 ∧ HR (GX G N C ops listed R q1) ρ' (Hh q1) w ∧
     bL C rec ops o (TS ops V (E 0) listed ops.size) (Hh q1) = some (V i, Hh q2) ∧
     (∀ j oj, ops[j]? = some oj → bW C.P oj.op = .acts → (j < q2 ↔ S (listed.setIfInBounds i true) j)) ∧
     (∀ j, iQ C ops (listed.setIfInBounds i true) q2 j → iQ C ops listed q1 j) := by
    rw [show bL C rec ops o (TS ops V (E 0) listed ops.size) = bL C rec ops o (E i) from funext fun h => aNi hlook]
    by_cases ha : bW C.P o.op = .acts
    ·have hqi : q ≤ i := by
      rcases Nat.lt_or_ge i q with h | h
      ·exact absurd ((hgap i o ho ha).1 h) hnS
      ·exact h
     refine ⟨i, i + 1, hqi, by omega, by omega, by omega, .inr ⟨i, o, ho, ha, rfl⟩, ?_, hst.step hmk, fun j oj hj haj => ?_, ?_⟩
     ·refine aNf (G := G) T h8 h9 i hqi (by omega) (fun j oj hj hqj hji => ⟨fun haj => ?_, fun hmj => ?_⟩) h2
      ·rcases (dS T.ok ho).2.2 j oj hji hj with h | ⟨_, h⟩
       ·have := (hgap j oj hj haj).2 (hpre j h); omega
       ·exact absurd ⟨.inl haj, ha⟩ h
      ·rcases (dS T.ok ho).2.2 j oj hji hj with h | ⟨_, h⟩
       ·exact hpre j h
       ·exact absurd ⟨.inr hmj, ha⟩ h
     ·rw [hS' j]
      constructor
      ·intro hlt'
       by_cases e : j = i
       ·exact .inl e
       ·right
        rcases (dS T.ok ho).2.2 j oj (by omega) hj with h | ⟨_, h⟩
        ·exact hpre j h
        ·exact absurd ⟨.inl haj, ha⟩ h
      ·rintro (h | h)
       ·omega
       ·rcases Nat.lt_or_ge i j with hij | hij
        ·rcases (dS T.ok hj).2.2 i o hij ho with h' | ⟨_, h'⟩
         ·exact absurd (hdown i j h' h) hnS
         ·exact absurd ⟨.inl ha, haj⟩ h'
        ·omega
     ·rintro j ⟨oj, e1, e2, e3, e4⟩
      rcases (hS' j).1 e3 with e | e
      ·omega
      ·exact ⟨oj, e1, e2, e, by omega⟩
    ·refine ⟨q, q, Nat.le_refl _, hq, hq, Nat.le_refl _, hcand, h2, T.value ho ha hmk hcand hgap hnS hdown hpre, fun j oj hj haj => ?_, ?_⟩
     ·rw [hS' j, hgap j oj hj haj]
      constructor
      ·exact .inr
      ·rintro (h | h)
       ·subst h; rw [ho] at hj; cases hj; exact absurd haj ha
       ·exact h
     ·rintro j ⟨oj, e1, e2, e3, e4⟩
      rcases (hS' j).1 e3 with e | e
      ·subst e; rw [ho] at e1; cases e1; exact absurd e2 hmk
      ·exact ⟨oj, e1, e2, e, e4⟩
   obtain ⟨q1, q2, k1, k2, k2', k12, k3, k4, k5, k6, k7⟩ := hstep
   refine aEg (aBx K k4 h3 k5) rfl ho k4 fun ρ2 w2 v2 e1 e2 e3 e4 => ?_
   have hEq : ∀ j, iQ C ops listed q1 j → iQ C ops listed q j := by
    rintro j ⟨oj, f1, f2, f3, f4⟩
    exact ⟨oj, f1, f2, f3, by omega⟩
   refine ih _ _ _ ⟨by simpa using hsz, hdown', q2, k2', k3, k6, ρ2, R, ?_, ?_, hTS _ _ e1.ext e2, ?_, by rw [pC]; exact h5, by rw [lJ]; exact h6, ?_, ?_, ?_⟩ hcount
   ·refine h1.trans ⟨e1.ext, fun b L hb => (e1.new b L hb).imp id fun h => ?_⟩
    simp only [GX] at h
    omega
   ·refine e3.weak rfl ?_ (Nat.le_refl _) rfl
    rintro k (hk | ⟨j, hj, hjk⟩)
    ·exact .inl hk
    ·exact .inr ⟨j, k7 j hj, hjk⟩
   ·exact h4.trans ⟨e4.low, fun k hk => e4.ex k (.inl hk)⟩
   ·intro j oj hj hmj hSj
    have hn := h7 j oj hj hmj fun h => hSj ((hS' j).2 (.inr h))
    cases hr : ρ2 (idp C ops p0 j) with
    | none => rfl
    | some L =>
     rcases e1.new _ _ hr with h | h
     ·rw [hn] at h; cases h
     ·have := bRq (p0 := p0) hj hmj
      simp only [GX] at h
      omega
   ·intro j hj
    have hj1 := k7 j hj
    have hM := h8 j (hEq j hj1)
    obtain ⟨arr', t', cs', r1, r2, r3⟩ := hM.row
    exact ⟨e1.ext _ _ hM.name, hM.low, hM.ex, arr', t', cs', by rw [e4.ex _ (.inr ⟨j, hj1, rfl⟩)]; exact r1, r2.mono e1.ext, r3⟩
   ·intro j j' hj hj' he
    exact h9 j j' (hEq j (k7 j hj)) (hEq j' (k7 j' hj')) he
theorem bTk {DD : List Deferred} (K : OkC C rec) {k : Dd.K} {r : DV × Hp} {env : aV} {h : Hp} {ρ : dD} {a : Act} {w : World} {Q : Exit → Act → World → Prop}
  (hok : fE C.P ops = true) (hp : iO C rec nt ops k env h = some r) (H : HR G ρ h w) (he : EnvR ρ env a) (hnt : nt ≤ a.tmps.size) (hd : a.defers = DD)
  (hQ : ∀ ρ' env' h' a' w', Ex G ρ ρ' → HR G ρ' h' w' → EnvR ρ' env' a' → Kp G w w' → nt ≤ a'.tmps.size → a'.defers = DD → k env' h' = some r → Q .normal a' w') :
  wpAny C.P .any ops Q ops.size (Array.replicate ops.size false) a { w with drawn := w.drawn + 1 } := by
 obtain ⟨E, Hh, V, e1, e2, e3, e4⟩ := sN (p0 := h.next) ops.toList 0 0 false [] _ env _ r hp (by simp) (fun _ => ⟨_, _, rfl⟩)
 simp only [Nat.zero_add, Array.length_toList, Nat.sub_zero] at e3 e4
 have T : Tr1 C rec ops nt h.next E Hh V := ⟨hok, fun p o ho => by
  have := (e4 p o (Nat.zero_le _) (by
   rcases Nat.lt_or_ge p ops.size with h | h
   ·exact h
   ·simp [Array.getElem?_eq_none h] at ho) ho).1
  rw [← e2] at this
  exact this⟩
 obtain ⟨n1, n2⟩ := aBg (cG C.P ops.toList) h
 have hNN : (resv (cG C.P ops.toList) h).next.toNat = h.next.toNat + cG C.P ops.toList := by rw [n1, dZ]
 refine (bUs (G := G) K T rfl H.nx (ρ := ρ) (w0 := w) (fun ρ' a' w' h1 h2 h3 h4 h5 h6 => hQ ρ' _ _ a' w' h1 h2 h3 h4 h5 h6 e3) ops.size _ a _ ?_ ?_)
 ·have hno : ∀ j, ¬ S (Array.replicate ops.size false) j := by
   intro j hj
   unfold S at hj
   simp [Array.getElem?_replicate] at hj
   split at hj <;> simp at hj
  have hnoE : ∀ j, ¬ iQ C ops (Array.replicate ops.size false) 0 j := by
   rintro j ⟨oj, _, _, h3, _⟩
   exact hno j h3
  refine ⟨by simp, fun j x _ hx => absurd hx (hno x), 0, Nat.zero_le _, .inl rfl, fun j oj hj ha => ⟨fun h => by omega, fun h => absurd h (hno j)⟩, ρ, fun _ => 0, Ex.refl G ρ, ?_, ?_, ?_, hnt, hd, ?_, fun j hj => absurd hj (hnoE j), fun j j' hj => absurd hj (hnoE j)⟩
  ·rw [e2]
   have := (H.reserve (cG C.P ops.toList)).congr (w' := { w with drawn := w.drawn + 1 }) rfl
   rw [hNN] at this
   refine this.weak rfl ?_ (Nat.le_refl _) rfl
   rintro k (hk | ⟨j, hj, _⟩)
   ·exact hk
   ·exact absurd hj (hnoE j)
  ·have hT : ∀ p, TS ops V (E 0) (Array.replicate ops.size false) p = E 0 := by
    intro p
    induction p with
    | zero => rfl
    | succ p ih =>
     simp only [TS, ih]
     split
     ·rename_i o ho
      rw [if_neg (show ¬ (Array.replicate ops.size false).getD p false = true from hno p)]
     ·rfl
   intro t
   rw [hT, e1]
   exact he t
  ·exact (Kp.refl G w).drew
  ·intro j oj hj hmj _
   cases hr : ρ (idp C ops h.next j) with
   | none => rfl
   | some L =>
    have h1 := H.lt _ _ hr
    unfold idp at h1
    rw [dZ] at h1
    omega
 ·have := List.length_filter_le (fun i => !(Array.replicate ops.size false).getD i false) (List.range ops.size)
  simpa using this
theorem bCj {DD : List Deferred} (K : OkC C rec) (hm : C.P.follows .mixedOrders = true) {id : Nat} {k : Dd.K} {r : DV × Hp} {env : aV} {h : Hp} {ρ : dD} {a : Act} {w : World} {Q : Exit → Act → World → Prop}
  (hok : fE C.P ops = true) (hp : iO C rec nt ops k env h = some r) (H : HR G ρ h w) (he : EnvR ρ env a) (hnt : nt ≤ a.tmps.size) (hd : a.defers = DD)
  (hQ : ∀ ρ' env' h' a' w', Ex G ρ ρ' → HR G ρ' h' w' → EnvR ρ' env' a' → Kp G w w' → nt ≤ a'.tmps.size → a'.defers = DD → k env' h' = some r → Q .normal a' w') :
  (Code.region id ops true).wp C.P Q a w :=
 wp_region_any hm (bTk K hok hp H he hnt hd hQ)
end
end Go.Dd

namespace Go.Dd
open Go.RowKit (Below)
section
variable {C : Cfg} {G : Gd} {rec : FuncId → List DV → Hp → aH} {nt n : Nat}
def St (DD : List Deferred) (G : Gd) (nt : Nat) (ρ : dD) (w0 : World) (k : K) (r : DV × Hp) (a : Act) (w : World) : Prop :=
 ∃ ρ' env h, Ex G ρ ρ' ∧ HR G ρ' h w ∧ EnvR ρ' env a ∧ Kp G w0 w ∧ nt ≤ a.tmps.size ∧ a.defers = DD ∧ k env h = some r
def QQ (DD : List Deferred) (G : Gd) (nt : Nat) (ρ : dD) (w0 : World) (X : Nat → K) (kr k : K) (r : DV × Hp) : Exit → Act → World → Prop
 | .normal, a, w => St DD G nt ρ w0 k r a w
 | .exit id, a, w => St DD G nt ρ w0 (X id) r a w
 | .ret, a, w => St DD G nt ρ w0 kr r a w
 | _, _, _ => False
theorem cEu {DD : List Deferred} (K : OkC C rec) (hm : C.P.follows .mixedOrders = true) {ρ : dD} {w0 : World} {r : DV × Hp} : ∀ (c : Code) (X : Nat → Dd.K) (kr k : Dd.K) (a : Act) (w : World),
  St DD G nt ρ w0 (aM C rec nt n c X kr k) r a w → c.wp C.P (QQ DD G nt ρ w0 X kr k r) a w := by
 intro c
 induction c with
 | skip => intro X kr k a w h; exact wp_skip h
 | region id ops dr =>
  intro X kr k a w h
  obtain ⟨ρ', env, hp, h1, h2, h3, h4, h5, h6, h7⟩ := h
  change (Bool.rec (motive := fun _ => Dd.K) (jD C rec nt ops ops.toList k) (Bool.rec (motive := fun _ => Dd.K) dO (iO C rec nt ops k) (fE C.P ops)) dr) env hp = some r at h7
  cases dr with
  | true =>
   dsimp only at h7
   cases hok : fE C.P ops with
   | false => rw [hok] at h7; cases h7
   | true =>
    rw [hok] at h7
    exact bCj K hm hok h7 h2 h3 h5 h6 fun ρ2 env2 h2' a2 w2 e1 e2 e3 e4 e5 e6 e7 => ⟨ρ2, env2, h2', h1.trans e1, e2, e3, h4.trans e4, e5, e6, e7⟩
  | false =>
   simp only [cond_false] at h7
   obtain ⟨env', h', hr, hk⟩ := yT ops.toList k env hp r h7
   refine wp_region ?_
   have := aOt (Q := QQ DD G nt ρ w0 X kr k r) K ops.toList 0 ρ' env hp a w (by simp) hr h2 h3 h5 h6 fun ρ2 a2 w2 e1 e2 e3 e4 e5 e6 => ⟨ρ2, env', h', h1.trans e1, e2, e3, h4.trans e4, e5, e6, hk⟩
   rw [List.range_eq_range']
   simpa using this
 | seq x y ihx ihy =>
  intro X kr k a w h
  refine wp_seq (wp_mono (ihx X kr (aM C rec nt n y X kr k) a w h) fun e a' w' hq => ?_)
  cases e with
  | normal => exact ihy X kr k a' w' hq
  | exit id => exact hq
  | ret => exact hq
  | goto l => exact hq
  | panic ch => exact hq
  | outgrown => exact hq
 | cond c x y ihx ihy =>
  intro X kr k a w h
  obtain ⟨ρ', env, hp, h1, h2, h3, h4, h5, h6, h7⟩ := h
  change aT (opr env c) (aM C rec nt n x X kr k env hp) (aM C rec nt n y X kr k env hp) = some r at h7
  have hc := bI h3 c
  unfold aT at h7
  split at h7 <;> (try (cases h7; done))
  ·rename_i hcb
   rw [hcb] at hc
   generalize hcv : a.eval c = cv at hc
   cases hc
   exact wp_cond_true hcv (ihx X kr k a w ⟨ρ', env, hp, h1, h2, h3, h4, h5, h6, h7⟩)
  ·rename_i hcb
   rw [hcb] at hc
   generalize hcv : a.eval c = cv at hc
   cases hc
   exact wp_cond_false hcv (ihy X kr k a w ⟨ρ', env, hp, h1, h2, h3, h4, h5, h6, h7⟩)
 | block id x ih =>
  intro X kr k a w h
  refine wp_block (wp_mono (ih (fun j => bif Nat.beq j id then k else X j) kr k a w h) fun e a' w' hq => ?_)
  cases e with
  | normal => exact hq
  | exit id' =>
   simp only [QQ] at hq
   simp only [Exit.inBlock, QQ]
   split
   ·rename_i e
    subst e
    have hb : Nat.beq id' id' = true := Nat.beq_refl id'
    rw [hb] at hq
    exact hq
   ·rename_i e
    have : Nat.beq id' id = false := by
     cases hb : Nat.beq id' id with
     | false => rfl
     | true => exact absurd (Nat.eq_of_beq_eq_true hb) e
    rw [this] at hq
    exact hq
  | ret => exact hq
  | goto l => exact hq
  | panic ch => exact hq
  | outgrown => exact hq
 | loop x ih =>
  intro X kr k a w h
  have key : ∀ (m : Nat) (a : Act) (w : World), St DD G nt ρ w0 (aO (fun kk => aM C rec nt n x X kr kk) m) r a w → Code.rounds C.P x (QQ DD G nt ρ w0 X kr k r) m a w := by
   intro m
   induction m with
   | zero =>
    rintro a w ⟨ρ', env, hp, h1, h2, h3, h4, h5, h6, h7⟩
    cases h7
   | succ m ihm =>
    intro a w hs
    rw [rounds_succ]
    refine wp_mono (ih X kr (aO (fun kk => aM C rec nt n x X kr kk) m) a w hs) fun e a' w' hq => ?_
    cases e with
    | normal => exact ihm a' w' hq
    | exit id => exact hq
    | ret => exact hq
    | goto l => exact hq
    | panic ch => exact hq
    | outgrown => exact hq
  exact wp_loop_rounds n (key n a w h)
 | rangeFunc f ps x y ihx ihy =>
  rintro X kr k a w ⟨ρ', env, hp, h1, h2, h3, h4, h5, h6, h7⟩
  cases h7
 | exit id => intro X kr k a w h; exact wp_exit h
 | scope x ih =>
  intro X kr k a w h
  refine wp_scope_straight (wp_mono (ih X kr k a w h) fun e a' w' hq => ?_)
  cases e with
  | goto l => exact hq
  | normal => exact hq
  | exit id => exact hq
  | ret => exact hq
  | panic ch => exact hq
  | outgrown => exact hq
 | label l => intro X kr k a w h; exact wp_label h
 | goto l =>
  rintro X kr k a w ⟨ρ', env, hp, h1, h2, h3, h4, h5, h6, h7⟩
  cases h7
 | ret => intro X kr k a w h; exact wp_ret h
 | refuse why =>
  rintro X kr k a w ⟨ρ', env, hp, h1, h2, h3, h4, h5, h6, h7⟩
  cases h7
def aHm (tmps : Array Value) (rv : ResultVar) : Sem Value :=
 match rv with
 | .tmp t => pure (tmps.getD t undef)
 | .cell q t => do loadVar t (← asAddr (tmps.getD q undef))
theorem vO (fn : Func) (tmps : Array Value) : results fn tmps = (do
  let vs ← fn.results.mapM (aHm tmps)
  pure (if h : vs.size = 1 then vs[0] else .tuple vs)) := by
 unfold results
 congr 2
theorem bIx {ρ : dD} {w : World} {h : Hp} {x : DV} {x' : Value} {t : TypeId} {k : DV → aH} {r : DV × Hp} (H : HR G ρ h w) (hx : VR ρ x x') (hr : aBe C t x h k = some r) :
  ∃ v v', (do loadVar t (← asAddr x') : Sem Value).run C.P w = .ok v' w ∧ VR ρ v v' ∧ k v = some r := by
 unfold aBe at hr
 split at hr <;> (try (cases hr; done))
 rename_i d i ht hi
 obtain ⟨v, h', hl, hk⟩ := dM hr
 have hconv : ∀ b o, x = .p b o → (Instr.loadAt t x') = (do loadVar t (← asAddr x')) := by
  rintro b o rfl
  cases hx
  simp [Instr.loadAt, Instr.sureAddr, asAddr]
 cases hd : jC d with
 | true =>
  rw [hd] at hl
  simp only [cond_true] at hl
  unfold aK at hl
  split at hl <;> (try (cases hl; done))
  rename_i b o
  split at hl <;> (try (cases hl; done))
  rename_i cs hc
  simp only [bE, bS] at hl
  obtain ⟨rfl, _⟩ := hl
  cases hx with
  | p _ _ L hL =>
   obtain ⟨c1, c2, _, vs, c4, c5, c6⟩ := eQ H hc hL
   have hrun := dG (P := C.P) vs rfl c6
   rw [c5] at hrun
   refine ⟨_, .agg vs.toArray, ?_, .a cs vs.toArray (by simpa using c4), hk⟩
   simp only [asAddr, Sem.run_bind, Sem.run_pure, Result.andThen_ok, loadVar, rA ht, hd, if_true, rS hi, hrun]
 | false =>
  rw [hd] at hl
  simp only [cond_false] at hl
  unfold aA at hl
  split at hl <;> (try (cases hl; done))
  rename_i b o
  split at hl <;> (try (cases hl; done))
  rename_i u' hc
  simp only [bE, bS] at hl
  obtain ⟨rfl, _⟩ := hl
  cases hx with
  | p _ _ L hL =>
   unfold cellD rowOf at hc
   split at hc <;> (try (cases hc; done))
   rename_i l hl
   split at hl <;> (try (cases hl; done))
   rename_i kd l0 hb
   simp only [bE] at hl
   subst hl
   split at hc <;> (try (cases hc; done))
   rename_i u0 hu
   split at hc <;> (try (cases hc; done))
   rename_i ho
   simp only [bE] at hc
   subst hc
   obtain ⟨v', h5, h6⟩ := H.cell b kd l0 L o u0 hb hL hu ho
   refine ⟨_, v', ?_, h6, hk⟩
   simp only [asAddr, Sem.run_bind, Sem.run_pure, Result.andThen_ok, loadVar, rA ht, hd, Bool.false_eq_true, if_false, run_load, h5]
theorem wH {ρ : dD} {w : World} {h : Hp} {env : aV} {a : Act} (H : HR G ρ h w) (he : EnvR ρ env a) {r : DV × Hp} : ∀ (l : List ResultVar) (k : List DV → aH), aXv C env h l k = some r →
  ∃ vs vs', (l.mapM (aHm a.tmps)).run C.P w = .ok vs' w ∧ VRs ρ vs vs' ∧ k vs = some r
 | [], k, hr => ⟨[], [], by simp, .nil, hr⟩
 | .tmp t :: l, k, hr => by
  obtain ⟨vs, vs', h1, h2, h3⟩ := wH H he l (fun vs => k (env t :: vs)) hr
  refine ⟨env t :: vs, a.tmps.getD t undef :: vs', ?_, .cons _ _ _ _ (he t) h2, h3⟩
  simp only [List.mapM_cons, Sem.run_bind, aHm, Result.andThen_ok, h1, Sem.run_pure]
 | .cell q t :: l, k, hr => by
  obtain ⟨v, v', h1, h2, h3⟩ := bIx (x' := a.tmps.getD q undef) H (he q) hr
  obtain ⟨vs, vs', h4, h5, h6⟩ := wH H he l (fun vs => k (v :: vs)) h3
  refine ⟨v :: vs, v' :: vs', ?_, .cons _ _ _ _ h2 h5, h6⟩
  simp only [List.mapM_cons, Sem.run_bind, aHm] at h1 ⊢
  simp only [h1, Result.andThen_ok, h4, Sem.run_pure]
theorem aXn {ρ : dD} {w : World} {h h1 : Hp} {env : aV} {a : Act} (H : HR G ρ h w) (he : EnvR ρ env a) {fn : Func} {v : DV} (hr : aR C fn env h = some (v, h1)) :
  h1 = h ∧ ∃ v', (results fn a.tmps).run C.P w = .ok v' w ∧ VR ρ v v' := by
 obtain ⟨us, vs', h2, h3, hk⟩ := wH H he _ _ hr
 unfold bZb at hk
 split at hk
 ·rename_i u
  simp only [bE, bS] at hk
  obtain ⟨rfl, rfl⟩ := hk
  cases h3 with
  | cons _ v' _ l' hv hn =>
   cases hn
   refine ⟨rfl, v', ?_, hv⟩
   rw [vO, Array.mapM_eq_mapM_toList]
   simp only [Sem.run_bind, Sem.run_map, h2, Result.andThen_ok, Sem.run_pure]
   simp
 ·rename_i hne
  simp only [bE, bS] at hk
  obtain ⟨rfl, rfl⟩ := hk
  have hl := h3.length
  have hne1 : vs'.length ≠ 1 := by
   intro e
   rw [e] at hl
   match us, hl with
   | [x], _ => exact hne x rfl
  refine ⟨rfl, .tuple vs'.toArray, ?_, .t _ _ (by simpa using h3)⟩
  rw [vO, Array.mapM_eq_mapM_toList]
  simp only [Sem.run_bind, Sem.run_map, h2, Result.andThen_ok, Sem.run_pure]
  rw [dif_neg (by simpa using hne1)]
structure POk (P : Program) : Prop where
 mixed : P.follows .mixedOrders = true
 names : ∀ (f : Nat) (fn : Func), P.funcs[f]? = some fn → (fn.name == "runtime.NumGoroutine") = false
theorem pV (K : OkC C rec) (hP : POk C.P) (n : Nat) (f : FuncId) : mI C.P G f (aF C rec n f) := by
 intro args h v h1 hr ρ w args' H hargs
 unfold aF at hr
 split at hr <;> (try (cases hr; done))
 rename_i fn hf
 split at hr <;> (try (cases hr; done))
 rename_i c hb
 refine .inl ⟨?_, ?_⟩
 ·unfold callFunc
  have hn : ¬ fn.name = "runtime.NumGoroutine" := by simpa using hP.names f fn hf
  simp [hf, hn, hb]
 ·refine calls_of_wp hf hb ?_
  have he : EnvR ρ (aI args) { tmps := args' ++ Array.replicate (fn.ntmps - args'.size) undef, defers := [] } := by
   intro t
   unfold aI
   have hlen := hargs.length
   simp only [Array.length_toList] at hlen
   by_cases ht : t < args.length
   ·have hg : args[t]? = some args[t] := by simp [ht]
    obtain ⟨v', h2, h3⟩ := hargs.get t _ hg
    simp only [Array.getElem?_toList] at h2
    rw [show args.getD t aW = args[t] by simp [List.getD, hg]]
    have : (args' ++ Array.replicate (fn.ntmps - args'.size) undef).getD t undef = v' := by
     simp [Array.getElem?_append_left (show t < args'.size by omega), h2]
    rw [this]
    exact h3
   ·have hg : args.getD t aW = aW := by simp [List.getD, List.getElem?_eq_none (Nat.le_of_not_lt ht)]
    rw [hg]
    have : (args' ++ Array.replicate (fn.ntmps - args'.size) undef).getD t undef = undef := by
     rw [Array.getD_eq_getD_getElem?, Array.getElem?_append_right (by omega)]
     simp only [Array.getElem?_replicate]
     split <;> rfl
    rw [this]
    exact .t [] #[] .nil
  have hst : St [] G fn.ntmps ρ w (aM C rec fn.ntmps n c (fun _ => dO) (aR C fn) (aR C fn)) (v, h1) { tmps := args' ++ Array.replicate (fn.ntmps - args'.size) undef, defers := [] } w :=
   ⟨ρ, aI args, h, Ex.refl G ρ, H, he, Kp.refl G w, by simp; omega, rfl, hr⟩
  refine wp_mono (cEu K hP.mixed c _ _ _ _ _ hst) fun e a' w' hq => ?_
  have hfin : St [] G fn.ntmps ρ w (aR C fn) (v, h1) a' w' → a'.defers = [] ∧ ∃ v', (results fn a'.tmps).run C.P w' = .ok v' w' ∧ mA G ρ w v h1 (.returned v') w' := by
   rintro ⟨ρ', env, h', e1, e2, e3, e4, e5, e6, e7⟩
   obtain ⟨rfl, v', r1, r2⟩ := aXn e2 e3 e7
   exact ⟨e6, v', r1, ρ', v', rfl, e1, r2, e2, e4⟩
  cases e with
  | normal => exact hfin hq
  | ret => exact hfin hq
  | exit id =>
   obtain ⟨ρ', env, h', e1, e2, e3, e4, e5, e6, e7⟩ := hq
   cases e7
  | goto l => exact hq.elim
  | panic ch => exact hq.elim
  | outgrown => exact hq.elim
theorem bQu (hP : POk C.P) (hI : ∀ G g F, C.I g = some F → mI C.P G g F) : ∀ (n : Nat) (G : Gd) (f : FuncId), mI C.P G f (fnD C n f)
 | 0, G, f => fun args h v h1 hr => by cases hr
 | n + 1, G, f => pV (rec := fnD C n) ⟨hI, fun G g => bQu hP hI n G g⟩ hP n f
end
end Go.Dd

namespace Go.Dd
open Go.RowKit (Below)
section
variable {C : Cfg} {G : Gd} {rec : FuncId → List DV → Hp → aH} {nt : Nat}
def nQ (h : Hp) : Prop := ∀ b o, h.bl.get b = some o → b.toNat < h.next.toNat
theorem HR.isFresh {ρ : dD} {h : Hp} {w : World} (H : HR G ρ h w) : nQ h := fun b o hb => by
 obtain ⟨L, hL⟩ := H.dom b o hb
 exact H.lt b L hL
def aNa (C : Cfg) (rec : FuncId → List DV → Hp → aH) (nt : Nat) (ops : Array Oper) (mA : aV → Hp → Prop) : Nat → Array Bool → aV → Hp → Prop
 | 0, listed, env, h => Region.ready .any ops listed = [] ∧ mA env h
 | f + 1, listed, env, h => (Region.ready .any ops listed = [] → mA env h) ∧
   ∀ i ∈ Region.ready .any ops listed, ∃ o v h', ops[i]? = some o ∧ cZ nt o.dst = true ∧ bL C rec ops o env h = some (v, h') ∧
    aNa C rec nt ops mA f (listed.setIfInBounds i true) (bP env o.dst v) h'
theorem bIf (K : OkC C rec) {ops : Array Oper} {mA : aV → Hp → Prop} {Q : Exit → Act → World → Prop} : ∀ (fuel : Nat) (listed : Array Bool) (ρ : dD) (env : aV) (h : Hp) (a : Act) (w : World),
  aNa C rec nt ops mA fuel listed env h → HR G ρ h w → EnvR ρ env a → nt ≤ a.tmps.size → a.defers = [] →
  (∀ ρ' env' h' a' w', mA env' h' → Ex G ρ ρ' → HR G ρ' h' w' → EnvR ρ' env' a' → Kp G w w' → nt ≤ a'.tmps.size → a'.defers = [] → Q .normal a' w') →
  wpAny C.P .any ops Q fuel listed a w
 | 0, listed, ρ, env, h, a, w, hp, H, he, hnt, hd, hQ => ⟨hp.1, hQ ρ env h a w hp.2 (Ex.refl G ρ) H he (Kp.refl G w) hnt hd⟩
 | f + 1, listed, ρ, env, h, a, w, hp, H, he, hnt, hd, hQ => by
  refine ⟨fun hr => hQ ρ env h a w (hp.1 hr) (Ex.refl G ρ) H he (Kp.refl G w) hnt hd, fun i hi => ?_⟩
  obtain ⟨o, v, h', ho, hf, hs, hn⟩ := hp.2 i hi
  refine aEg (aBx K H he hs) rfl ho H fun ρ' w' v' h2 h3 h4 h5 => ?_
  exact bIf K f _ ρ' _ h' _ w' hn h4 (he.put h2.ext h3 hf hnt) (by rw [pC]; exact hnt) (by rw [lJ]; exact hd)
   fun ρ2 env2 hh a2 w2 e0 e1 e2 e3 e4 e5 e6 => hQ ρ2 env2 hh a2 w2 e0 (h2.trans e1) e2 e3 (h5.trans e4) e5 e6
def rG (C : Cfg) (rec : FuncId → List DV → Hp → aH) (nt : Nat) : Code → (Nat → aV → Hp → Prop) → (aV → Hp → Prop) → (aV → Hp → Prop) → aV → Hp → Prop
 | .skip, _, _, N => N
 | .region _ ops dr, _, _, N => fun env h => if dr then (aNa C rec nt ops (fun e h => nQ h → N e h) ops.size (Array.replicate ops.size false) env h ∨
    (fE C.P ops = true ∧ ∃ k r, iO C rec nt ops k env h = some r ∧ ∀ env' h', k env' h' = some r → nQ h' → N env' h'))
   else ∃ env' h', aCd C rec nt ops ops.toList env h env' h' ∧ (nQ h' → N env' h')
 | .seq a b, X, R, N => rG C rec nt a X R (rG C rec nt b X R N)
 | .cond c a b, X, R, N => fun env h => (opr env c = .b true ∧ rG C rec nt a X R N env h) ∨ (opr env c = .b false ∧ rG C rec nt b X R N env h)
 | .block id a, X, R, N => rG C rec nt a (fun j => if j = id then N else X j) R N
 | .exit id, X, _, _ => X id
 | .scope a, X, R, N => rG C rec nt a X R N
 | .ret, _, R, _ => R
 | _, _, _, _ => fun _ _ => False
def StP (G : Gd) (nt : Nat) (ρ : dD) (w0 : World) (N : aV → Hp → Prop) (a : Act) (w : World) : Prop :=
 ∃ ρ' env h, Ex G ρ ρ' ∧ HR G ρ' h w ∧ EnvR ρ' env a ∧ Kp G w0 w ∧ nt ≤ a.tmps.size ∧ a.defers = [] ∧ N env h
def QP (G : Gd) (nt : Nat) (ρ : dD) (w0 : World) (X : Nat → aV → Hp → Prop) (R N : aV → Hp → Prop) : Exit → Act → World → Prop
 | .normal, a, w => StP G nt ρ w0 N a w
 | .exit id, a, w => StP G nt ρ w0 (X id) a w
 | .ret, a, w => StP G nt ρ w0 R a w
 | _, _, _ => False
theorem bIe (K : OkC C rec) (hm : C.P.follows .mixedOrders = true) {ρ : dD} {w0 : World} : ∀ (c : Code) (X : Nat → aV → Hp → Prop) (R N : aV → Hp → Prop) (a : Act) (w : World),
  StP G nt ρ w0 (rG C rec nt c X R N) a w → c.wp C.P (QP G nt ρ w0 X R N) a w := by
 intro c
 induction c with
 | skip => intro X R N a w h; exact wp_skip h
 | region id ops dr =>
  intro X R N a w h
  obtain ⟨ρ', env, hp, h1, h2, h3, h4, h5, h6, h7⟩ := h
  cases dr with
  | true =>
   simp only [rG, if_true] at h7
   rcases h7 with h7 | ⟨hok, k, r, h7, h8⟩
   ·refine wp_region_any hm (bIf K ops.size _ ρ' env hp a _ h7 (h2.congr rfl) h3 h5 h6 fun ρ2 env2 h2' a2 w2 e0 e1 e2 e3 e4 e5 e6 => ?_)
    exact ⟨ρ2, env2, h2', h1.trans e1, e2, e3, (h4.trans ((Kp.refl G w).drew)).trans e4, e5, e6, e0 e2.isFresh⟩
   ·exact bCj K hm hok h7 h2 h3 h5 h6 fun ρ2 env2 h2' a2 w2 e1 e2 e3 e4 e5 e6 e7 => ⟨ρ2, env2, h2', h1.trans e1, e2, e3, h4.trans e4, e5, e6, h8 _ _ e7 e2.isFresh⟩
  | false =>
   simp only [rG, Bool.false_eq_true, if_false] at h7
   obtain ⟨env', h', hr, hk⟩ := h7
   refine wp_region ?_
   have := aOt (Q := QP G nt ρ w0 X R N) K ops.toList 0 ρ' env hp a w (by simp) hr h2 h3 h5 h6 fun ρ2 a2 w2 e1 e2 e3 e4 e5 e6 => ⟨ρ2, env', h', h1.trans e1, e2, e3, h4.trans e4, e5, e6, hk e2.isFresh⟩
   rw [List.range_eq_range']
   simpa using this
 | seq x y ihx ihy =>
  intro X R N a w h
  refine wp_seq (wp_mono (ihx X R (rG C rec nt y X R N) a w h) fun e a' w' hq => ?_)
  cases e with
  | normal => exact ihy X R N a' w' hq
  | exit id => exact hq
  | ret => exact hq
  | goto l => exact hq
  | panic ch => exact hq
  | outgrown => exact hq
 | cond c x y ihx ihy =>
  intro X R N a w h
  obtain ⟨ρ', env, hp, h1, h2, h3, h4, h5, h6, h7⟩ := h
  have hc := bI h3 c
  rcases h7 with ⟨hcb, h7⟩ | ⟨hcb, h7⟩
  ·rw [hcb] at hc
   generalize hcv : a.eval c = cv at hc
   cases hc
   exact wp_cond_true hcv (ihx X R N a w ⟨ρ', env, hp, h1, h2, h3, h4, h5, h6, h7⟩)
  ·rw [hcb] at hc
   generalize hcv : a.eval c = cv at hc
   cases hc
   exact wp_cond_false hcv (ihy X R N a w ⟨ρ', env, hp, h1, h2, h3, h4, h5, h6, h7⟩)
 | block id x ih =>
  intro X R N a w h
  refine wp_block (wp_mono (ih (fun j => if j = id then N else X j) R N a w h) fun e a' w' hq => ?_)
  cases e with
  | normal => exact hq
  | exit id' =>
   simp only [QP] at hq
   simp only [Exit.inBlock]
   split
   ·rename_i e
    rw [if_pos e] at hq
    exact hq
   ·rename_i e
    rw [if_neg e] at hq
    exact hq
  | ret => exact hq
  | goto l => exact hq
  | panic ch => exact hq
  | outgrown => exact hq
 | loop x ih => rintro X R N a w ⟨ρ', env, hp, h1, h2, h3, h4, h5, h6, h7⟩; exact h7.elim
 | rangeFunc f ps x y ihx ihy => rintro X R N a w ⟨ρ', env, hp, h1, h2, h3, h4, h5, h6, h7⟩; exact h7.elim
 | exit id => intro X R N a w h; exact wp_exit h
 | scope x ih =>
  intro X R N a w h
  refine wp_scope_straight (wp_mono (ih X R N a w h) fun e a' w' hq => ?_)
  cases e with
  | goto l => exact hq
  | normal => exact hq
  | exit id => exact hq
  | ret => exact hq
  | panic ch => exact hq
  | outgrown => exact hq
 | label l => rintro X R N a w ⟨ρ', env, hp, h1, h2, h3, h4, h5, h6, h7⟩; exact h7.elim
 | goto l => rintro X R N a w ⟨ρ', env, hp, h1, h2, h3, h4, h5, h6, h7⟩; exact h7.elim
 | ret => intro X R N a w h; exact wp_ret h
 | refuse why => rintro X R N a w ⟨ρ', env, hp, h1, h2, h3, h4, h5, h6, h7⟩; exact h7.elim
def Le (h2 h1 : Hp) : Prop := ∀ G ρ w, HR G ρ h2 w → HR G ρ h1 w
theorem dCn (K : OkC C rec) (hP : POk C.P) {f : FuncId} {fn : Func} {c : Code} (hf : C.P.funcs[f]? = some fn) (hb : fn.body = some c) {F : List DV → Hp → aH}
  (hF : ∀ args h v h1, F args h = some (v, h1) → nQ h → rG C rec fn.ntmps c (fun _ _ _ => False) (fun env h' => ∃ h2, aR C fn env h' = some (v, h2) ∧ Le h2 h1)
   (fun env h' => ∃ h2, aR C fn env h' = some (v, h2) ∧ Le h2 h1) (aI args) h) : mI C.P G f F := by
 intro args h v h1 hr ρ w args' H hargs
 refine .inl ⟨?_, ?_⟩
 ·unfold callFunc
  have hn : ¬ fn.name = "runtime.NumGoroutine" := by simpa using hP.names f fn hf
  simp [hf, hn, hb]
 ·refine calls_of_wp hf hb ?_
  have he : EnvR ρ (aI args) { tmps := args' ++ Array.replicate (fn.ntmps - args'.size) undef, defers := [] } := by
   intro t
   unfold aI
   have hlen := hargs.length
   simp only [Array.length_toList] at hlen
   by_cases ht : t < args.length
   ·have hg : args[t]? = some args[t] := by simp [ht]
    obtain ⟨v', h2, h3⟩ := hargs.get t _ hg
    simp only [Array.getElem?_toList] at h2
    rw [show args.getD t aW = args[t] by simp [List.getD, hg]]
    have : (args' ++ Array.replicate (fn.ntmps - args'.size) undef).getD t undef = v' := by
     simp [Array.getElem?_append_left (show t < args'.size by omega), h2]
    rw [this]
    exact h3
   ·have hg : args.getD t aW = aW := by simp [List.getD, List.getElem?_eq_none (Nat.le_of_not_lt ht)]
    rw [hg]
    have : (args' ++ Array.replicate (fn.ntmps - args'.size) undef).getD t undef = undef := by
     rw [Array.getD_eq_getD_getElem?, Array.getElem?_append_right (by omega)]
     simp only [Array.getElem?_replicate]
     split <;> rfl
    rw [this]
    exact .t [] #[] .nil
  have hst : StP G fn.ntmps ρ w _ { tmps := args' ++ Array.replicate (fn.ntmps - args'.size) undef, defers := [] } w :=
   ⟨ρ, aI args, h, Ex.refl G ρ, H, he, Kp.refl G w, by simp; omega, rfl, hF args h v h1 hr H.isFresh⟩
  refine wp_mono (bIe K hP.mixed c _ _ _ _ _ hst) fun e a' w' hq => ?_
  have hfin : StP G fn.ntmps ρ w (fun env h' => ∃ h2, aR C fn env h' = some (v, h2) ∧ Le h2 h1) a' w' → a'.defers = [] ∧ ∃ v', (results fn a'.tmps).run C.P w' = .ok v' w' ∧ mA G ρ w v h1 (.returned v') w' := by
   rintro ⟨ρ', env, h', e1, e2, e3, e4, e5, e6, h2, e7, e8⟩
   obtain ⟨rfl, v', r1, r2⟩ := aXn e2 e3 e7
   exact ⟨e6, v', r1, ρ', v', rfl, e1, r2, e8 _ _ _ e2, e4⟩
  cases e with
  | normal => exact hfin hq
  | ret => exact hfin hq
  | exit id => obtain ⟨ρ', env, h', e1, e2, e3, e4, e5, e6, e7⟩ := hq; exact e7.elim
  | goto l => exact hq.elim
  | panic ch => exact hq.elim
  | outgrown => exact hq.elim
end
end Go.Dd

namespace Go.Dd
open Go.RowKit (Below)
section
variable {ro : Option Nat} {n : Nat} {P : Program} {Q : Exit → Act → World → Prop}
end
section
variable {C : Cfg} {G : Gd} {rec : FuncId → List DV → Hp → aH} {nt n : Nat}
end
end Go.Dd

namespace Go.Dd
open Go.RowKit (Below)
section
variable {G G' : Gd} {ρ : dD} {h : Hp} {w : World}
end
end Go.Dd

namespace Go.Dd
open Go.RowKit (Below)
structure ItC where
 gf : FuncId
 nt : Nat
 pre : Code
 b0 : Nat
 test : Code
 b1 : Nat
 rid : Nat
 front : List Oper
 y : Oper
 back : List Oper
 after : Code
 post : Code
 step : Code
 yd : Tmp
 yt : Tmp
 yx : Tmp
def ItC.ops (I : ItC) : Array Oper := (I.front ++ I.y :: I.back).toArray
def aMr : Nat → K := fun _ => dO
def ylB (v : DV) (b : Pos) : Bool := match v with
 | .yl b' => b' == b
 | _ => false
section
variable (C : Cfg) (rec : FuncId → List DV → Hp → aH) (n : Nat) (I : ItC)
noncomputable def aLh (b : Bool) (kr k : K) (e1 : aV) : Hp → aH := fun h =>
 cnd (cZ I.nt (some I.yd)) (jD C rec I.nt I.ops I.back (aM C rec I.nt n I.after aMr kr k) (bP e1 (some I.yd) (.b b)) h)
noncomputable def aTr (nt : Nat) (p : Tmp) (x y : Code) (env : aV) (X : Nat → K) (kr kk : K) : K := fun e1 h1 =>
 cnd (cZ nt (some p)) (aM C rec nt n x aMr dO (aM C rec nt n y
   (fun i _ h2 => aLh C rec n I false (fun _ h3 => X i env h3) dO e1 h2)
   (fun _ h2 => aLh C rec n I false (fun _ h3 => kr env h3) dO e1 h2)
   (fun _ h2 => aLh C rec n I true dO (aM C rec I.nt n I.post aMr dO (aM C rec I.nt n I.step aMr dO kk)) e1 h2))
  (bP env (some p) (e1 I.yx)) h1)
noncomputable def aFv (nt : Nat) (g : Operand) (p : Tmp) (x y : Code) (X : Nat → K) (kr k : K) : K := fun env h =>
 match opr env g with
 | .f gf [] cap => cnd (Nat.beq gf I.gf) (aM C rec I.nt n I.pre aMr dO
   (aO (fun kk => aM C rec I.nt n I.test (fun j => bif Nat.beq j I.b0 then (fun _ h => k env h) else dO) dO
    (jD C rec I.nt I.ops I.front (fun e1 h1 => cnd (ylB (e1 I.yt) h.next) (aTr C rec n I nt p x y env X kr kk e1 h1)))) n)
   (aI (.yl h.next :: cap)) (resv 2 h))
 | _ => none
end
section
variable {C : Cfg} {G : Gd} {rec : FuncId → List DV → Hp → aH} {n : Nat} {I : ItC} {N : Nat}
end
end Go.Dd

namespace Go.Dd
open Go.RowKit (Below)
section
variable {C : Cfg} {G : Gd} {rec : FuncId → List DV → Hp → aH} {n : Nat} {I : ItC} {N : Nat}
section
variable {ρ : dD} {w0 : World} {D l : Nat} {nt : Nat} {p : Tmp} {x y : Code} {f0 : FuncId} {a0 : Act} {env : aV} {X : Nat → Dd.K} {kr k : Dd.K} {r : DV × Hp} {b : Pos}
end
end
end Go.Dd

namespace Go.Dd
open Go.RowKit (Below)
section
variable {C : Cfg} {G : Gd} {rec : FuncId → List DV → Hp → aH} {n : Nat} {I : ItC} {N : Nat}
variable {ρ : dD} {w0 : World} {D l : Nat} {nt : Nat} {p : Tmp} {x y : Code} {f0 : FuncId} {a0 : Act} {env : aV} {X : Nat → Dd.K} {kr k : Dd.K} {r : DV × Hp} {b : Pos}
end
end Go.Dd

namespace Go.Dd
open Go.RowKit (Below)
section
variable {C : Cfg} {G : Gd} {rec : FuncId → List DV → Hp → aH} {n : Nat} {I : ItC} {N : Nat}
end
end Go.Dd

namespace Go.Dd
open Go.RowKit (Below)
noncomputable def dOp (ps : Array Tmp) (k : Tmp → K) : K := match ps.toList with
 | [p] => k p
 | _ => dO
section
variable (C : Cfg) (rec : FuncId → List DV → Hp → aH) (nt n : Nat) (I : ItC)
noncomputable def bPf (c : Code) : (Nat → K) → K → K → K :=
 Code.rec (motive := fun _ => (Nat → K) → K → K → K)
  (fun _ _ k => k)
  (fun _ ops dr _ _ k => Bool.rec (motive := fun _ => K) (jD C rec nt ops ops.toList k) (Bool.rec (motive := fun _ => K) dO (iO C rec nt ops k) (fE C.P ops)) dr)
  (fun _ _ iha ihb X kr k => iha X kr (ihb X kr k))
  (fun c _ _ iha ihb X kr k => fun env h => aT (opr env c) (iha X kr k env h) (ihb X kr k env h))
  (fun id _ ih X kr k => ih (fun j => bif Nat.beq j id then k else X j) kr k)
  (fun _ ih X kr _ => aO (fun kk => ih X kr kk) n)
  (fun g ps x y _ _ X kr k => dOp ps fun p => aFv C rec n I nt g p x y X kr k)
  (fun id X _ _ => X id)
  (fun _ _ _ _ _ => dO)
  (fun _ _ _ _ => dO)
  (fun _ _ _ _ => dO)
  (fun _ kr _ => kr)
  (fun _ _ _ _ => dO) c
noncomputable def mU (f : FuncId) (args : List DV) (h : Hp) : aH :=
 match C.P.funcs[f]? with
 | some fn => match fn.body with
  | some c => bPf C rec fn.ntmps n I c (fun _ => dO) (aR C fn) (aR C fn) (aI args) h
  | none => none
 | none => none
end
section
variable {C : Cfg} {G : Gd} {rec : FuncId → List DV → Hp → aH} {nt n : Nat} {I : ItC}
end
end Go.Dd

namespace Go.Dd
noncomputable section
def WT.get (t : WT) : Nat → Int :=
 WT.rec (motive := fun _ => Nat → Int) (fun _ => .ofNat 0)
  (fun _ v _ ihl ihr k => bif Nat.beq k 0 then v else bif Nat.beq (Nat.mod k 2) 1 then ihl (Nat.div k 2) else ihr (Nat.div (Nat.sub k 1) 2)) t
def dTm (x : Int) (fuel : Nat) : Nat → WT → WT :=
 Nat.rec (motive := fun _ => Nat → WT → WT) (fun _ t => t)
  (fun _ ih k t => WT.rec (motive := fun _ => WT)
   (bif Nat.beq k 0 then .n .e x .e else bif Nat.beq (Nat.mod k 2) 1 then .n (ih (Nat.div k 2) .e) (.ofNat 0) .e else .n .e (.ofNat 0) (ih (Nat.div (Nat.sub k 1) 2) .e))
   (fun l v r _ _ => bif Nat.beq k 0 then .n l x r else bif Nat.beq (Nat.mod k 2) 1 then .n (ih (Nat.div k 2) l) v r else .n l v (ih (Nat.div (Nat.sub k 1) 2) r)) t) fuel
def WT.set (t : WT) (k : Nat) (x : Int) : WT := dTm x 24 k t
theorem WT.get_e (k : Nat) : WT.e.get k = 0 := rfl
theorem dTj (l : WT) (v : Int) (r : WT) (k : Nat) : (WT.n l v r).get k = if k = 0 then v else if k % 2 = 1 then l.get (k / 2) else r.get ((k - 1) / 2) := by
 show (bif Nat.beq k 0 then v else bif Nat.beq (Nat.mod k 2) 1 then l.get (Nat.div k 2) else r.get (Nat.div (Nat.sub k 1) 2)) = _
 cases h0 : Nat.beq k 0 with
 | true => have := Nat.eq_of_beq_eq_true h0; subst this; rfl
 | false =>
  have n0 : k ≠ 0 := by intro e; subst e; cases h0
  rw [if_neg n0]
  cases h1 : Nat.beq (Nat.mod k 2) 1 with
  | true => have : k % 2 = 1 := Nat.eq_of_beq_eq_true h1; rw [if_pos this]; rfl
  | false =>
   have n1 : k % 2 ≠ 1 := by intro e; have e' : Nat.mod k 2 = 1 := e; rw [e'] at h1; cases h1
   rw [if_neg n1]; rfl
theorem dTv (x : Int) (f k : Nat) (t : WT) : dTm x (f + 1) k t = match t with
  | .e => if k = 0 then .n .e x .e else if k % 2 = 1 then .n (dTm x f (k / 2) .e) 0 .e else .n .e 0 (dTm x f ((k - 1) / 2) .e)
  | .n l v r => if k = 0 then .n l x r else if k % 2 = 1 then .n (dTm x f (k / 2) l) v r else .n l v (dTm x f ((k - 1) / 2) r) := by
 have hb : ∀ {α : Type} (a b c : α), (bif Nat.beq k 0 then a else bif Nat.beq (Nat.mod k 2) 1 then b else c) = if k = 0 then a else if k % 2 = 1 then b else c := by
  intro α a b c
  cases h0 : Nat.beq k 0 with
  | true => have := Nat.eq_of_beq_eq_true h0; subst this; rfl
  | false =>
   have n0 : k ≠ 0 := by intro e; subst e; cases h0
   rw [if_neg n0]
   cases h1 : Nat.beq (Nat.mod k 2) 1 with
   | true => have : k % 2 = 1 := Nat.eq_of_beq_eq_true h1; rw [if_pos this]; rfl
   | false =>
    have n1 : k % 2 ≠ 1 := by intro e; have e' : Nat.mod k 2 = 1 := e; rw [e'] at h1; cases h1
    rw [if_neg n1]; rfl
 cases t with
 | e => exact hb _ _ _
 | n l v r => exact hb _ _ _
theorem dTp (x : Int) : ∀ (f k : Nat) (t : WT) (j : Nat), k + 1 < 2 ^ f → (dTm x f k t).get j = if j = k then x else t.get j
 | 0, k, t, j, h => by simp at h
 | f + 1, k, t, j, h => by
  have h2 : 2 ^ (f + 1) = 2 * 2 ^ f := by rw [Nat.pow_succ]; omega
  have ih := fun k t j (h : k + 1 < 2 ^ f) => dTp x f k t j h
  rw [dTv]
  cases t with
  | e =>
   simp only
   split
   ·subst_vars
    rw [dTj]
    split
    ·rfl
    ·simp [WT.get_e]
   ·split
    ·rw [dTj]
     split
     ·subst_vars; rw [if_neg (by omega)]; rfl
     ·split
      ·rw [ih _ _ _ (by omega), WT.get_e, WT.get_e]
       by_cases hj : j = k
       ·rw [if_pos hj, if_pos (by omega)]
       ·rw [if_neg hj, if_neg (by omega)]
      ·rw [WT.get_e, if_neg (by omega)]; rfl
    ·rw [dTj]
     split
     ·subst_vars; rw [if_neg (by omega)]; rfl
     ·split
      ·rw [WT.get_e, if_neg (by omega)]; rfl
      ·rw [ih _ _ _ (by omega), WT.get_e, WT.get_e]
       by_cases hj : j = k
       ·rw [if_pos hj, if_pos (by omega)]
       ·rw [if_neg hj, if_neg (by omega)]
  | n l v r =>
   simp only
   split
   ·subst_vars
    rw [dTj, dTj]
    split
    ·rfl
    ·rfl
   ·split
    ·rw [dTj, dTj]
     split
     ·subst_vars; rw [if_neg (by omega)]
     ·split
      ·rw [ih _ _ _ (by omega)]
       by_cases hj : j = k
       ·rw [if_pos hj, if_pos (by omega)]
       ·rw [if_neg hj, if_neg (by omega)]
      ·rw [if_neg (by omega)]
    ·rw [dTj, dTj]
     split
     ·subst_vars; rw [if_neg (by omega)]
     ·split
      ·rw [if_neg (by omega)]
      ·rw [ih _ _ _ (by omega)]
       by_cases hj : j = k
       ·rw [if_pos hj, if_pos (by omega)]
       ·rw [if_neg hj, if_neg (by omega)]
theorem WT.get_set (t : WT) (k : Nat) (x : Int) (j : Nat) (h : k < 16000000) : (t.set k x).get j = if j = k then x else t.get j :=
 dTp x 24 k t j (by omega)
def iA (n : Nat) (t : WT) : List DV := (List.range n).map fun i => .i .i64 (t.get i)
def tH (g : Bool) : Ob → Ob → Prop
 | .big n t, o => if g then o = .big n t else o = .row .ex (iA n t)
 | .mi t, o => if g then o = .mi t else ∃ es, o = .mp es ∧ ∀ a : Int, dL (.int .i64) (.i .i64 a) es = some (if 0 ≤ a ∧ t.get a.toNat ≠ 0 then some (.b true) else none)
 | o, o' => o' = o
structure Sim (g : Bool) (h h' : Hp) : Prop where
 next : h'.next = h.next
 get : ∀ b o, h.bl.get b = some o → ∃ o', h'.bl.get b = some o' ∧ tH g o o'
def SimR (g : Bool) (r r' : aH) : Prop := ∀ v h, r = some (v, h) → ∃ h', r' = some (v, h') ∧ Sim g h h'
def SimP (g : Bool) (p p' : Hp → aH) : Prop := ∀ h h', Sim g h h' → SimR g (p h) (p' h')
variable {h h' : Hp} {g : Bool}
theorem Sim.row (S : Sim g h h') {b : Pos} {k : Kind} {l : List DV} (hb : h.bl.get b = some (.row k l)) : h'.bl.get b = some (.row k l) := by
 obtain ⟨o', h1, h2⟩ := S.get b _ hb
 rw [h1, show o' = .row k l from h2]
theorem Sim.it (S : Sim g h h') {b : Pos} {s : List Nat} {p : Nat} (hb : h.bl.get b = some (.it s p)) : h'.bl.get b = some (.it s p) := by
 obtain ⟨o', h1, h2⟩ := S.get b _ hb
 rw [h1, show o' = .it s p from h2]
theorem Sim.mp (S : Sim g h h') {b : Pos} {es : List (DV × DV)} (hb : h.bl.get b = some (.mp es)) : h'.bl.get b = some (.mp es) := by
 obtain ⟨o', h1, h2⟩ := S.get b _ hb
 rw [h1, show o' = .mp es from h2]
theorem Sim.set (S : Sim g h h') {o o' : Ob} (hr : tH g o o') (b n : Pos) : Sim g ⟨n, Tr.set o b h.bl⟩ ⟨n, Tr.set o' b h'.bl⟩ := by
 refine ⟨rfl, fun x ob hx => ?_⟩
 by_cases e : x = b
 ·subst e
  simp only [dSr, bE] at hx ⊢
  subst hx
  exact ⟨o', rfl, hr⟩
 ·simp only [dSq _ _ _ _ e] at hx ⊢
  exact S.get x ob hx
theorem Sim.setR (S : Sim g h h') (k : Kind) (l : List DV) (b n : Pos) : Sim g ⟨n, Tr.set (.row k l) b h.bl⟩ ⟨n, Tr.set (.row k l) b h'.bl⟩ := S.set (show tH g (.row k l) (.row k l) from rfl) b n
theorem Sim.setM (S : Sim g h h') (es : List (DV × DV)) (b n : Pos) : Sim g ⟨n, Tr.set (.mp es) b h.bl⟩ ⟨n, Tr.set (.mp es) b h'.bl⟩ := S.set (show tH g (.mp es) (.mp es) from rfl) b n
theorem Sim.setI (S : Sim g h h') (s : List Nat) (p : Nat) (b n : Pos) : Sim g ⟨n, Tr.set (.it s p) b h.bl⟩ ⟨n, Tr.set (.it s p) b h'.bl⟩ := S.set (show tH g (.it s p) (.it s p) from rfl) b n
theorem Sim.new (S : Sim g h h') {o o' : Ob} (hr : tH g o o') : Sim g ⟨h.next.succ, Tr.set o h.next h.bl⟩ ⟨h'.next.succ, Tr.set o' h'.next h'.bl⟩ := by
 rw [S.next]; exact S.set hr _ _
theorem SimR.none (r : aH) : SimR g none r := fun v h e => by cases e
theorem SimR.some (S : Sim g h h') (v : DV) : SimR g (some (v, h)) (some (v, h')) := fun u k e => by
 simp only [bE, bS] at e
 obtain ⟨rfl, rfl⟩ := e
 exact ⟨h', rfl, S⟩
theorem dSu {F : Hp → aH} (hF : PureP F) : SimP g F F := fun h h' S v k e => by
 obtain ⟨rfl, h2⟩ := hF h v k e
 exact ⟨h', h2 h', S⟩
theorem Sim.rowOf (S : Sim g h h') {b : Pos} {l : List DV} (hb : rowOf b h = some l) : rowOf b h' = some l := by
 unfold Dd.rowOf at hb ⊢
 split at hb <;> (try (cases hb; done))
 rename_i k l0 h0
 rw [S.row h0]; exact hb
theorem Sim.cellsAt (S : Sim g h h') {b : Pos} {o n : Nat} {cs : List DV} (hb : cellsAt b o n h = some cs) : cellsAt b o n h' = some cs := by
 unfold Dd.cellsAt at hb ⊢
 split at hb <;> (try (cases hb; done))
 rename_i l h0
 rw [S.rowOf h0]; exact hb
theorem Sim.cellD (S : Sim g h h') {b : Pos} {o : Nat} {v : DV} (hb : cellD b o h = some v) : cellD b o h' = some v := by
 unfold Dd.cellD at hb ⊢
 split at hb <;> (try (cases hb; done))
 rename_i l h0
 rw [S.rowOf h0]; exact hb
theorem Sim.storeAt (S : Sim g h h') {b : Pos} {o : Nat} {vs : List DV} {k : Hp} (hb : dE b o vs h = some k) : ∃ k', dE b o vs h' = some k' ∧ Sim g k k' := by
 unfold dE at hb ⊢
 split at hb <;> (try (cases hb; done))
 rename_i kd l h0
 rw [S.row h0]
 dsimp only
 split at hb <;> (try (cases hb; done))
 rename_i hw
 rw [if_pos hw]
 split at hb <;> (try (cases hb; done))
 rename_i l' hp
 simp only [bE] at hb
 subst hb
 try simp only [hp]
 exact ⟨_, rfl, by rw [S.next]; exact S.set (show tH g (.row kd l') (.row kd l') from rfl) _ _⟩
theorem aKm (cs : List DV) : SimP g (bN cs) (bN cs) := fun h h' S v k e => by
 simp only [bN, bE, bS] at e ⊢
 obtain ⟨rfl, rfl⟩ := e
 exact ⟨_, ⟨by rw [S.next], rfl⟩, S.new rfl⟩
theorem aAu (b : Pos) (cs : List DV) : SimP g (iY b cs) (iY b cs) := fun h h' S v k e => by
 simp only [iY, bE, bS] at e ⊢
 obtain ⟨rfl, rfl⟩ := e
 exact ⟨_, ⟨rfl, rfl⟩, by rw [S.next]; first | exact S.setR _ _ _ _ | exact S.setM _ _ _ | exact S.setI _ _ _ _⟩
theorem cFi (x : DV) : SimP g (bO x) (bO x) := by
 unfold bO
 cases cY x with
 | none => exact fun h h' S => SimR.none _
 | some cs => exact aKm cs
theorem bEz (b : Pos) (x : DV) : SimP g (zP b x) (zP b x) := by
 unfold zP
 cases cY x with
 | none => exact fun h h' S => SimR.none _
 | some cs => exact aAu b cs
theorem lC (x : DV) : SimP g (aA x) (aA x) := fun h h' S v k e => by
 unfold aA at e ⊢
 split at e <;> (try (cases e; done))
 split at e <;> (try (cases e; done))
 rename_i hc
 simp only [bE, bS] at e
 obtain ⟨rfl, rfl⟩ := e
 simp only [S.cellD hc]
 exact ⟨_, rfl, S⟩
theorem kN (n : Nat) (x : DV) : SimP g (aK n x) (aK n x) := fun h h' S v k e => by
 unfold aK at e ⊢
 split at e <;> (try (cases e; done))
 split at e <;> (try (cases e; done))
 rename_i hc
 simp only [bE, bS] at e
 obtain ⟨rfl, rfl⟩ := e
 simp only [S.cellsAt hc]
 exact ⟨_, rfl, S⟩
theorem kT (n : Nat) (x y : DV) : SimP g (aG n x y) (aG n x y) := fun h h' S v k e => by
 unfold aG at e ⊢
 split at e <;> (try (cases e; done))
 rename_i b o cs hc
 try rw [hc]
 try dsimp only
 split at e <;> (try (cases e; done))
 rename_i hn
 rw [if_pos hn]
 split at e <;> (try (cases e; done))
 rename_i k0 hs
 simp only [bE, bS] at e
 obtain ⟨rfl, rfl⟩ := e
 obtain ⟨k', h1, h2⟩ := S.storeAt hs
 try simp only [h1]
 exact ⟨_, rfl, h2⟩
theorem bGv (size : Nat) (x : DV) (lo hi : Option DV) : SimP g (cT size x lo hi) (cT size x lo hi) := fun h h' S v k e => by
 unfold cT at e ⊢
 split at e <;> (try (cases e; done))
 ·split at e <;> (try (cases e; done))
  rename_i en he
  try simp only [he]
  split at e <;> (try (cases e; done))
  rename_i s hs
  try simp only [hs]
  split at e <;> (try (cases e; done))
  ·rename_i l0 hb
   rw [S.row hb]
   simp only [bE, bS] at e
   obtain ⟨rfl, rfl⟩ := e
   exact ⟨_, rfl, S⟩
  ·rename_i l0 hb
   rw [S.row hb]
   simp only [bE, bS] at e
   obtain ⟨rfl, rfl⟩ := e
   exact ⟨_, rfl, S⟩
  ·rename_i k0 l0 n1 n2 hb
   rw [S.row hb]
   cases k0 with
   | ro => exact absurd rfl n1
   | ex => exact absurd rfl n2
   | gr es =>
    dsimp only
    split at e
    ·rename_i hcs
     simp only [bE, bS] at e
     obtain ⟨rfl, rfl⟩ := e
     rw [if_pos hcs]
     exact ⟨_, rfl, S⟩
    ·rename_i hcs
     simp only [bE, bS] at e
     obtain ⟨rfl, rfl⟩ := e
     rw [if_neg hcs]
     exact ⟨_, rfl, S⟩
   | sp =>
    dsimp only
    split at e
    ·rename_i hcs
     simp only [bE, bS] at e
     obtain ⟨rfl, rfl⟩ := e
     rw [if_pos hcs]
     exact ⟨_, rfl, S⟩
    ·rename_i hcs
     simp only [bE, bS] at e
     obtain ⟨rfl, rfl⟩ := e
     rw [if_neg hcs]
     exact ⟨_, rfl, S⟩
 all_goals
  split at e <;> (try (cases e; done))
  rename_i en he
  try simp only [he]
  split at e <;> (try (cases e; done))
  rename_i s hs
  try simp only [hs]
  simp only [bE, bS] at e
  obtain ⟨rfl, rfl⟩ := e
  exact ⟨_, rfl, S⟩
theorem aOk (x : DV) (lo : Option DV) (hi mx : DV) : SimP g (mY x lo hi mx) (mY x lo hi mx) := fun h h' S v k e => by
 unfold mY at e ⊢
 split at e <;> (try (cases e; done))
 all_goals
  split at e <;> (try (cases e; done))
 ·rename_i m e1
  try simp only [e1]
  split at e <;> (try (cases e; done))
  rename_i n e2
  try simp only [e2]
  simp only [bE, bS] at e
  obtain ⟨rfl, rfl⟩ := e
  exact ⟨_, rfl, S⟩
 ·rename_i m e1
  try simp only [e1]
  split at e <;> (try (cases e; done))
  rename_i n e2
  try simp only [e2]
  simp only [bE, bS] at e
  obtain ⟨rfl, rfl⟩ := e
  exact ⟨_, rfl, S⟩
 ·rename_i n1 n2 e1 e2
  try simp only [e1, e2]
  simp only [bE, bS] at e
  obtain ⟨rfl, rfl⟩ := e
  exact ⟨_, rfl, S⟩
 ·rename_i n1 n2 e1 e2
  try simp only [e1, e2]
  simp only [bE, bS] at e
  obtain ⟨rfl, rfl⟩ := e
  exact ⟨_, rfl, S⟩
theorem bDi (x : DV) : SimP g (hU x) (hU x) := fun h h' S v k e => by
 unfold hU at e ⊢
 split at e <;> (try (cases e; done))
 ·simp only [bE, bS] at e
  obtain ⟨rfl, rfl⟩ := e
  exact ⟨_, rfl, S⟩
 ·split at e <;> (try (cases e; done))
  rename_i cs hc
  simp only [S.cellsAt hc]
  split at e <;> (try (cases e; done))
  rename_i l hl
  try simp only [hl]
  simp only [bE, bS] at e
  obtain ⟨rfl, rfl⟩ := e
  exact ⟨_, rfl, S⟩
theorem wU (z : List DV) (n : Nat) (ps : List (Nat × Nat × DV)) : SimP g (aL z n ps) (aL z n ps) := fun h h' S v k e => by
 unfold aL at e ⊢
 split at e <;> (try (cases e; done))
 rename_i cs hf
 try simp only [hf]
 simp only [bE, bS] at e ⊢
 obtain ⟨rfl, rfl⟩ := e
 exact ⟨_, ⟨by rw [S.next], rfl⟩, S.new rfl⟩
theorem rP (b : Pos) (z : List DV) (n : Nat) (ps : List (Nat × Nat × DV)) : SimP g (bJ b z n ps) (bJ b z n ps) := fun h h' S v k e => by
 unfold bJ at e ⊢
 split at e <;> (try (cases e; done))
 rename_i cs hf
 try simp only [hf]
 simp only [bE, bS] at e ⊢
 obtain ⟨rfl, rfl⟩ := e
 exact ⟨_, ⟨rfl, rfl⟩, by rw [S.next]; first | exact S.setR _ _ _ _ | exact S.setM _ _ _ | exact S.setI _ _ _ _⟩
theorem aKz : SimP g dX dX := fun h h' S v k e => by
 simp only [dX, bE, bS] at e ⊢
 obtain ⟨rfl, rfl⟩ := e
 exact ⟨_, ⟨by rw [S.next], rfl⟩, S.new rfl⟩
theorem Sim.entries (S : Sim g h h') {x : DV} {es : List (DV × DV)} (he : fP x h = some es) : fP x h' = some es := by
 unfold fP at he ⊢
 split at he <;> (try (cases he; done))
 ·exact he
 ·split at he <;> (try (cases he; done))
  rename_i hb
  rw [S.mp hb]; exact he
theorem aPj (d : TypeDesc) (z : DV) (ok : Bool) (x key : DV) : SimP g (dQ d z ok x key) (dQ d z ok x key) := fun h h' S v k e => by
 unfold dQ at e ⊢
 split at e <;> (try (cases e; done))
 rename_i es he
 simp only [S.entries he]
 split at e <;> (try (cases e; done))
 all_goals
  rename_i hf
  try simp only [hf]
  simp only [bE, bS] at e
  obtain ⟨rfl, rfl⟩ := e
  exact ⟨_, rfl, S⟩
theorem aQm (d : TypeDesc) (x key y : DV) : SimP g (gH d x key y) (gH d x key y) := fun h h' S v k e => by
 unfold gH at e ⊢
 split at e <;> (try (cases e; done))
 split at e <;> (try (cases e; done))
 rename_i b _ es hb
 rw [S.mp hb]
 dsimp only
 split at e <;> (try (cases e; done))
 rename_i hf
 try simp only [hf]
 simp only [bE, bS] at e
 obtain ⟨rfl, rfl⟩ := e
 exact ⟨_, rfl, by rw [S.next]; first | exact S.setR _ _ _ _ | exact S.setM _ _ _ | exact S.setI _ _ _ _⟩
theorem aCi (d : TypeDesc) (z x key : DV) : SimP g (fU d z x key) (fU d z x key) := fun h h' S v k e => by
 unfold fU at e ⊢
 split at e <;> (try (cases e; done))
 split at e <;> (try (cases e; done))
 rename_i b _ es hb
 rw [S.mp hb]
 dsimp only
 split at e <;> (try (cases e; done))
 all_goals
  rename_i hf
  try simp only [hf]
  simp only [bE, bS] at e
  obtain ⟨rfl, rfl⟩ := e
  exact ⟨_, rfl, by rw [S.next]; first | exact S.setR _ _ _ _ | exact S.setM _ _ _ | exact S.setI _ _ _ _⟩
theorem yC (x s y : DV) : SimP g (eA x s y) (eA x s y) := fun h h' S v k e => by
 unfold eA at e ⊢
 split at e <;> (try (cases e; done))
 split at e <;> (try (cases e; done))
 rename_i es hb
 rw [S.mp hb]
 dsimp only
 split at e <;> (try (cases e; done))
 rename_i hf
 try simp only [hf]
 simp only [bE, bS] at e
 obtain ⟨rfl, rfl⟩ := e
 exact ⟨_, rfl, by rw [S.next]; first | exact S.setR _ _ _ _ | exact S.setM _ _ _ | exact S.setI _ _ _ _⟩
theorem aAk (size bytes : Nat) (z : List DV) (n c : DV) : SimP g (cN size bytes z n c) (cN size bytes z n c) := fun h h' S v k e => by
 unfold cN at e ⊢
 split at e <;> (try (cases e; done))
 split at e <;> (try (cases e; done))
 rename_i hc
 rw [if_pos hc]
 simp only [bE, bS] at e ⊢
 obtain ⟨rfl, rfl⟩ := e
 exact ⟨_, ⟨by rw [S.next], rfl⟩, S.new rfl⟩
theorem bFl (z : List DV) (x : DV) : SimP g (jW z x) (jW z x) := fun h h' S v k e => by
 unfold jW at e ⊢
 split at e <;> (try (cases e; done))
 ·simp only [bE, bS] at e
  obtain ⟨rfl, rfl⟩ := e
  exact ⟨_, rfl, S⟩
 ·simp only [bE, bS] at e
  obtain ⟨rfl, rfl⟩ := e
  exact ⟨_, rfl, S⟩
 ·split at e
  ·rename_i hn
   simp only [bE, bS] at e
   obtain ⟨rfl, rfl⟩ := e
   simp only [hn, if_true]
   exact ⟨_, rfl, S⟩
  ·rename_i hn
   rw [if_neg hn]
   split at e <;> (try (cases e; done))
   rename_i k0 hs
   simp only [bE, bS] at e
   obtain ⟨rfl, rfl⟩ := e
   obtain ⟨k', h1, h2⟩ := S.storeAt hs
   try simp only [h1]
   exact ⟨_, rfl, h2⟩
theorem Sim.src (S : Sim g h h') {size : Nat} {x : DV} {r : Nat × List DV} (hs : sV size x h = some r) : sV size x h' = some r := by
 unfold sV at hs ⊢
 split at hs <;> (try (cases hs; done))
 ·exact hs
 ·exact hs
 ·split at hs <;> (try (cases hs; done))
  rename_i hc
  simp only [S.cellsAt hc]; exact hs
 ·split at hs <;> (try (cases hs; done))
  rename_i hc
  simp only [S.cellsAt hc]; exact hs
 ·exact hs
theorem aRh (size bytes : Nat) (s x : DV) : SimP g (bA size bytes s x) (bA size bytes s x) := fun h h' S v k e => by
 unfold bA at e ⊢
 split at e <;> (try (cases e; done))
 rename_i n new hs
 simp only [S.src hs]
 split at e <;> (try (cases e; done))
 ·split at e
  ·rename_i hn
   rw [if_pos hn]
   simp only [bE, bS] at e
   obtain ⟨rfl, rfl⟩ := e
   exact ⟨_, rfl, S⟩
  ·rename_i hn
   rw [if_neg hn]
   split at e <;> (try (cases e; done))
   rename_i hr
   rw [if_pos hr]
   simp only [bE, bS] at e ⊢
   obtain ⟨rfl, rfl⟩ := e
   exact ⟨_, ⟨by rw [S.next], rfl⟩, S.new rfl⟩
 ·split at e <;> (try (cases e; done))
  rename_i hn
  rw [if_pos hn]
  simp only [bE, bS] at e
  obtain ⟨rfl, rfl⟩ := e
  exact ⟨_, rfl, S⟩
 ·rename_i b o len cap
  split at e
  ·rename_i hle
   rw [if_pos hle]
   split at e <;> (try (cases e; done))
   rename_i k0 hst
   simp only [bE, bS] at e
   obtain ⟨rfl, rfl⟩ := e
   obtain ⟨k', h1, h2⟩ := S.storeAt hst
   try simp only [h1]
   exact ⟨_, rfl, h2⟩
  ·rename_i hle
   rw [if_neg hle]
   split at e <;> (try (cases e; done))
   rename_i k0 l old hb hold
   rw [S.row hb, S.cellsAt hold]
   dsimp only
   split at e <;> (try (cases e; done))
   rename_i hroom
   rw [if_pos hroom]
   split at e <;> (try (cases e; done))
   ·simp only [bE, bS] at e ⊢
    obtain ⟨rfl, rfl⟩ := e
    exact ⟨_, ⟨by rw [S.next], rfl⟩, S.new rfl⟩
   ·simp only [bE, bS] at e ⊢
    obtain ⟨rfl, rfl⟩ := e
    exact ⟨_, ⟨by rw [S.next], rfl⟩, S.new rfl⟩
   ·split at e <;> (try (cases e; done))
    rename_i hes
    rw [if_pos hes]
    simp only [bE, bS] at e ⊢
    obtain ⟨rfl, rfl⟩ := e
    refine ⟨_, ⟨by rw [S.next], rfl⟩, ?_⟩
    have S1 : Sim g ⟨h.next, Tr.set (.row .sp (bU o l)) b h.bl⟩ ⟨h'.next, Tr.set (.row .sp (bU o l)) b h'.bl⟩ := by
     rw [S.next]; exact S.set (show tH g (.row .sp (bU o l)) (.row .sp (bU o l)) from rfl) _ _
    exact S1.new rfl
 ·rename_i b o len cap
  split at e
  ·rename_i hn
   rw [if_pos hn]
   split at e <;> (try (cases e; done))
   rename_i hc
   rw [if_pos hc]
   simp only [bE, bS] at e
   obtain ⟨rfl, rfl⟩ := e
   exact ⟨_, rfl, S⟩
  ·rename_i hn
   rw [if_neg hn]
   split at e <;> (try (cases e; done))
   rename_i hc
   rw [if_neg hc]
   split at e <;> (try (cases e; done))
   rename_i old hold
   simp only [S.cellsAt hold]
   split at e <;> (try (cases e; done))
   rename_i hr
   rw [if_pos hr]
   simp only [bE, bS] at e ⊢
   obtain ⟨rfl, rfl⟩ := e
   exact ⟨_, ⟨by rw [S.next], rfl⟩, S.new rfl⟩
theorem bFh (x : DV) : SimP g (oT x) (oT x) := fun h h' S v k e => by
 unfold oT at e ⊢
 split at e <;> (try (cases e; done))
 simp only [bE, bS] at e ⊢
 obtain ⟨rfl, rfl⟩ := e
 exact ⟨_, ⟨by rw [S.next], rfl⟩, S.new rfl⟩
theorem cBe (x : DV) : SimP g (wJ x) (wJ x) := fun h h' S v k e => by
 unfold wJ at e ⊢
 split at e <;> (try (cases e; done))
 split at e <;> (try (cases e; done))
 rename_i b _ l pos hb
 rw [S.it hb]
 dsimp only
 split at e
 ·rename_i c hc
  try simp only [hc]
  split at e <;> (try (cases e; done))
  rename_i hlt
  rw [if_pos hlt]
  simp only [bE, bS] at e ⊢
  obtain ⟨rfl, rfl⟩ := e
  exact ⟨_, ⟨rfl, rfl⟩, by rw [S.next]; first | exact S.setR _ _ _ _ | exact S.setM _ _ _ | exact S.setI _ _ _ _⟩
 ·rename_i hc
  try simp only [hc]
  simp only [bE, bS] at e ⊢
  obtain ⟨rfl, rfl⟩ := e
  exact ⟨_, ⟨rfl, rfl⟩, S⟩
end
end Go.Dd

namespace Go.Dd
theorem SimP.none {gg : Bool} (p : Hp → aH) : SimP gg (fun _ => Option.none) p := fun h h' S => SimR.none _
theorem SimP.val {gg : Bool} (v : DV) : SimP gg (fun h => some (v, h)) (fun h => some (v, h)) := fun h h' S => SimR.some S v
section
variable {gg : Bool} {P : Program} {I2 I1 : FuncId → Option (List DV → Hp → aH)} {rec2 rec1 : FuncId → List DV → Hp → aH}
theorem aMl (b : Builtin) (ts : List TypeId) (args : List DV) : SimP gg (jO ⟨P, I2⟩ b ts args) (jO ⟨P, I1⟩ b ts args) := by
 unfold jO
 cases b <;> try exact SimP.none _
 case len =>
  match ts, args with
  | [t], [x] =>
   dsimp only
   cases P.underlying t with
   | none => exact SimP.none _
   | some d => cases d <;> first | exact SimP.none _ | exact dSu (aBi x) | exact dSu (mR x)
  | [], _ => exact SimP.none _
  | [_], [] => exact SimP.none _
  | [_], _ :: _ :: _ => exact SimP.none _
  | _ :: _ :: _, _ => exact SimP.none _
 case min =>
  show SimP gg (rB args) (rB args)
  unfold rB
  match args with
  | [x, y] => exact dSu (aKy x y)
  | [] => exact SimP.none _
  | [_] => exact SimP.none _
  | _ :: _ :: _ :: _ => exact SimP.none _
 case max =>
  show SimP gg (rR args) (rR args)
  unfold rR
  match args with
  | [x, y] => exact dSu (aLy x y)
  | [] => exact SimP.none _
  | [_] => exact SimP.none _
  | _ :: _ :: _ :: _ => exact SimP.none _
 case clear =>
  match ts, args with
  | [t], [x] =>
   dsimp only
   cases P.underlying t with
   | none => exact SimP.none _
   | some d =>
    cases d <;> try exact SimP.none _
    rename_i e
    dsimp only
    cases P.info? e with
    | none => exact SimP.none _
    | some i =>
     dsimp only
     cases i.zero with
     | none => exact SimP.none _
     | some z =>
      dsimp only
      by_cases h0 : 0 < z.cells.size
      ·simp only [h0, if_true]; exact bFl _ _
      ·simp only [h0, if_false]; exact SimP.none _
  | [], _ => exact SimP.none _
  | [_], [] => exact SimP.none _
  | [_], _ :: _ :: _ => exact SimP.none _
  | _ :: _ :: _, _ => exact SimP.none _
 case append =>
  match ts, args with
  | [t, u], [s, x] =>
   dsimp only
   have hmain : ∀ e, SimP gg (fun h => match P.info? e with
     | some i => match i.zero with
      | some z => if 0 < i.size ∧ 0 < i.bytes ∧ z.cells.size = i.size then bA i.size i.bytes s x h else none
      | none => none
     | none => none) (fun h => match P.info? e with
     | some i => match i.zero with
      | some z => if 0 < i.size ∧ 0 < i.bytes ∧ z.cells.size = i.size then bA i.size i.bytes s x h else none
      | none => none
     | none => none) := by
    intro e
    cases P.info? e with
    | none => exact SimP.none _
    | some i =>
     dsimp only
     cases i.zero with
     | none => exact SimP.none _
     | some z =>
      dsimp only
      split
      ·exact aRh _ _ _ _
      ·exact SimP.none _
   cases P.underlying t with
   | none => exact SimP.none _
   | some d =>
    cases d <;> try exact SimP.none _
    rename_i e
    cases P.underlying u with
    | none => exact SimP.none _
    | some d2 => cases d2 <;> first | exact SimP.none _ | exact hmain e
  | [], _ => exact SimP.none _
  | [_], _ => exact SimP.none _
  | [_, _], [] => exact SimP.none _
  | [_, _], [_] => exact SimP.none _
  | [_, _], _ :: _ :: _ :: _ => exact SimP.none _
  | _ :: _ :: _ :: _, _ => exact SimP.none _
theorem aBc (HC : ∀ g args, SimP gg (bR ⟨P, I2⟩ rec2 g args) (bR ⟨P, I1⟩ rec1 g args)) (o : Oper) (env : aV) : SimP gg (jA ⟨P, I2⟩ rec2 o env) (jA ⟨P, I1⟩ rec1 o env) := by
 obtain ⟨dst, op, ty, pos, after, guard⟩ := o
 unfold jA
 cases op <;> (try dsimp only) <;> try exact SimP.none _
 case move x => exact SimP.val _
 case assign x => exact SimP.val _
 case pick c x y => exact dSu (aAt _ _ _)
 case alloc t =>
  cases P.info? t with
  | none => exact SimP.none _
  | some i =>
   try dsimp only
   cases i.zero with
   | none => exact SimP.none _
   | some z => exact aKm _
 case box t x => exact cFi _
 case build t ps =>
  cases P.underlying t with
  | none => exact SimP.none _
  | some d =>
   cases d <;> (try dsimp only) <;> try exact SimP.none _
   rename_i fs
   cases P.info? t with
   | none => exact SimP.none _
   | some i =>
    try dsimp only
    cases i.zero with
    | none => exact SimP.none _
    | some z =>
     try dsimp only
     generalize fs.toList.mapM (fun f => (P.info? f.type).map fun fi => (f.offset, fi.size)) = pl
     cases pl with
     | none => exact SimP.none _
     | some pl =>
      try dsimp only
      generalize ps.toList.mapM (fun (q : Nat × Operand) => (pl[q.1]?).map fun s => (s.1, s.2, opr env q.2)) = l
      cases l with
      | none => exact SimP.none _
      | some l => exact dSu (vL _ _)
 case buildSlice t n ps =>
  cases P.underlying t with
  | none => exact SimP.none _
  | some d =>
   cases d <;> (try dsimp only) <;> try exact SimP.none _
   rename_i e
   cases P.info? e with
   | none => exact SimP.none _
   | some i =>
    try dsimp only
    cases i.zero with
    | none => exact SimP.none _
    | some z =>
     try dsimp only
     split
     ·exact wU _ _ _
     ·exact SimP.none _
 case load t x =>
  cases P.underlying t with
  | none => exact SimP.none _
  | some d =>
   cases P.info? t with
   | none => exact SimP.none _
   | some i =>
    try dsimp only
    cases jC d with
    | true => exact kN _ _
    | false => exact lC _
 case store t x y =>
  cases P.info? t with
  | none => exact SimP.none _
  | some i => exact kT _ _ _
 case nilCheck x => exact dSu (aMo _)
 case binOp op t x y yt =>
  cases P.underlying t with
  | none => exact SimP.none _
  | some d => exact dSu (aLu _ _ _ _)
 case unOp op t x => exact dSu (aXb _ _)
 case convert src dst x =>
  cases P.underlying src with
  | none => exact SimP.none _
  | some d =>
   cases P.underlying dst with
   | none => cases d <;> exact SimP.none _
   | some d2 =>
    cases d2 <;> cases d <;> (try dsimp only) <;> first | exact SimP.none _ | exact dSu (oG _ _) | exact dSu (nT _) | skip
    all_goals
     rename_i e
     cases P.underlying e with
     | none => exact SimP.none _
     | some d3 =>
      cases d3 <;> (try dsimp only) <;> try exact SimP.none _
      rename_i k
      cases k <;> first | exact SimP.none _ | exact bDi _
 case makeFunc fn first cap =>
  cases fn <;> first | exact SimP.none _ | exact SimP.val _
 case slice t x lo hi mx =>
  cases P.underlying t with
  | none => exact SimP.none _
  | some d =>
   cases mx with
   | none =>
    cases d <;> (try dsimp only) <;> first | exact SimP.none _ | exact dSu (mT _ _ _) | skip
    rename_i e
    cases P.info? e with
    | none => exact SimP.none _
    | some i => exact bGv _ _ _ _
   | some m =>
    cases d <;> (try dsimp only) <;> try exact SimP.none _
    rename_i e
    cases P.info? e with
    | none => exact SimP.none _
    | some i =>
     cases hi with
     | none => exact SimP.none _
     | some hv => exact aOk _ _ _ _
 case fieldAddr t x f =>
  cases P.underlying t with
  | none => exact SimP.none _
  | some d =>
   cases d <;> (try dsimp only) <;> try exact SimP.none _
   rename_i fs
   cases fs[f]? with
   | none => exact SimP.none _
   | some fl =>
    try dsimp only
    cases P.info? fl.type with
    | none => exact SimP.none _
    | some i =>
     try dsimp only
     split
     ·exact SimP.none _
     ·exact dSu (wF _ _)
 case field t x f =>
  cases P.underlying t with
  | none => exact SimP.none _
  | some d =>
   cases d <;> (try dsimp only) <;> try exact SimP.none _
   rename_i fs
   cases fs[f]? with
   | none => exact SimP.none _
   | some fl =>
    try dsimp only
    cases P.underlying fl.type with
    | none => exact SimP.none _
    | some d2 =>
     cases P.info? fl.type with
     | none => exact SimP.none _
     | some i =>
      try dsimp only
      cases jC d2 with
      | true => exact dSu (zD _ _ _)
      | false => exact dSu (zV _ _)
 case indexAddr t x ix =>
  cases P.underlying t with
  | none => exact SimP.none _
  | some d =>
   cases d <;> (try dsimp only) <;> try exact SimP.none _
   ·rename_i e
    cases P.info? e with
    | none => exact SimP.none _
    | some i => exact dSu (mK _ _ _)
   ·rename_i n e
    cases P.info? e with
    | none => exact SimP.none _
    | some i => exact dSu (nM _ _ _ _)
 case index t x ix =>
  cases P.underlying t with
  | none => exact SimP.none _
  | some d => cases d <;> first | exact SimP.none _ | exact dSu (sH _ _)
 case extract x i => exact dSu (pJ _ _)
 case range t x =>
  cases P.underlying t with
  | none => exact SimP.none _
  | some d => cases d <;> first | exact SimP.none _ | exact bFh _
 case next x str =>
  cases str with
  | true => simp only [if_true]; exact cBe _
  | false => simp only [Bool.false_eq_true, if_false]; exact SimP.none _
 case makeMap t r => cases r <;> first | exact SimP.none _ | exact aKz
 case lookup t x k ok =>
  cases P.underlying t with
  | none => exact SimP.none _
  | some d =>
   cases d <;> (try dsimp only) <;> try exact SimP.none _
   rename_i kt et
   cases P.underlying kt with
   | none => exact SimP.none _
   | some d2 =>
    cases P.info? et with
    | none => exact SimP.none _
    | some i =>
     try dsimp only
     cases i.zero with
     | none => exact SimP.none _
     | some z =>
      try dsimp only
      cases jT d2 with
      | true => exact aPj _ _ _ _ _
      | false => exact SimP.none _
 case mapUpdate t m k x =>
  cases P.underlying t with
  | none => exact SimP.none _
  | some d =>
   cases d <;> (try dsimp only) <;> try exact SimP.none _
   rename_i kt et
   cases P.underlying kt with
   | none => exact SimP.none _
   | some d2 =>
    try dsimp only
    cases jT d2 with
    | true => exact aQm _ _ _ _
    | false => exact SimP.none _
 case mapEntry t m k =>
  cases P.underlying t with
  | none => exact SimP.none _
  | some d =>
   cases d <;> (try dsimp only) <;> try exact SimP.none _
   rename_i kt et
   cases P.underlying kt with
   | none => exact SimP.none _
   | some d2 =>
    cases P.info? et with
    | none => exact SimP.none _
    | some i =>
     try dsimp only
     cases i.zero with
     | none => exact SimP.none _
     | some z =>
      try dsimp only
      cases jT d2 with
      | true => exact aCi _ _ _ _
      | false => exact SimP.none _
 case entryStore t m s x => exact yC _ _ _
 case makeSlice t n c =>
  cases P.underlying t with
  | none => exact SimP.none _
  | some d =>
   cases d <;> (try dsimp only) <;> try exact SimP.none _
   rename_i e
   cases P.info? e with
   | none => exact SimP.none _
   | some i =>
    try dsimp only
    cases i.zero with
    | none => exact SimP.none _
    | some z =>
     try dsimp only
     split
     ·exact aAk _ _ _ _ _
     ·exact SimP.none _
 case call c =>
  obtain ⟨callee, args, ats⟩ := c
  cases callee with
  | value f =>
   try dsimp only
   unfold cX
   cases opr env f <;> first | exact SimP.none _ | exact HC _ _
  | invoke r m => exact SimP.none _
  | builtin b => exact aMl _ _ _
theorem lA (HC : ∀ g args, SimP gg (bR ⟨P, I2⟩ rec2 g args) (bR ⟨P, I1⟩ rec1 g args)) (all : Array Oper) (o : Oper) (env : aV) :
  SimP gg (bL ⟨P, I2⟩ rec2 all o env) (bL ⟨P, I1⟩ rec1 all o env) := by
 unfold bL
 cases o.guard with
 | none => exact aBc HC o env
 | some g =>
  obtain ⟨j, want⟩ := g
  dsimp only
  unfold gD
  cases aWx all j env <;> try exact SimP.none _
  ·rename_i x
   dsimp only
   split
   ·exact aBc HC o env
   ·exact SimP.val _
  ·rename_i vs
   cases vs with
   | nil => exact SimP.val _
   | cons a b => exact SimP.none _
def SimK (gg : Bool) (k k' : K) : Prop := ∀ env, SimP gg (k env) (k' env)
theorem dSy {r r' : aH} {k k' : DV → Hp → aH} (h : SimR gg r r') (hk : ∀ v, SimP gg (k v) (k' v)) : SimR gg (bnd r k) (bnd r' k') := by
 intro v h1 e
 obtain ⟨u, h0, e1, e2⟩ := dM e
 obtain ⟨h0', f1, S⟩ := h u h0 e1
 obtain ⟨h1', g1, S1⟩ := hk u h0 h0' S v h1 e2
 exact ⟨h1', by rw [f1]; exact g1, S1⟩
theorem dTn {b b' : Bool} {r r' : aH} (hb : b = true → b' = true) (h : SimR gg r r') : SimR gg (cnd b r) (cnd b' r') := by
 cases b with
 | false => exact fun v k e => by cases e
 | true => rw [hb rfl]; exact h
theorem pM (HC : ∀ g args, SimP gg (bR ⟨P, I2⟩ rec2 g args) (bR ⟨P, I1⟩ rec1 g args)) (nt : Nat) (all : Array Oper) {k k' : K} (hk : SimK gg k k') :
  ∀ l : List Oper, SimK gg (jD ⟨P, I2⟩ rec2 nt all l k) (jD ⟨P, I1⟩ rec1 nt all l k')
 | [] => hk
 | o :: l => fun env h h' S => by
  change SimR gg (cnd (cZ nt o.dst) (bnd (bL ⟨P, I2⟩ rec2 all o env h) fun v h1 => jD ⟨P, I2⟩ rec2 nt all l k (bP env o.dst v) h1))
   (cnd (cZ nt o.dst) (bnd (bL ⟨P, I1⟩ rec1 all o env h') fun v h1 => jD ⟨P, I1⟩ rec1 nt all l k' (bP env o.dst v) h1))
  exact dTn id (dSy (lA HC all o env h h' S) fun v => pM HC nt all hk l _)
theorem dCd (o : Oper) (b : Pos) (env : aV) : SimP gg (dV ⟨P, I2⟩ o b env) (dV ⟨P, I1⟩ o b env) := by
 obtain ⟨dst, op, ty, pos, after, guard⟩ := o
 unfold dV
 cases op <;> (try dsimp only) <;> try exact SimP.none _
 case alloc t =>
  cases P.info? t with
  | none => exact SimP.none _
  | some i =>
   dsimp only
   cases i.zero with
   | none => exact SimP.none _
   | some z => exact aAu _ _
 case box t x => exact bEz _ _
 case buildSlice t n ps =>
  cases P.underlying t with
  | none => exact SimP.none _
  | some d =>
   cases d <;> (try dsimp only) <;> try exact SimP.none _
   rename_i e
   cases P.info? e with
   | none => exact SimP.none _
   | some i =>
    dsimp only
    cases i.zero with
    | none => exact SimP.none _
    | some z =>
     dsimp only
     split
     ·exact rP _ _ _ _
     ·exact SimP.none _
theorem SimR.same {r r' : aH} (h : SimR gg r r') {v : DV} (hs : bG r v = true) : bG r' v = true := by
 unfold bG at hs ⊢
 split at hs
 ·rename_i x k
  obtain ⟨k', e, _⟩ := h x k rfl
  rw [e]; exact hs
 ·cases hs
inductive SimHs (gg : Bool) : List (Option Nat × Hp) → List (Option Nat × Hp) → Prop
 | nil : SimHs gg [] []
 | cons {j : Option Nat} {h h' : Hp} {l l' : List (Option Nat × Hp)} (S : Sim gg h h') (T : SimHs gg l l') : SimHs gg ((j, h) :: l) ((j, h') :: l')
theorem sS (m : Array Nat) (i : Nat) (v : DV) {look look' : Hp → aH} (hl : SimP gg look look') : ∀ (dirty : Bool) {hs hs' : List (Option Nat × Hp)}, SimHs gg hs hs' →
  eJ m i v look dirty hs = true → eJ m i v look' dirty hs' = true
 | dirty, _, _, .nil, h => h
 | dirty, _, _, .cons (j := j) S T, h => by
  unfold eJ at h ⊢
  rw [Bool.and_eq_true] at h ⊢
  refine ⟨?_, ?_⟩
  ·have h1 := h.1
   cases dirty with
   | true => exact SimR.same (hl _ _ S) h1
   | false => exact h1
  ·have h2 := h.2
   cases j with
   | none => exact h2
   | some j =>
    dsimp only at h2 ⊢
    cases ho : gK m j i with
    | true => rfl
    | false =>
     rw [ho] at h2
     exact sS m i v hl true T h2
inductive SimSeen (gg : Bool) : List Seen → List Seen → Prop
 | nil : SimSeen gg [] []
 | cons {i : Nat} {look look' : Hp → aH} {v : DV} {l l' : List Seen} (S : SimP gg look look') (T : SimSeen gg l l') : SimSeen gg (⟨i, look, v⟩ :: l) (⟨i, look', v⟩ :: l')
theorem SimSeen.all {m : Array Nat} {i : Nat} {h h' : Hp} (S : Sim gg h h') : ∀ {l l' : List Seen}, SimSeen gg l l' →
  l.all (fun q => gK m q.at_ i || bG (q.look h) q.v) = true → l'.all (fun q => gK m q.at_ i || bG (q.look h') q.v) = true
 | _, _, .nil, e => e
 | _, _, .cons (i := i0) (v := v) S1 T, e => by
  rw [List.all_cons, Bool.and_eq_true] at e ⊢
  refine ⟨?_, SimSeen.all S T e.2⟩
  have h1 := e.1
  rw [Bool.or_eq_true] at h1 ⊢
  exact h1.imp id fun hs => SimR.same (S1 _ _ S) hs
theorem mJ (HC : ∀ g args, SimP gg (bR ⟨P, I2⟩ rec2 g args) (bR ⟨P, I1⟩ rec1 g args)) (nt : Nat) (all : Array Oper) (m : Array Nat) (p0 : Pos) {k k' : K} (hk : SimK gg k k') :
  ∀ (l : List Oper) (i c : Nat) (dirty : Bool) {rd rd' : List Seen} {hs hs' : List (Option Nat × Hp)}, SimSeen gg rd rd' → SimHs gg hs hs' →
   SimK gg (eI ⟨P, I2⟩ rec2 nt all m p0 l k i c dirty rd hs) (eI ⟨P, I1⟩ rec1 nt all m p0 l k' i c dirty rd' hs')
 | [], i, c, dirty, rd, rd', hs, hs', R, T => hk
 | o :: l, i, c, dirty, rd, rd', hs, hs', R, T => fun env h h' S => by
  change SimR gg (cnd (cZ nt o.dst) (
   match bW P o.op with
   | .pure => bnd (bL ⟨P, I2⟩ rec2 all o env h) fun v h' => eI ⟨P, I2⟩ rec2 nt all m p0 l k (i + 1) c dirty rd hs (bP env o.dst v) h'
   | .reads => bnd (bL ⟨P, I2⟩ rec2 all o env h) fun v h' =>
     cnd (eJ m i v (bL ⟨P, I2⟩ rec2 all o env) dirty hs) (eI ⟨P, I2⟩ rec2 nt all m p0 l k (i + 1) c dirty (⟨i, bL ⟨P, I2⟩ rec2 all o env, v⟩ :: rd) hs (bP env o.dst v) h')
   | .makes => bnd (dV ⟨P, I2⟩ o (bX c p0) env h) fun v h' => eI ⟨P, I2⟩ rec2 nt all m p0 l k (i + 1) (c + 1) true rd hs (bP env o.dst v) h'
   | .acts => bnd (bL ⟨P, I2⟩ rec2 all o env h) fun v h' =>
     cnd (rd.all (fun q => gK m q.at_ i || bG (q.look h') q.v)) (eI ⟨P, I2⟩ rec2 nt all m p0 l k (i + 1) c false rd ((some i, h') :: hs) (bP env o.dst v) h')))
   (cnd (cZ nt o.dst) (
   match bW P o.op with
   | .pure => bnd (bL ⟨P, I1⟩ rec1 all o env h') fun v h' => eI ⟨P, I1⟩ rec1 nt all m p0 l k' (i + 1) c dirty rd' hs' (bP env o.dst v) h'
   | .reads => bnd (bL ⟨P, I1⟩ rec1 all o env h') fun v h' =>
     cnd (eJ m i v (bL ⟨P, I1⟩ rec1 all o env) dirty hs') (eI ⟨P, I1⟩ rec1 nt all m p0 l k' (i + 1) c dirty (⟨i, bL ⟨P, I1⟩ rec1 all o env, v⟩ :: rd') hs' (bP env o.dst v) h')
   | .makes => bnd (dV ⟨P, I1⟩ o (bX c p0) env h') fun v h' => eI ⟨P, I1⟩ rec1 nt all m p0 l k' (i + 1) (c + 1) true rd' hs' (bP env o.dst v) h'
   | .acts => bnd (bL ⟨P, I1⟩ rec1 all o env h') fun v h' =>
     cnd (rd'.all (fun q => gK m q.at_ i || bG (q.look h') q.v)) (eI ⟨P, I1⟩ rec1 nt all m p0 l k' (i + 1) c false rd' ((some i, h') :: hs') (bP env o.dst v) h')))
  refine dTn id ?_
  cases bW P o.op with
  | pure => exact dSy (lA HC all o env h h' S) fun v => mJ HC nt all m p0 hk l _ _ _ R T _
  | reads =>
   exact dSy (lA HC all o env h h' S) fun v h1 h1' S1 => dTn (sS m i v (lA HC all o env) dirty T)
    (mJ HC nt all m p0 hk l _ _ _ (.cons (lA HC all o env) R) T _ _ _ S1)
  | makes => exact dSy (dCd o _ env h h' S) fun v => mJ HC nt all m p0 hk l _ _ _ R T _
  | acts =>
   exact dSy (lA HC all o env h h' S) fun v h1 h1' S1 => dTn (SimSeen.all S1 R)
    (mJ HC nt all m p0 hk l _ _ _ R (.cons S1 T) _ _ _ S1)
theorem Sim.resv {gg : Bool} {h h' : Hp} (S : Sim gg h h') (k : Nat) : Sim gg (resv k h) (resv k h') := by
 cases k with
 | zero => exact S
 | succ k => exact ⟨by show bX (k + 1) h'.next = bX (k + 1) h.next; rw [S.next], S.get⟩
theorem bNr (HC : ∀ g args, SimP gg (bR ⟨P, I2⟩ rec2 g args) (bR ⟨P, I1⟩ rec1 g args)) (nt : Nat) (ops : Array Oper) {k k' : K} (hk : SimK gg k k') :
  SimK gg (iO ⟨P, I2⟩ rec2 nt ops k) (iO ⟨P, I1⟩ rec1 nt ops k') := fun env h h' S => by
 unfold iO
 rw [S.next]
 exact mJ HC nt ops _ _ hk _ _ _ _ .nil (.cons (S.resv _) .nil) env _ _ (S.resv _)
theorem aKp {c : DV} {a b a' b' : aH} (ha : SimR gg a a') (hb : SimR gg b b') : SimR gg (aT c a b) (aT c a' b') := by
 unfold aT
 cases c <;> try exact SimR.none _
 rename_i x
 cases x
 ·exact hb
 ·exact ha
theorem pY {b b' : K → K} (hb : ∀ k k', SimK gg k k' → SimK gg (b k) (b' k')) : ∀ (n d : Nat), SimK gg (aO b n) (aO b' (n + d))
 | 0, d => fun env h h' S v k e => by cases e
 | n + 1, d => by
  rw [show n + 1 + d = (n + d) + 1 from by omega]
  exact hb _ _ (pY hb n d)
theorem gE (HC : ∀ g args, SimP gg (bR ⟨P, I2⟩ rec2 g args) (bR ⟨P, I1⟩ rec1 g args)) (nt n d : Nat) : ∀ (c : Code) (X X' : Nat → K) (kr kr' k k' : K), (∀ j, SimK gg (X j) (X' j)) → SimK gg kr kr' → SimK gg k k' →
  SimK gg (aM ⟨P, I2⟩ rec2 nt n c X kr k) (aM ⟨P, I1⟩ rec1 nt (n + d) c X' kr' k') := by
 intro c
 have hfail : ∀ k', SimK gg dO k' := fun k' env h h' S v k e => by cases e
 induction c with
 | skip => intro X X' kr kr' k k' hX hr hk; exact hk
 | region id ops dr =>
  intro X X' kr kr' k k' hX hr hk
  change SimK gg (Bool.rec (motive := fun _ => K) (jD ⟨P, I2⟩ rec2 nt ops ops.toList k) (Bool.rec (motive := fun _ => K) dO (iO ⟨P, I2⟩ rec2 nt ops k) (fE P ops)) dr)
   (Bool.rec (motive := fun _ => K) (jD ⟨P, I1⟩ rec1 nt ops ops.toList k') (Bool.rec (motive := fun _ => K) dO (iO ⟨P, I1⟩ rec1 nt ops k') (fE P ops)) dr)
  cases dr with
  | false => exact pM HC nt ops hk _
  | true =>
   cases fE P ops with
   | false => exact hfail _
   | true => exact bNr HC nt ops hk
 | seq x y ihx ihy => intro X X' kr kr' k k' hX hr hk; exact ihx _ _ _ _ _ _ hX hr (ihy _ _ _ _ _ _ hX hr hk)
 | cond c x y ihx ihy =>
  intro X X' kr kr' k k' hX hr hk env h h' S
  exact aKp (ihx _ _ _ _ _ _ hX hr hk env h h' S) (ihy _ _ _ _ _ _ hX hr hk env h h' S)
 | block id x ih =>
  intro X X' kr kr' k k' hX hr hk
  refine ih _ _ _ _ _ _ (fun j => ?_) hr hk
  cases hj : Nat.beq j id with
  | true => exact hk
  | false => exact hX j
 | loop x ih =>
  intro X X' kr kr' k k' hX hr hk
  exact pY (fun k k' hk => ih _ _ _ _ _ _ hX hr hk) n d
 | rangeFunc f ps x y ihx ihy => intro X X' kr kr' k k' hX hr hk; exact hfail _
 | exit id => intro X X' kr kr' k k' hX hr hk; exact hX id
 | scope x ih => intro X X' kr kr' k k' hX hr hk; exact ih _ _ _ _ _ _ hX hr hk
 | label l => intro X X' kr kr' k k' hX hr hk; exact hk
 | goto l => intro X X' kr kr' k k' hX hr hk; exact hfail _
 | ret => intro X X' kr kr' k k' hX hr hk; exact hr
 | refuse why => intro X X' kr kr' k k' hX hr hk; exact hfail _
theorem bDa {h h' : Hp} (S : Sim gg h h') (t : TypeId) (x : DV) {k k' : DV → aH} (hk : ∀ v, SimR gg (k v) (k' v)) : SimR gg (aBe ⟨P, I2⟩ t x h k) (aBe ⟨P, I1⟩ t x h' k') := by
 unfold aBe
 dsimp only
 cases P.underlying t with
 | none => exact SimR.none _
 | some d =>
  cases P.info? t with
  | none => exact SimR.none _
  | some i =>
   dsimp only
   refine dSy ?_ fun v _ _ _ => hk v
   cases jC d with
   | true => exact kN _ _ h h' S
   | false => exact lC _ h h' S
theorem qZ {h h' : Hp} (S : Sim gg h h') (env : aV) : ∀ (l : List ResultVar) (k k' : List DV → aH), (∀ vs, SimR gg (k vs) (k' vs)) → SimR gg (aXv ⟨P, I2⟩ env h l k) (aXv ⟨P, I1⟩ env h' l k')
 | [], k, k', hk => hk []
 | .tmp t :: l, k, k', hk => qZ S env l _ _ fun vs => hk _
 | .cell a t :: l, k, k', hk => bDa S t (env a) fun v => qZ S env l _ _ fun vs => hk _
theorem qK (fn : Func) : SimK gg (aR ⟨P, I2⟩ fn) (aR ⟨P, I1⟩ fn) := fun env h h' S => by
 unfold aR
 refine qZ S env _ _ _ fun vs => ?_
 unfold bZb
 match vs with
 | [v] => exact SimR.some S _
 | [] => exact SimR.some S _
 | _ :: _ :: _ => exact SimR.some S _
theorem mV (HC : ∀ g args, SimP gg (bR ⟨P, I2⟩ rec2 g args) (bR ⟨P, I1⟩ rec1 g args)) (n d : Nat) (f : FuncId) (args : List DV) :
  SimP gg (aF ⟨P, I2⟩ rec2 n f args) (aF ⟨P, I1⟩ rec1 (n + d) f args) := by
 intro h h' S
 unfold aF
 dsimp only
 cases P.funcs[f]? with
 | none => exact SimR.none _
 | some fn =>
  dsimp only
  cases fn.body with
  | none => exact SimR.none _
  | some c => exact gE HC fn.ntmps n d c _ _ _ _ _ _ (fun _ _ _ _ _ _ _ e => by cases e) (qK fn) (qK fn) _ h h' S
end
theorem bKd {gg : Bool} {P : Program} {I2 I1 : FuncId → Option (List DV → Hp → aH)} (d : Nat) (h0 : ∀ g, I2 g = none → I1 g = none)
  (hI : ∀ g F, I2 g = some F → ∀ n args, SimP gg (F args) (bR ⟨P, I1⟩ (fnD ⟨P, I1⟩ (n + d)) g args)) : ∀ (n : Nat) (f : FuncId) (args : List DV), SimP gg (fnD ⟨P, I2⟩ n f args) (fnD ⟨P, I1⟩ (n + d) f args)
 | 0, f, args => fun h h' S v k e => by cases e
 | n + 1, f, args => by
  rw [show n + 1 + d = (n + d) + 1 from by omega]
  refine mV (fun g az => ?_) n d f args
  unfold bR
  dsimp only
  cases hg : I2 g with
  | none =>
   rw [h0 g hg]
   exact bKd d h0 hI n g az
  | some F =>
   have := hI g F hg n az
   unfold bR at this
   exact this
end Go.Dd

namespace Go.Dd
section
variable {gg : Bool} {P : Program} {I2 I1 : FuncId → Option (List DV → Hp → aH)} {rec2 rec1 : FuncId → List DV → Hp → aH}
theorem nE {c : Bool} {q q' : aH} (h : SimR gg q q') : SimR gg (cnd c q) (cnd c q') := by
 cases c with
 | false => exact SimR.none _
 | true => exact h
theorem dSw (k' : K) : SimK gg dO k' := fun env h h' S v k e => by cases e
theorem vM (HC : ∀ g args, SimP gg (bR ⟨P, I2⟩ rec2 g args) (bR ⟨P, I1⟩ rec1 g args)) (n d : Nat) (I : ItC) (b : Bool) {kr kr' k k' : K} (hr : SimK gg kr kr') (hk : SimK gg k k') (e1 : aV) :
  SimP gg (aLh ⟨P, I2⟩ rec2 n I b kr k e1) (aLh ⟨P, I1⟩ rec1 (n + d) I b kr' k' e1) := fun h h' S =>
 nE (pM HC I.nt I.ops (gE HC I.nt n d I.after _ _ _ _ _ _ (fun _ => dSw _) hr hk) _ _ h h' S)
theorem bDb (HC : ∀ g args, SimP gg (bR ⟨P, I2⟩ rec2 g args) (bR ⟨P, I1⟩ rec1 g args)) (n d : Nat) (I : ItC) (nt : Nat) (p : Tmp) (x y : Code) (env : aV) {X X' : Nat → K} {kr kr' kk kk' : K} (hX : ∀ j, SimK gg (X j) (X' j)) (hr : SimK gg kr kr') (hk : SimK gg kk kk') :
  SimK gg (aTr ⟨P, I2⟩ rec2 n I nt p x y env X kr kk) (aTr ⟨P, I1⟩ rec1 (n + d) I nt p x y env X' kr' kk') := fun e1 h h' S =>
 nE (gE HC nt n d x _ _ _ _ _ _ (fun _ => dSw _) (dSw _)
  (gE HC nt n d y _ _ _ _ _ _ (fun i _ => vM HC n d I false (fun _ => hX i env) (dSw _) e1) (fun _ => vM HC n d I false (fun _ => hr env) (dSw _) e1)
   (fun _ => vM HC n d I true (dSw _) (gE HC I.nt n d I.post _ _ _ _ _ _ (fun _ => dSw _) (dSw _) (gE HC I.nt n d I.step _ _ _ _ _ _ (fun _ => dSw _) (dSw _) hk)) e1)) _ h h' S)
theorem aRz (HC : ∀ g args, SimP gg (bR ⟨P, I2⟩ rec2 g args) (bR ⟨P, I1⟩ rec1 g args)) (n d : Nat) (I : ItC) (nt : Nat) (g : Operand) (p : Tmp) (x y : Code) {X X' : Nat → K} {kr kr' k k' : K} (hX : ∀ j, SimK gg (X j) (X' j)) (hr : SimK gg kr kr') (hk : SimK gg k k') :
  SimK gg (aFv ⟨P, I2⟩ rec2 n I nt g p x y X kr k) (aFv ⟨P, I1⟩ rec1 (n + d) I nt g p x y X' kr' k') := by
 intro env h h' S
 unfold aFv
 cases opr env g with
 | f gf first cap =>
  cases first with
  | cons _ _ => exact SimR.none _
  | nil =>
   refine nE ?_
   rw [S.next]
   refine gE HC I.nt n d I.pre _ _ _ _ _ _ (fun _ => dSw _) (dSw _) (pY (fun kk kk' hkk => ?_) n d) _ _ _ (S.resv 2)
   refine gE HC I.nt n d I.test _ _ _ _ _ _ (fun j => ?_) (dSw _) (pM HC I.nt I.ops ?_ I.front)
   ·cases Nat.beq j I.b0 with
    | true => exact fun _ => hk env
    | false => exact dSw _
   ·intro e1 h1 h1' S1
    exact nE (c := ylB (e1 I.yt) h.next) (bDb HC n d I nt p x y env hX hr hkk e1 h1 h1' S1)
 | _ => exact SimR.none _
theorem bCs (HC : ∀ g args, SimP gg (bR ⟨P, I2⟩ rec2 g args) (bR ⟨P, I1⟩ rec1 g args)) (nt n d : Nat) (I : ItC) : ∀ (c : Code) (X X' : Nat → K) (kr kr' k k' : K), (∀ j, SimK gg (X j) (X' j)) → SimK gg kr kr' → SimK gg k k' →
  SimK gg (bPf ⟨P, I2⟩ rec2 nt n I c X kr k) (bPf ⟨P, I1⟩ rec1 nt (n + d) I c X' kr' k') := by
 intro c
 induction c with
 | skip => intro X X' kr kr' k k' hX hr hk; exact hk
 | region id ops dr => intro X X' kr kr' k k' hX hr hk; exact gE HC nt n d (.region id ops dr) _ _ _ _ _ _ hX hr hk
 | seq x y ihx ihy => intro X X' kr kr' k k' hX hr hk; exact ihx _ _ _ _ _ _ hX hr (ihy _ _ _ _ _ _ hX hr hk)
 | cond c x y ihx ihy =>
  intro X X' kr kr' k k' hX hr hk env h h' S
  exact aKp (ihx _ _ _ _ _ _ hX hr hk env h h' S) (ihy _ _ _ _ _ _ hX hr hk env h h' S)
 | block id x ih =>
  intro X X' kr kr' k k' hX hr hk
  refine ih _ _ _ _ _ _ (fun j => ?_) hr hk
  cases hj : Nat.beq j id with
  | true => exact hk
  | false => exact hX j
 | loop x ih =>
  intro X X' kr kr' k k' hX hr hk
  exact pY (fun k k' hk => ih _ _ _ _ _ _ hX hr hk) n d
 | rangeFunc g ps x y ihx ihy =>
  intro X X' kr kr' k k' hX hr hk
  obtain ⟨l⟩ := ps
  match l with
  | [p] => exact aRz HC n d I nt g p x y hX hr hk
  | [] => exact dSw _
  | _ :: _ :: _ => exact dSw _
 | exit id => intro X X' kr kr' k k' hX hr hk; exact hX id
 | ret => intro X X' kr kr' k k' hX hr hk; exact hr
 | _ => intros; exact dSw _
theorem bDy (HC : ∀ g args, SimP gg (bR ⟨P, I2⟩ rec2 g args) (bR ⟨P, I1⟩ rec1 g args)) (n d : Nat) (I : ItC) (f : FuncId) (args : List DV) :
  SimP gg (mU ⟨P, I2⟩ rec2 n I f args) (mU ⟨P, I1⟩ rec1 (n + d) I f args) := by
 intro h h' S
 unfold mU
 dsimp only
 cases P.funcs[f]? with
 | none => exact SimR.none _
 | some fn =>
  dsimp only
  cases fn.body with
  | none => exact SimR.none _
  | some c => exact bCs HC fn.ntmps n d I c _ _ _ _ _ _ (fun _ => dSw _) (qK fn) (qK fn) _ h h' S
end
end Go.Dd

namespace Go.Dd
noncomputable def fnR (C : Cfg) (I : ItC) (q : FuncId → Bool) (n : Nat) : FuncId → List DV → Hp → aH :=
 Nat.rec (motive := fun _ => FuncId → List DV → Hp → aH) (fun _ _ _ => none) (fun m ih f => bif q f then mU C ih m I f else aF C ih m f) n
theorem aIv {gg : Bool} {P : Program} {I2 I1 : FuncId → Option (List DV → Hp → aH)} {I : ItC} {q : FuncId → Bool} (d : Nat) (h0 : ∀ g, I2 g = none → I1 g = none)
  (hI : ∀ g F, I2 g = some F → ∀ n args, SimP gg (F args) (bR ⟨P, I1⟩ (fnR ⟨P, I1⟩ I q (n + d)) g args)) : ∀ (n : Nat) (f : FuncId) (args : List DV), SimP gg (fnR ⟨P, I2⟩ I q n f args) (fnR ⟨P, I1⟩ I q (n + d) f args)
 | 0, f, args => fun h h' S v k e => by cases e
 | n + 1, f, args => by
  rw [show n + 1 + d = (n + d) + 1 from by omega]
  have HC : ∀ g az, SimP gg (bR ⟨P, I2⟩ (fnR ⟨P, I2⟩ I q n) g az) (bR ⟨P, I1⟩ (fnR ⟨P, I1⟩ I q (n + d)) g az) := fun g az => by
   unfold bR
   dsimp only
   cases hg : I2 g with
   | none =>
    rw [h0 g hg]
    exact aIv d h0 hI n g az
   | some F =>
    have := hI g F hg n az
    unfold bR at this
    exact this
  show SimP gg ((bif q f then mU ⟨P, I2⟩ (fnR ⟨P, I2⟩ I q n) n I f else aF ⟨P, I2⟩ (fnR ⟨P, I2⟩ I q n) n f) args) ((bif q f then mU ⟨P, I1⟩ (fnR ⟨P, I1⟩ I q (n + d)) (n + d) I f else aF ⟨P, I1⟩ (fnR ⟨P, I1⟩ I q (n + d)) (n + d) f) args)
  cases q f with
  | true => exact bDy HC n d I f args
  | false => exact mV HC n d f args
end Go.Dd

namespace Go.Dd
noncomputable section
def iM (w : Int) : Nat :=
 match w with
 | .ofNat w => bif Nat.beq (Nat.mod w 2) 0 && (Nat.ble 6 w && Nat.ble w 262144) then Nat.div w 2 else 0
 | .negSucc _ => 0
def dI (w : Int) : Bool :=
 match w with
 | .ofNat w => Nat.beq (Nat.mod w 2) 1 && Nat.blt w 2147483648
 | .negSucc w => Nat.beq (Nat.mod w 2) 0 && Nat.blt w 2147483648
def qB (w : Int) : Int :=
 match w with
 | .ofNat w => .ofNat (Nat.div w 2)
 | .negSucc w => .negSucc (Nat.div w 2)
structure MemV where
 wb : Pos
 n : Nat
 fin : Nat
 made : Nat
 pb : Pos
 t : WT
 pl : WT
def lP (m : Pos) (h : Hp) : Option MemV :=
 match h.bl.get m with
 | some (.row .ex [.l wb 0 n c, .i .i64 (.ofNat fin), .i .i64 (.ofNat made), .m pb]) =>
  match h.bl.get wb, h.bl.get pb with
  | some (.big n' t), some (.mi pl) => bif Nat.beq n n' && Nat.beq n c then (bif Nat.blt n 1000000 && (Nat.ble fin n && Nat.blt made 1000000) then some ⟨wb, n, fin, made, pb, t, pl⟩ else none) else none
  | _, _ => none
 | _ => none
def bQ (o : Int) (pl : WT) : Nat :=
 bif Nat.beq (iM o) 0 then 0 else match pl.get (iM o) with
  | .ofNat 0 => 0
  | _ => iM o
def dK (w : Int) (pl : WT) : Bool :=
 match w with
 | .ofNat 0 => true
 | .ofNat 2 => true
 | .ofNat 4 => true
 | w => dI w || !(Nat.beq (bQ w pl) 0)
def sA (w : Int) (pl : WT) : Bool :=
 match w with
 | .ofNat 0 => true
 | w => !(Nat.beq (bQ w pl) 0)
def iU (args : List DV) (h : Hp) (k : MemV → List DV → aH) : aH :=
 match args with
 | .p m 0 :: rest => match lP m h with
  | some M => k M rest
  | none => none
 | _ => none
def err (e : Nat) (h : Hp) : aH := some (.t [.i .i64 (.ofNat 0), .i .i64 (.ofNat e)], h)
def isF (args : List DV) (h : Hp) : aH := iU args h fun M r => match r with
 | [.i .i64 w] => some (.b (!(Nat.beq (bQ w M.pl) 0)), h)
 | _ => none
def aAg (args : List DV) (h : Hp) : aH := iU args h fun M r => match r with
 | [.i .i64 w] => some (.b (dK w M.pl), h)
 | _ => none
def aBd (args : List DV) (h : Hp) : aH := iU args h fun M r => match r with
 | [] => some (.i .i64 (.ofNat M.n), h)
 | _ => none
def aVz (args : List DV) (h : Hp) : aH := iU args h fun M r => match r with
 | [] => some (.i .i64 (.ofNat (Nat.sub M.n M.fin)), h)
 | _ => none
def hC (M : MemV) (o : Int) (k : Nat → aH) : aH :=
 bif Nat.blt (Nat.add (bQ o M.pl) 1) M.n then (match M.t.get (bQ o M.pl) with
  | .ofNat hd => bif Nat.blt hd 1000000000000 then k hd else none
  | .negSucc _ => none) else none
def iX (args : List DV) (h : Hp) : aH := iU args h fun M r => match r with
 | [.i .i64 o] => hC M o fun _ => some (.i .i64 (M.t.get (Nat.add (bQ o M.pl) 1)), h)
 | _ => none
def kA (args : List DV) (h : Hp) : aH := iU args h fun M r => match r with
 | [.i .i64 o] => hC M o fun hd => some (.i .i64 (.ofNat (Nat.mod hd 4)), h)
 | _ => none
def fF (args : List DV) (h : Hp) : aH := iU args h fun M r => match r with
 | [.i .i64 o] => hC M o fun hd => some (.i .i64 (.ofNat (Nat.div hd 4)), h)
 | _ => none
def gL (M : MemV) (o i : Int) (bad : Nat → aH) (k : Nat → Nat → aH) : aH :=
 bif Nat.beq (bQ o M.pl) 0 then bad 1 else match i with
  | .negSucc _ => bad 5
  | .ofNat i => hC M o fun hd => bif Nat.ble (Nat.div hd 4) i then bad 5 else
    (bif Nat.blt (Nat.add (Nat.add (bQ o M.pl) 3) i) M.n then k hd (Nat.add (Nat.add (bQ o M.pl) 3) i) else none)
def qJ (args : List DV) (h : Hp) : aH := iU args h fun M r => match r with
 | [.i .i64 o, .i .i64 i] => gL M o i (fun e => err e h) fun _ a => some (.t [.i .i64 (M.t.get a), .i .i64 (.ofNat 0)], h)
 | _ => none
def kU (M : MemV) (a : Nat) (w : Int) (h : Hp) : aH := some (.i .i64 (.ofNat 0), ⟨h.next, Tr.set (.big M.n (M.t.set a w)) M.wb h.bl⟩)
def nL (args : List DV) (h : Hp) : aH := iU args h fun M r => match r with
 | [.i .i64 o, .i .i64 i, .i .i64 w] => gL M o i (fun e => some (.i .i64 (.ofNat e), h)) fun hd a =>
   match Nat.mod hd 4 with
   | 0 => bif dK w M.pl then kU M a w h else some (.i .i64 (.ofNat 6), h)
   | 2 => (match w with
    | .ofNat c => bif Nat.ble c 255 then kU M a w h else some (.i .i64 (.ofNat 6), h)
    | .negSucc _ => some (.i .i64 (.ofNat 6), h))
   | _ => kU M a w h
 | _ => none
def kO (args : List DV) (h : Hp) : aH := iU args h fun M r => match r with
 | [.i .i64 o, .i .i64 c] => bif Nat.beq (bQ o M.pl) 0 || !(sA c M.pl) then some (.i .i64 (.ofNat 1), h) else
   (bif Nat.blt (Nat.add (bQ o M.pl) 1) M.n then kU M (Nat.add (bQ o M.pl) 1) c h else none)
 | _ => none
def kW (t : WT) (c : Nat) : Nat → WT :=
 Nat.rec (motive := fun _ => Nat → WT) (fun _ => t) (fun _ ih a => (ih (Nat.add a 1)).set a (.ofNat 0)) c
def iZ (args : List DV) (h : Hp) : aH :=
 match args with
 | [.p m 0, .i .i64 cls, .i .i64 fmt, .i .i64 cnt] => match lP m h with
  | none => none
  | some M => bif !(sA cls M.pl) then err 1 h else match fmt, cnt with
   | .ofNat f, .ofNat c => bif Nat.ble f 2 && Nat.ble c 256 then
     (bif Nat.blt (Nat.sub M.n M.fin) (Nat.add c 3) then err 4 h else
      (bif Nat.ble 3 M.fin && Nat.ble M.fin 131072 then
       some (.t [.i .i64 (.ofNat (Nat.mul M.fin 2)), .i .i64 (.ofNat 0)],
        ⟨h.next, Tr.set (.row .ex [.l M.wb 0 M.n M.n, .i .i64 (.ofNat (Nat.add M.fin (Nat.add c 3))), .i .i64 (.ofNat (Nat.succ M.made)), .m M.pb]) m
         (Tr.set (.mi (M.pl.set M.fin (.ofNat 1))) M.pb
          (Tr.set (.big M.n (kW (((M.t.set M.fin (.ofNat (Nat.add (Nat.mul c 4) f))).set (Nat.add M.fin 1) cls).set (Nat.add M.fin 2) (.ofNat (Nat.succ M.made))) c (Nat.add M.fin 3))) M.wb h.bl))⟩)
       else none))
     else err 1 h
   | _, _ => err 1 h
 | _ => none
def aPw (args : List DV) (h : Hp) : aH :=
 match args with
 | [.i .i64 (.ofNat n)] => bif Nat.blt n 16 || Nat.blt 131072 n then some (.p0, h) else
   some (.p (bX 2 h.next) 0, ⟨bX 3 h.next, Tr.set (.row .ex [.l h.next 0 n n, .i .i64 (.ofNat 3), .i .i64 (.ofNat 0), .m (bX 1 h.next)]) (bX 2 h.next)
    (Tr.set (.mi .e) (bX 1 h.next) (Tr.set (.big n .e) h.next h.bl))⟩)
 | [.i .i64 (.negSucc _)] => some (.p0, h)
 | _ => none
def eM (args : List DV) (h : Hp) : aH :=
 match args with
 | [.i .i64 w] => some (.b (dI w), h)
 | _ => none
def jQ (args : List DV) (h : Hp) : aH :=
 match args with
 | [.i .i64 w] => bif dI w then some (.i .i64 (qB w), h) else some (.i .i64 (.ofNat 0), h)
 | _ => none
def gZ (args : List DV) (h : Hp) : aH :=
 match args with
 | [.i .i64 (.ofNat n)] => bif Nat.blt n 1073741824 then some (.t [.i .i64 (.ofNat (Nat.succ (Nat.mul n 2))), .b true], h) else some (.t [.i .i64 (.ofNat 0), .b false], h)
 | [.i .i64 (.negSucc n)] => bif Nat.blt n 1073741824 then some (.t [.i .i64 (.negSucc (Nat.mul n 2)), .b true], h) else some (.t [.i .i64 (.ofNat 0), .b false], h)
 | _ => none
def aAh (g : Nat) : Option (List DV → Hp → aH) :=
 bif Nat.beq g 24 then some aAg else bif Nat.beq g 31 then some isF else bif Nat.beq g 102 then some aBd else bif Nat.beq g 86 then some aVz else
 bif Nat.beq g 47 then some iZ else bif Nat.beq g 68 then some aPw else bif Nat.beq g 70 then some kO else bif Nat.beq g 72 then some nL else
 bif Nat.beq g 50 then some iX else bif Nat.beq g 38 then some kA else bif Nat.beq g 27 then some fF else bif Nat.beq g 48 then some eM else
 bif Nat.beq g 81 then some gZ else bif Nat.beq g 49 then some jQ else bif Nat.beq g 28 then some qJ else none
end
end Go.Dd

namespace Go.Dd
open Go.Proofs
def cf (f : Func) : Code := match f.body with
 | some c => c
 | none => .skip
def cL : Code → Code
 | .seq a _ => a
 | .cond _ a _ => a
 | .block _ a => a
 | .loop a => a
 | .scope a => a
 | c => c
def cR : Code → Code
 | .seq _ b => b
 | .cond _ _ b => b
 | c => c
def cC : Code → Operand
 | .cond c _ _ => c
 | _ => .const .nilFunc
def x0 : Nat → K := fun _ => dO
def xs (X : Nat → K) (i : Nat) (k : K) : Nat → K := fun j => bif Nat.beq j i then k else X j
def aLi (c : Nat) : List Nat → Nat → Int
 | [], _ => .negSucc 0
 | x :: l, i => bif Nat.beq x c then .ofNat i else aLi c l (i + 1)
def lZ (args : List DV) (h : Hp) : aH :=
 match args with
 | [.s l, .i .u8 (.ofNat c)] => bif Nat.blt c 256 then some (.i .i64 (aLi c l 0), h) else none
 | _ => none
noncomputable def CF0 : Cfg := ⟨Tryz.prog, fun _ => none⟩
noncomputable def lD (p : Pos) : Pos → Bool := Pos.rec (motive := fun _ => Pos → Bool) (fun q => Pos.rec (motive := fun _ => Bool) true (fun _ _ => false) (fun _ _ => false) q)
 (fun _ ih q => Pos.rec (motive := fun _ => Bool) false (fun q _ => ih q) (fun _ _ => false) q) (fun _ ih q => Pos.rec (motive := fun _ => Bool) false (fun _ _ => false) (fun q _ => ih q) q) p
noncomputable def jH (q : Pos) (l1 : DV) (cs : List DV) (h : Hp) : aH :=
 match l1 with
 | .l0 => some (.l h.next 0 1 1, ⟨h.next.succ, Tr.set (.row (.gr 4) cs) h.next h.bl⟩)
 | .l b o len cap => cnd (Nat.ble cap len && !(lD b q)) (match h.bl.get b, cellsAt b o (len * 4) h with
  | some (.row (.gr es) l), some old => if es = 4 ∧ o + cap * 4 = l.length ∧ (len + 1) * 56 ≤ lX then
    some (.l h.next 0 (len + 1) (len + 1), ⟨h.next.succ, Tr.set (.row (.gr 4) (old ++ cs)) h.next (Tr.set (.row .sp (bU o l)) b h.bl)⟩) else none
  | _, _ => none)
 | _ => none
noncomputable def rE (c q : Pos) (h : Hp) : aH :=
 bnd (aA (.p c 4) h) fun l1 _ =>
 bnd (cA l1 h) fun n _ =>
 bnd (aK 4 (.p q 0) h) fun x _ =>
 match x with
 | .a cs => cnd (!(lD c q)) (
  bnd (jH q l1 cs ⟨h.next.succ.succ, h.bl⟩) fun l2 h3 =>
  bnd (aG 1 (.p c 4) l2 h3) fun _ h4 => some (n, h4))
 | _ => none
noncomputable def lN (args : List DV) (h : Hp) : aH :=
 match args with
 | [.p c 0, .a lit] =>
  bnd (bN lit h) fun _ h1 =>
  bnd (aA (.p c 4) h1) fun ls h2 =>
  bnd (fnD CF0 60 187 [ls, .f 188 [] [.p h.next 0]] h2) fun i h3 =>
  bnd (aD .lss i (.i .i64 (Int.ofNat 0)) h3) fun t h4 =>
  aT t (rE c h.next h4) (some (i, h4))
 | _ => none
noncomputable def CF1 : Cfg := ⟨Tryz.prog, fun g => bif Nat.beq g 176 then some lZ else bif Nat.beq g 159 then some lN else none⟩
noncomputable def CF : Cfg := ⟨Tryz.prog, fun g => bif Nat.beq g 176 then some lZ else bif Nat.beq g 159 then some lN else aAh g⟩
def gA : Code → Array Oper
 | .region _ ops _ => ops
 | _ => #[]
def itm : ItC := { gf := 0, nt := 0, pre := .skip, b0 := 0, test := .skip, b1 := 1, rid := 0, front := [], y := ⟨none, .move (.const .nilFunc), 0, "", #[], none⟩, back := [], after := .skip, post := .skip, step := .skip, yd := 0, yt := 0, yx := 0 }
def rgB (g : FuncId) : Bool := false
noncomputable abbrev fT (C : Cfg) (n : Nat) : FuncId → List DV → Hp → aH := fnR C itm rgB n
theorem cF (f : FuncId) (hf : rgB f = false) (C : Cfg) (n : Nat) (args : List DV) (h : Hp) : fT C (n + 1) f args h = aF C (fT C n) n f args h := by
 show (bif rgB f then mU C (fT C n) n itm f else aF C (fT C n) n f) args h = _
 rw [hf]
 rfl
abbrev RT := FuncId → List DV → Hp → aH
abbrev TT0 := Hp → aH
abbrev TT1 := DV → Hp → aH
abbrev pB := DV → DV → Hp → aH
abbrev mF := DV → DV → DV → Hp → aH
abbrev dN := DV → DV → DV → DV → Hp → aH
abbrev cH := DV → DV → DV → DV → DV → Hp → aH
abbrev fI := DV → DV → DV → DV → DV → DV → Hp → aH
abbrev TT7 := DV → DV → DV → DV → DV → DV → DV → Hp → aH
abbrev TT8 := DV → DV → DV → DV → DV → DV → DV → DV → Hp → aH
abbrev TT9 := DV → DV → DV → DV → DV → DV → DV → DV → DV → Hp → aH
abbrev aPy := DV → DV → DV → DV → DV → DV → DV → DV → DV → DV → Hp → aH
abbrev dGg := DV → DV → DV → DV → DV → DV → DV → DV → DV → DV → DV → Hp → aH
abbrev dPl := DV → DV → DV → DV → DV → DV → DV → DV → DV → DV → DV → DV → Hp → aH
abbrev dPa := DV → DV → DV → DV → DV → DV → DV → DV → DV → DV → DV → DV → DV → Hp → aH
abbrev dOj := DV → DV → DV → DV → DV → DV → DV → DV → DV → DV → DV → DV → DV → DV → Hp → aH
abbrev dNq := DV → DV → DV → DV → DV → DV → DV → DV → DV → DV → DV → DV → DV → DV → DV → Hp → aH
abbrev dNn := DV → DV → DV → DV → DV → DV → DV → DV → DV → DV → DV → DV → DV → DV → DV → DV → Hp → aH
abbrev dQi := DV → DV → DV → DV → DV → DV → DV → DV → DV → DV → DV → DV → DV → DV → DV → DV → DV → Hp → aH
abbrev dRd := DV → DV → DV → DV → DV → DV → DV → DV → DV → DV → DV → DV → DV → DV → DV → DV → DV → DV → Hp → aH
abbrev dNc := DV → DV → DV → DV → DV → DV → DV → DV → DV → DV → DV → DV → DV → DV → DV → DV → DV → DV → DV → Hp → aH
abbrev dNy := DV → DV → DV → DV → DV → DV → DV → DV → DV → DV → DV → DV → DV → DV → DV → DV → DV → DV → DV → DV → Hp → aH
abbrev K0 (f : TT0) : K := fun env h => f h
abbrev K1 (f : TT1) (a0 : Nat) : K := fun env h => f (env a0) h
abbrev K2 (f : pB) (a0 a1 : Nat) : K := fun env h => f (env a0) (env a1) h
abbrev K3 (f : mF) (a0 a1 a2 : Nat) : K := fun env h => f (env a0) (env a1) (env a2) h
abbrev K4 (f : dN) (a0 a1 a2 a3 : Nat) : K := fun env h => f (env a0) (env a1) (env a2) (env a3) h
abbrev K5 (f : cH) (a0 a1 a2 a3 a4 : Nat) : K := fun env h => f (env a0) (env a1) (env a2) (env a3) (env a4) h
abbrev K6 (f : fI) (a0 a1 a2 a3 a4 a5 : Nat) : K := fun env h => f (env a0) (env a1) (env a2) (env a3) (env a4) (env a5) h
abbrev K7 (f : TT7) (a0 a1 a2 a3 a4 a5 a6 : Nat) : K := fun env h => f (env a0) (env a1) (env a2) (env a3) (env a4) (env a5) (env a6) h
abbrev K8 (f : TT8) (a0 a1 a2 a3 a4 a5 a6 a7 : Nat) : K := fun env h => f (env a0) (env a1) (env a2) (env a3) (env a4) (env a5) (env a6) (env a7) h
abbrev K9 (f : TT9) (a0 a1 a2 a3 a4 a5 a6 a7 a8 : Nat) : K := fun env h => f (env a0) (env a1) (env a2) (env a3) (env a4) (env a5) (env a6) (env a7) (env a8) h
abbrev K10 (f : aPy) (a0 a1 a2 a3 a4 a5 a6 a7 a8 a9 : Nat) : K := fun env h => f (env a0) (env a1) (env a2) (env a3) (env a4) (env a5) (env a6) (env a7) (env a8) (env a9) h
abbrev K11 (f : dGg) (a0 a1 a2 a3 a4 a5 a6 a7 a8 a9 a10 : Nat) : K := fun env h => f (env a0) (env a1) (env a2) (env a3) (env a4) (env a5) (env a6) (env a7) (env a8) (env a9) (env a10) h
abbrev K12 (f : dPl) (a0 a1 a2 a3 a4 a5 a6 a7 a8 a9 a10 a11 : Nat) : K := fun env h => f (env a0) (env a1) (env a2) (env a3) (env a4) (env a5) (env a6) (env a7) (env a8) (env a9) (env a10) (env a11) h
abbrev K13 (f : dPa) (a0 a1 a2 a3 a4 a5 a6 a7 a8 a9 a10 a11 a12 : Nat) : K := fun env h => f (env a0) (env a1) (env a2) (env a3) (env a4) (env a5) (env a6) (env a7) (env a8) (env a9) (env a10) (env a11) (env a12) h
abbrev K14 (f : dOj) (a0 a1 a2 a3 a4 a5 a6 a7 a8 a9 a10 a11 a12 a13 : Nat) : K := fun env h => f (env a0) (env a1) (env a2) (env a3) (env a4) (env a5) (env a6) (env a7) (env a8) (env a9) (env a10) (env a11) (env a12) (env a13) h
abbrev K15 (f : dNq) (a0 a1 a2 a3 a4 a5 a6 a7 a8 a9 a10 a11 a12 a13 a14 : Nat) : K := fun env h => f (env a0) (env a1) (env a2) (env a3) (env a4) (env a5) (env a6) (env a7) (env a8) (env a9) (env a10) (env a11) (env a12) (env a13) (env a14) h
abbrev K16 (f : dNn) (a0 a1 a2 a3 a4 a5 a6 a7 a8 a9 a10 a11 a12 a13 a14 a15 : Nat) : K := fun env h => f (env a0) (env a1) (env a2) (env a3) (env a4) (env a5) (env a6) (env a7) (env a8) (env a9) (env a10) (env a11) (env a12) (env a13) (env a14) (env a15) h
abbrev K17 (f : dQi) (a0 a1 a2 a3 a4 a5 a6 a7 a8 a9 a10 a11 a12 a13 a14 a15 a16 : Nat) : K := fun env h => f (env a0) (env a1) (env a2) (env a3) (env a4) (env a5) (env a6) (env a7) (env a8) (env a9) (env a10) (env a11) (env a12) (env a13) (env a14) (env a15) (env a16) h
abbrev K18 (f : dRd) (a0 a1 a2 a3 a4 a5 a6 a7 a8 a9 a10 a11 a12 a13 a14 a15 a16 a17 : Nat) : K := fun env h => f (env a0) (env a1) (env a2) (env a3) (env a4) (env a5) (env a6) (env a7) (env a8) (env a9) (env a10) (env a11) (env a12) (env a13) (env a14) (env a15) (env a16) (env a17) h
abbrev K19 (f : dNc) (a0 a1 a2 a3 a4 a5 a6 a7 a8 a9 a10 a11 a12 a13 a14 a15 a16 a17 a18 : Nat) : K := fun env h => f (env a0) (env a1) (env a2) (env a3) (env a4) (env a5) (env a6) (env a7) (env a8) (env a9) (env a10) (env a11) (env a12) (env a13) (env a14) (env a15) (env a16) (env a17) (env a18) h
abbrev K20 (f : dNy) (a0 a1 a2 a3 a4 a5 a6 a7 a8 a9 a10 a11 a12 a13 a14 a15 a16 a17 a18 a19 : Nat) : K := fun env h => f (env a0) (env a1) (env a2) (env a3) (env a4) (env a5) (env a6) (env a7) (env a8) (env a9) (env a10) (env a11) (env a12) (env a13) (env a14) (env a15) (env a16) (env a17) (env a18) (env a19) h
theorem okG {d s : K} (m : d = s) (args : List DV) (h : Hp) {a b : aH} (e1 : a = d (aI args) h) (e2 : s (aI args) h = b) : a = b :=
 e1.trans ((congrFun (congrFun m (aI args)) h).trans e2)
abbrev aE (n : Nat) : DV := .i .i64 (Int.ofNat n)
abbrev kM : List DV := [(.i .i64 (Int.ofNat 0)), (.s []), (.i .i64 (Int.ofNat 0)), .l0, .l0, .l0]
abbrev aU (args : List DV) (i : Nat) : DV := args.getD i aW
end Go.Dd

namespace Go.Dd
open Go.Proofs
variable (r : RT) (n : Nat) (args : List DV) (h : Hp)
noncomputable def s12 (r : RT) (n : Nat) (h0 : Hp) : aH :=
 bnd (r 40 [(aE 30000)] h0) fun v1 h1 =>
 bnd (aC 0 v1 h1) fun v2 h2 =>
 bnd (aC 1 v1 h2) fun v3 h3 =>
 bnd (pEq (.pointer 64) true v2 .p0 h3) fun v4 h4 =>
 bnd (gD v4 false (some (v3, h4)) h4) fun v5 h5 =>
 bnd (gD v4 false (aD .neq v5 (aE 0) h5) h5) fun v6 h6 =>
 bnd (aP v4 (.b true) v6 h6) fun v7 h7 =>
 aT v7 (
 some (.p0, h7)) (
 bnd (aL [(.s []), (.s [])] 2 [(0, 1, (.s [120])), (1, 1, (.s [121]))] h7) fun v8 h8 =>
 bnd (r 41 [v2, (.s [80, 111, 105, 110, 116]), (.s [79, 98, 106, 101, 99, 116]), v8] h8) fun v9 h9 =>
 bnd (aC 0 v9 h9) fun v10 h10 =>
 bnd (aC 1 v9 h10) fun v11 h11 =>
 bnd (aD .neq v11 (aE 0) h11) fun v12 h12 =>
 aT v12 (
 some (.p0, h12)) (
 some (v2, h12)))
noncomputable abbrev c12 : Code := cf Tryz.f12
noncomputable abbrev r12 : K := aR CF Tryz.f12
noncomputable def D12 (r : RT) (n : Nat) (c : Code) (X : Nat → K) (k : K) : K := aM CF r 24 n c X r12 k
theorem dOl : D12 r n c12 x0 r12 = (K0 (s12 r n)) :=
 (by kernel_rfl)
theorem cSu : aF CF r n 12 args h = s12 r n h :=
 (by kernel_rfl : aF CF r n 12 args h = D12 r n c12 x0 r12 (aI args) h).trans ((congrFun (congrFun (dOl r n) (aI args)) h).trans (by kernel_rfl))
noncomputable def s13 (r : RT) (n : Nat) (h0 : Hp) : aH :=
 bnd (r 12 [] h0) fun v1 h1 =>
 bnd (pEq (.pointer 64) true v1 .p0 h1) fun v2 h2 =>
 aT v2 (
 some ((.b false), h2)) (
 bnd (r 42 [v1, (aE 1073741823)] h2) fun v3 h3 =>
 bnd (aC 0 v3 h3) fun v4 h4 =>
 bnd (aC 1 v3 h4) fun v5 h5 =>
 bnd (aL [(aE 0)] 1 [(0, 1, (aE 3))] h5) fun v6 h6 =>
 bnd (r 16 [v1, (aE 1), v4, v6] h6) fun v7 h7 =>
 bnd (aC 0 v7 h7) fun v8 h8 =>
 bnd (aC 1 v7 h8) fun v9 h9 =>
 bnd (r 15 [v1, v8] h9) fun v10 h10 =>
 bnd (aC 0 v10 h10) fun v11 h11 =>
 bnd (aC 1 v10 h11) fun v12 h12 =>
 bnd (aL [(aE 0)] 1 [(0, 1, (aE 1))] h12) fun v13 h13 =>
 bnd (r 16 [v1, (aE 4), (aE 15), v13] h13) fun v14 h14 =>
 bnd (aC 0 v14 h14) fun v15 h15 =>
 bnd (aC 1 v14 h15) fun v16 h16 =>
 bnd (r 43 [v1, (.s [97, 98])] h16) fun v17 h17 =>
 bnd (aC 0 v17 h17) fun v18 h18 =>
 bnd (aC 1 v17 h18) fun v19 h19 =>
 bnd (aL [(aE 0)] 1 [(0, 1, (aE 5))] h19) fun v20 h20 =>
 bnd (r 16 [v1, (aE 20), v18, v20] h20) fun v21 h21 =>
 bnd (aC 0 v21 h21) fun v22 h22 =>
 bnd (aC 1 v21 h22) fun v23 h23 =>
 bnd (r 44 [v1, (.s [97, 98])] h23) fun v24 h24 =>
 bnd (aC 0 v24 h24) fun v25 h25 =>
 bnd (aC 1 v24 h25) fun v26 h26 =>
 bnd (aL [(aE 0), (aE 0)] 2 [(0, 1, (aE 3)), (1, 1, (aE 199))] h26) fun v27 h27 =>
 bnd (r 16 [v1, (aE 21), v25, v27] h27) fun v28 h28 =>
 bnd (aC 0 v28 h28) fun v29 h29 =>
 bnd (aC 1 v28 h29) fun v30 h30 =>
 bnd (aD .eql v9 (aE 0) h30) fun v31 h31 =>
 bnd (gD v31 true (some (v12, h31)) h31) fun v32 h32 =>
 bnd (aP v31 v32 (.b false) h32) fun v33 h33 =>
 bnd (gD v33 true (some (v11, h33)) h33) fun v34 h34 =>
 bnd (gD v33 true (aD .eql v34 (aE 1073741824) h34) h34) fun v35 h35 =>
 bnd (aP v33 v35 (.b false) h35) fun v36 h36 =>
 bnd (gD v36 true (some (v1, h36)) h36) fun v37 h37 =>
 bnd (gD v36 true (some (v8, h37)) h37) fun v38 h38 =>
 bnd (gD v36 true (r 25 [v37, v38] h38) h38) fun v39 h39 =>
 bnd (gD v36 true (some (v1, h39)) h39) fun v40 h40 =>
 bnd (gD v36 true (r 45 [v40, (.s [76, 97, 114, 103, 101, 73, 110, 116, 101, 103, 101, 114])] h40) h40) fun v41 h41 =>
 bnd (gD v36 true (aD .eql v39 v41 h41) h41) fun v42 h42 =>
 bnd (aP v36 v42 (.b false) h42) fun v43 h43 =>
 bnd (gD v43 true (some (v16, h43)) h43) fun v44 h44 =>
 bnd (gD v43 true (aD .eql v44 (aE 20) h44) h44) fun v45 h45 =>
 bnd (aP v43 v45 (.b false) h45) fun v46 h46 =>
 bnd (gD v46 true (some (v22, h46)) h46) fun v47 h47 =>
 bnd (gD v46 true (aD .eql v47 (aE 197) h47) h47) fun v48 h48 =>
 bnd (aP v46 v48 (.b false) h48) fun v49 h49 =>
 bnd (gD v49 true (some (v23, h49)) h49) fun v50 h50 =>
 bnd (gD v49 true (aD .eql v50 (aE 0) h50) h50) fun v51 h51 =>
 bnd (aP v49 v51 (.b false) h51) fun v52 h52 =>
 bnd (gD v52 true (some (v30, h52)) h52) fun v53 h53 =>
 bnd (gD v52 true (aD .eql v53 (aE 20) h53) h53) fun v54 h54 =>
 bnd (aP v52 v54 (.b false) h54) fun v55 h55 =>
 bnd (gD v55 true (r 39 [(aE 21)] h55) h55) fun v56 h56 =>
 bnd (gD v55 true (aD .eql v56 (aE 2) h56) h56) fun v57 h57 =>
 bnd (aP v55 v57 (.b false) h57) fun v58 h58 =>
 some (v58, h58))
noncomputable abbrev c13 : Code := cf Tryz.f13
noncomputable abbrev r13 : K := aR CF Tryz.f13
noncomputable def D13 (r : RT) (n : Nat) (c : Code) (X : Nat → K) (k : K) : K := aM CF r 106 n c X r13 k
theorem dNl : D13 r n c13 x0 r13 = (K0 (s13 r n)) :=
 (by kernel_rfl)
theorem cRm : aF CF r n 13 args h = s13 r n h :=
 (by kernel_rfl : aF CF r n 13 args h = D13 r n c13 x0 r13 (aI args) h).trans ((congrFun (congrFun (dNl r n) (aI args)) h).trans (by kernel_rfl))
noncomputable def aX (r : RT) (n : Nat) (x3 : DV) (h0 : Hp) : aH :=
 bnd (aB 1 x3 h0) fun v1 h1 =>
 bnd (aA v1 h1) fun v2 h2 =>
 some (v2, h2)
noncomputable def rF (r : RT) (n : Nat) (x0 x5 : DV) (h0 : Hp) : aH :=
 bnd (dW x5 h0) fun v1 h1 =>
 bnd (aD .quo v1 (aE 2) h1) fun v2 h2 =>
 bnd (fG x5 none (some v2) h2) fun v3 h3 =>
 bnd (fN .add (.s [115]) v3 h3) fun v4 h4 =>
 bnd (r 44 [x0, v4] h4) fun v5 h5 =>
 bnd (aC 0 v5 h5) fun v6 h6 =>
 bnd (aC 1 v5 h6) fun v7 h7 =>
 some (v6, h7)
noncomputable def aEj (r : RT) (n : Nat) (x0 x5 : DV) (h0 : Hp) : aH :=
 bnd (dW x5 h0) fun v1 h1 =>
 bnd (aD .gtr v1 (aE 60) h1) fun v2 h2 =>
 aT v2 (
 bnd (fG x5 none (some (aE 60)) h2) fun v3 h3 =>
  rF r n x0 v3 h3) (
  rF r n x0 x5 h2)
noncomputable def dT (r : RT) (n : Nat) (x0 x13 : DV) (h0 : Hp) : aH :=
 bnd (r 46 [x0, x13] h0) fun v1 h1 =>
 bnd (aC 0 v1 h1) fun v2 h2 =>
 bnd (aC 1 v1 h2) fun v3 h3 =>
 some (v2, h3)
noncomputable def lF (r : RT) (n : Nat) (kk21 : dN) (x0 x12 x13 x14 : DV) (h0 : Hp) : aH :=
 bnd (aD .rem x12 (aE 10) h0) fun v1 h1 =>
 bnd (aD .lss x14 v1 h1) fun v2 h2 =>
 aT v2 (
 bnd (aD .mul (aE 2) x14 h2) fun v3 h3 =>
 bnd (aD .add v3 (aE 1) h3) fun v4 h4 =>
 bnd (aL [(aE 0)] 1 [(0, 1, v4)] h4) fun v5 h5 =>
 bnd (bA 1 8 x13 v5 h5) fun v6 h6 =>
 bnd (aD .add x14 (aE 1) h6) fun v7 h7 =>
      kk21 x0 x12 v6 v7 h7) (
      dT r n x0 x13 h2)
noncomputable def lG (r : RT) (n : Nat) (m : Nat) : dN :=
 Nat.rec (motive := fun _ => dN) (fun _ _ _ _ _ => none) (fun _ ih => lF r n ih) m
noncomputable def aRl (r : RT) (n : Nat) : dN := lG r n n
noncomputable def aEc (r : RT) (n : Nat) (x0 x12 x13 x14 : DV) (h0 : Hp) : aH :=
 aRl r n x0 x12 x13 x14 h0
noncomputable def aJu (r : RT) (n : Nat) (x0 x12 x13 : DV) (h0 : Hp) : aH :=
 aEc r n x0 x12 x13 (aE 0) h0
noncomputable def rY (r : RT) (n : Nat) (x0 x12 : DV) (h0 : Hp) : aH :=
 aJu r n x0 x12 .l0 h0
noncomputable def aKo (r : RT) (n : Nat) (x0 x12 : DV) (h0 : Hp) : aH :=
 bnd (aD .lss x12 (aE 0) h0) fun v1 h1 =>
 aT v1 (
 bnd (aD .add x12 (aE 1) h1) fun v2 h2 =>
 bnd (gQ .neg v2 h2) fun v3 h3 =>
  rY r n x0 v3 h3) (
  rY r n x0 x12 h1)
noncomputable def aGo (r : RT) (n : Nat) (x0 x3 : DV) (h0 : Hp) : aH :=
 bnd (aB 1 x3 h0) fun v1 h1 =>
 bnd (aA v1 h1) fun v2 h2 =>
  aKo r n x0 v2 h2
noncomputable def zA (r : RT) (n : Nat) (x0 x3 x27 x66 : DV) (h0 : Hp) : aH :=
 aT x66 (
  aGo r n x0 x3 h0) (
 bnd (aD .eql x27 (aE 4) h0) fun v1 h1 =>
 aT v1 (
 bnd (r 23 [x0] h1) fun v2 h2 =>
 bnd (r 45 [x0, (.s [80, 111, 105, 110, 116])] h2) fun v3 h3 =>
 bnd (iZ [v2, v3, (aE 0), (aE 2)] h3) fun v4 h4 =>
 bnd (aC 0 v4 h4) fun v5 h5 =>
 bnd (aC 1 v4 h5) fun v6 h6 =>
 some (v5, h6)) (
 bnd (aD .eql x27 (aE 5) h1) fun v7 h7 =>
 aT v7 (
 bnd (aB 1 x3 h7) fun v8 h8 =>
 bnd (aA v8 h8) fun v9 h9 =>
 bnd (aD .eql v9 (aE 16) h9) fun v10 h10 =>
 aT v10 (
 bnd (r 45 [x0, (.s [80, 111, 105, 110, 116])] h10) fun v11 h11 =>
 some (v11, h11)) (
 bnd (aB 1 x3 h10) fun v12 h12 =>
 bnd (aA v12 h12) fun v13 h13 =>
 bnd (r 30 [x0, v13] h13) fun v14 h14 =>
 some (v14, h14))) (
 bnd (aD .eql x27 (aE 6) h7) fun v15 h15 =>
 aT v15 (
 some ((aE 0), h15)) (
 bnd (aD .eql x27 (aE 7) h15) fun v16 h16 =>
 aT v16 (
 some ((aE 2), h16)) (
 bnd (aD .eql x27 (aE 8) h16) fun v17 h17 =>
 aT v17 (
 some ((aE 4), h17)) (
       aX r n x3 h17))))))
noncomputable def aSt (r : RT) (n : Nat) (x0 x3 x27 : DV) (h0 : Hp) : aH :=
 bnd (aD .eql x27 (aE 3) h0) fun v1 h1 =>
  zA r n x0 x3 x27 v1 h1
noncomputable def aAe (r : RT) (n : Nat) (x0 x3 x5 x27 x47 : DV) (h0 : Hp) : aH :=
 aT x47 (
  aEj r n x0 x5 h0) (
  aSt r n x0 x3 x27 h0)
noncomputable def bOn (r : RT) (n : Nat) (x0 x3 x5 x27 : DV) (h0 : Hp) : aH :=
 bnd (aD .eql x27 (aE 2) h0) fun v1 h1 =>
  aAe r n x0 x3 x5 x27 v1 h1
noncomputable def aLf (r : RT) (n : Nat) (x0 x3 x5 x27 x38 : DV) (h0 : Hp) : aH :=
 aT x38 (
 bnd (r 43 [x0, x5] h0) fun v1 h1 =>
 bnd (aC 0 v1 h1) fun v2 h2 =>
 bnd (aC 1 v1 h2) fun v3 h3 =>
 some (v2, h3)) (
  bOn r n x0 x3 x5 x27 h0)
noncomputable def bLn (r : RT) (n : Nat) (x0 x3 x5 x27 : DV) (h0 : Hp) : aH :=
 bnd (aD .eql x27 (aE 1) h0) fun v1 h1 =>
  aLf r n x0 x3 x5 x27 v1 h1
noncomputable def aLg (r : RT) (n : Nat) (x0 x3 x5 x27 x28 : DV) (h0 : Hp) : aH :=
 aT x28 (
 bnd (aB 1 x3 h0) fun v1 h1 =>
 bnd (aA v1 h1) fun v2 h2 =>
 bnd (r 42 [x0, v2] h2) fun v3 h3 =>
 bnd (aC 0 v3 h3) fun v4 h4 =>
 bnd (aC 1 v3 h4) fun v5 h5 =>
 some (v4, h5)) (
  bLn r n x0 x3 x5 x27 h0)
noncomputable def bCb (r : RT) (n : Nat) (x0 x3 x5 x27 : DV) (h0 : Hp) : aH :=
 bnd (aD .eql x27 (aE 0) h0) fun v1 h1 =>
  aLg r n x0 x3 x5 x27 v1 h1
noncomputable def aBh (r : RT) (n : Nat) (x0 x3 x5 : DV) (h0 : Hp) : aH :=
 bnd (aB 0 x3 h0) fun v1 h1 =>
 bnd (aA v1 h1) fun v2 h2 =>
  bCb r n x0 x3 x5 v2 h2
noncomputable def aWv (r : RT) (n : Nat) (x0 x3 x5 : DV) (h0 : Hp) : aH :=
 bnd (dW x5 h0) fun v1 h1 =>
 bnd (aD .gtr v1 (aE 250) h1) fun v2 h2 =>
 aT v2 (
 bnd (fG x5 none (some (aE 250)) h2) fun v3 h3 =>
  aBh r n x0 x3 v3 h3) (
  aBh r n x0 x3 x5 h2)
noncomputable def aAw (r : RT) (n : Nat) (x0 x3 : DV) (h0 : Hp) : aH :=
 bnd (aB 2 x3 h0) fun v1 h1 =>
 bnd (aA v1 h1) fun v2 h2 =>
  aWv r n x0 x3 v2 h2
noncomputable def s14 (r : RT) (n : Nat) (x0 x1 : DV) (h0 : Hp) : aH :=
 bnd (bO x1 h0) fun v1 h1 =>
  aAw r n x0 v1 h1
noncomputable abbrev c14 : Code := cf Tryz.f14
noncomputable abbrev aXs : Code := cR c14
noncomputable abbrev aZf : Code := cR aXs
noncomputable abbrev bBh : Code := cR aZf
noncomputable abbrev dJz : Code := cR bBh
noncomputable abbrev aMj : Code := cL bBh
noncomputable abbrev bMu : Code := cR aMj
noncomputable abbrev aWj : Code := cL bMu
noncomputable abbrev aMh : Code := cR aWj
noncomputable abbrev aLv : Code := cR aMh
noncomputable abbrev yK : Code := cR aLv
noncomputable abbrev vV : Code := cR yK
noncomputable abbrev wD : Code := cR vV
noncomputable abbrev xT : Code := cL wD
noncomputable abbrev dDa : Code := cR xT
noncomputable abbrev bKi : Code := cL xT
noncomputable abbrev wO : Code := cR wD
noncomputable abbrev zN : Code := cR wO
noncomputable abbrev vQ : Code := cL zN
noncomputable abbrev aGj : Code := cR vQ
noncomputable abbrev aCk : Code := cR aGj
noncomputable abbrev aBl : Code := cR aCk
noncomputable abbrev cXs : Code := cR aBl
noncomputable abbrev xY : Code := cL aBl
noncomputable abbrev aRp : Code := cR xY
noncomputable abbrev aDj : Code := cL aRp
noncomputable abbrev mH : Code := cL aDj
noncomputable abbrev bPj : Code := cL xY
noncomputable abbrev bSr : Code := cL aCk
noncomputable abbrev cAh : Code := cL aGj
noncomputable abbrev bWj : Code := cL vQ
noncomputable abbrev dEy : Code := cR zN
noncomputable abbrev bOp : Code := cL wO
noncomputable abbrev bTl : Code := cL vV
noncomputable abbrev cVj : Code := cL yK
noncomputable abbrev bLo : Code := cL aLv
noncomputable abbrev cTy : Code := cL aMh
noncomputable abbrev bJm : Code := cL aWj
noncomputable abbrev bHg : Code := cL aMj
noncomputable abbrev cAz : Code := cL aZf
noncomputable abbrev bXe : Code := cL aXs
noncomputable abbrev aQk : Code := cL c14
noncomputable abbrev r14 : K := aR CF Tryz.f14
noncomputable def D14 (r : RT) (n : Nat) (c : Code) (X : Nat → K) (k : K) : K := aM CF r 124 n c X r14 k
theorem cVe : D14 r n dJz x0 r14 = (K1 (aX r n) 3) :=
 (by kernel_rfl)
theorem cPc : D14 r n dDa (xs x0 0 (K1 (aX r n) 3)) (K1 (aX r n) 3) = (K2 (rF r n) 0 5) :=
 (by kernel_rfl)
theorem bRr : D14 r n xT (xs x0 0 (K1 (aX r n) 3)) (K1 (aX r n) 3) = D14 r n bKi (xs x0 0 (K1 (aX r n) 3)) (K2 (rF r n) 0 5) :=
 congrArg (fun k => D14 r n bKi (xs x0 0 (K1 (aX r n) 3)) k) (cPc r n)
theorem cPf : D14 r n xT (xs x0 0 (K1 (aX r n) 3)) (K1 (aX r n) 3) = (K2 (aEj r n) 0 5) :=
 (bRr r n).trans
 ((by kernel_rfl))
theorem cIj : D14 r n cXs (xs x0 0 (K1 (aX r n) 3)) (K1 (aX r n) 3) = (K2 (dT r n) 0 13) :=
 (by kernel_rfl)
theorem bKy (kk21 : dN) (q0 : TT1) (q1 : pB) : D14 r n mH (xs (xs x0 0 (K1 q0 3)) 1 (K2 q1 0 13)) (K4 kk21 0 12 13 14) = fun (env : aV) (h : Hp) =>
 bnd (aD .rem (env 12) (aE 10) h) fun v1 h1 =>
 bnd (aD .lss (env 14) v1 h1) fun v2 h2 =>
 aT v2 (
 bnd (aD .mul (aE 2) (env 14) h2) fun v3 h3 =>
 bnd (aD .add v3 (aE 1) h3) fun v4 h4 =>
 bnd (aL [(aE 0)] 1 [(0, 1, v4)] h4) fun v5 h5 =>
 bnd (bA 1 8 (env 13) v5 h5) fun v6 h6 =>
 bnd (aD .add (env 14) (aE 1) h6) fun v7 h7 =>
      kk21 (env 0) (env 12) v6 v7 h7) (
      q1 (env 0) (env 13) h2) := by kernel_rfl
theorem bDh (kk21 : dN) : (fun (env : aV) (h : Hp) =>
 bnd (aD .rem (env 12) (aE 10) h) fun v1 h1 =>
 bnd (aD .lss (env 14) v1 h1) fun v2 h2 =>
 aT v2 (
 bnd (aD .mul (aE 2) (env 14) h2) fun v3 h3 =>
 bnd (aD .add v3 (aE 1) h3) fun v4 h4 =>
 bnd (aL [(aE 0)] 1 [(0, 1, v4)] h4) fun v5 h5 =>
 bnd (bA 1 8 (env 13) v5 h5) fun v6 h6 =>
 bnd (aD .add (env 14) (aE 1) h6) fun v7 h7 =>
      kk21 (env 0) (env 12) v6 v7 h7) (
      dT r n (env 0) (env 13) h2)) = (K4 (lF r n kk21) 0 12 13 14) := by kernel_rfl
theorem bRo (kk21 : dN) : D14 r n mH (xs (xs x0 0 (K1 (aX r n) 3)) 1 (K2 (dT r n) 0 13)) (K4 kk21 0 12 13 14) = (K4 (lF r n kk21) 0 12 13 14) :=
 (bKy r n kk21 (aX r n) (dT r n)).trans (bDh r n kk21)
theorem bXm (m : Nat) : aO (fun kk => D14 r n mH (xs (xs x0 0 (K1 (aX r n) 3)) 1 (K2 (dT r n) 0 13)) kk) m = (K4 (lG r n m) 0 12 13 14) := by
 induction m with
 | zero => exact (by kernel_rfl : aO (fun kk => D14 r n mH (xs (xs x0 0 (K1 (aX r n) 3)) 1 (K2 (dT r n) 0 13)) kk) 0 = (K4 (lG r n 0) 0 12 13 14))
 | succ m ih =>
  refine (by kernel_rfl : aO (fun kk => D14 r n mH (xs (xs x0 0 (K1 (aX r n) 3)) 1 (K2 (dT r n) 0 13)) kk) (m + 1) = D14 r n mH (xs (xs x0 0 (K1 (aX r n) 3)) 1 (K2 (dT r n) 0 13)) (aO (fun kk => D14 r n mH (xs (xs x0 0 (K1 (aX r n) 3)) 1 (K2 (dT r n) 0 13)) kk) m)).trans ?_
  rw [ih]
  exact (bRo r n (lG r n m)).trans (by kernel_rfl)
theorem cEv : D14 r n aDj (xs (xs x0 0 (K1 (aX r n) 3)) 1 (K2 (dT r n) 0 13)) (K2 (dT r n) 0 13) = (K4 (aRl r n) 0 12 13 14) :=
 (by kernel_rfl : D14 r n aDj (xs (xs x0 0 (K1 (aX r n) 3)) 1 (K2 (dT r n) 0 13)) (K2 (dT r n) 0 13) = aO (fun kk => D14 r n mH (xs (xs x0 0 (K1 (aX r n) 3)) 1 (K2 (dT r n) 0 13)) kk) n).trans ((bXm r n n).trans (by kernel_rfl))
theorem cFu : D14 r n aRp (xs x0 0 (K1 (aX r n) 3)) (K2 (dT r n) 0 13) = (K4 (aEc r n) 0 12 13 14) :=
 (by kernel_rfl : D14 r n aRp (xs x0 0 (K1 (aX r n) 3)) (K2 (dT r n) 0 13) = D14 r n aDj (xs (xs x0 0 (K1 (aX r n) 3)) 1 (K2 (dT r n) 0 13)) (K2 (dT r n) 0 13)).trans
 ((cEv r n).trans (by kernel_rfl))
theorem bWd : D14 r n aBl (xs x0 0 (K1 (aX r n) 3)) (K1 (aX r n) 3) = D14 r n xY (xs x0 0 (K1 (aX r n) 3)) (K2 (dT r n) 0 13) :=
 congrArg (fun k => D14 r n xY (xs x0 0 (K1 (aX r n) 3)) k) (cIj r n)
theorem bWk : D14 r n xY (xs x0 0 (K1 (aX r n) 3)) (K2 (dT r n) 0 13) = D14 r n bPj (xs x0 0 (K1 (aX r n) 3)) (K4 (aEc r n) 0 12 13 14) :=
 congrArg (fun k => D14 r n bPj (xs x0 0 (K1 (aX r n) 3)) k) (cFu r n)
theorem cMo : D14 r n aBl (xs x0 0 (K1 (aX r n) 3)) (K1 (aX r n) 3) = (K3 (aJu r n) 0 12 13) :=
 (bWd r n).trans
 ((bWk r n).trans
 ((by kernel_rfl)))
theorem bUm : D14 r n aCk (xs x0 0 (K1 (aX r n) 3)) (K1 (aX r n) 3) = D14 r n bSr (xs x0 0 (K1 (aX r n) 3)) (K3 (aJu r n) 0 12 13) :=
 congrArg (fun k => D14 r n bSr (xs x0 0 (K1 (aX r n) 3)) k) (cMo r n)
theorem cKr : D14 r n aCk (xs x0 0 (K1 (aX r n) 3)) (K1 (aX r n) 3) = (K2 (rY r n) 0 12) :=
 (bUm r n).trans
 ((by kernel_rfl))
theorem bTj : D14 r n aGj (xs x0 0 (K1 (aX r n) 3)) (K1 (aX r n) 3) = D14 r n cAh (xs x0 0 (K1 (aX r n) 3)) (K2 (rY r n) 0 12) :=
 congrArg (fun k => D14 r n cAh (xs x0 0 (K1 (aX r n) 3)) k) (cKr r n)
theorem cFt : D14 r n aGj (xs x0 0 (K1 (aX r n) 3)) (K1 (aX r n) 3) = (K2 (aKo r n) 0 12) :=
 (bTj r n).trans
 ((by kernel_rfl))
theorem cAr : D14 r n vQ (xs x0 0 (K1 (aX r n) 3)) (K1 (aX r n) 3) = D14 r n bWj (xs x0 0 (K1 (aX r n) 3)) (K2 (aKo r n) 0 12) :=
 congrArg (fun k => D14 r n bWj (xs x0 0 (K1 (aX r n) 3)) k) (cFt r n)
theorem cCp : D14 r n vQ (xs x0 0 (K1 (aX r n) 3)) (K1 (aX r n) 3) = (K2 (aGo r n) 0 3) :=
 (cAr r n).trans
 ((by kernel_rfl))
theorem cKv : D14 r n zN (xs x0 0 (K1 (aX r n) 3)) (K1 (aX r n) 3) = (K4 (zA r n) 0 3 27 66) :=
 (by kernel_rfl : D14 r n zN (xs x0 0 (K1 (aX r n) 3)) (K1 (aX r n) 3) = (fun (env : aV) (h : Hp) => aT (opr env (cC zN)) (D14 r n vQ (xs x0 0 (K1 (aX r n) 3)) (K1 (aX r n) 3) env h) (D14 r n dEy (xs x0 0 (K1 (aX r n) 3)) (K1 (aX r n) 3) env h))).trans (by rw [cCp r n]; kernel_rfl)
theorem cAc : D14 r n wO (xs x0 0 (K1 (aX r n) 3)) (K1 (aX r n) 3) = D14 r n bOp (xs x0 0 (K1 (aX r n) 3)) (K4 (zA r n) 0 3 27 66) :=
 congrArg (fun k => D14 r n bOp (xs x0 0 (K1 (aX r n) 3)) k) (cKv r n)
theorem cIp : D14 r n wO (xs x0 0 (K1 (aX r n) 3)) (K1 (aX r n) 3) = (K3 (aSt r n) 0 3 27) :=
 (cAc r n).trans
 ((by kernel_rfl))
theorem cHf : D14 r n wD (xs x0 0 (K1 (aX r n) 3)) (K1 (aX r n) 3) = (K5 (aAe r n) 0 3 5 27 47) :=
 (by kernel_rfl : D14 r n wD (xs x0 0 (K1 (aX r n) 3)) (K1 (aX r n) 3) = (fun (env : aV) (h : Hp) => aT (opr env (cC wD)) (D14 r n xT (xs x0 0 (K1 (aX r n) 3)) (K1 (aX r n) 3) env h) (D14 r n wO (xs x0 0 (K1 (aX r n) 3)) (K1 (aX r n) 3) env h))).trans (by rw [cPf r n, cIp r n]; kernel_rfl)
theorem cBs : D14 r n vV (xs x0 0 (K1 (aX r n) 3)) (K1 (aX r n) 3) = D14 r n bTl (xs x0 0 (K1 (aX r n) 3)) (K5 (aAe r n) 0 3 5 27 47) :=
 congrArg (fun k => D14 r n bTl (xs x0 0 (K1 (aX r n) 3)) k) (cHf r n)
theorem cWm : D14 r n vV (xs x0 0 (K1 (aX r n) 3)) (K1 (aX r n) 3) = (K4 (bOn r n) 0 3 5 27) :=
 (cBs r n).trans
 ((by kernel_rfl))
theorem dEj : D14 r n yK (xs x0 0 (K1 (aX r n) 3)) (K1 (aX r n) 3) = (K5 (aLf r n) 0 3 5 27 38) :=
 (by kernel_rfl : D14 r n yK (xs x0 0 (K1 (aX r n) 3)) (K1 (aX r n) 3) = (fun (env : aV) (h : Hp) => aT (opr env (cC yK)) (D14 r n cVj (xs x0 0 (K1 (aX r n) 3)) (K1 (aX r n) 3) env h) (D14 r n vV (xs x0 0 (K1 (aX r n) 3)) (K1 (aX r n) 3) env h))).trans (by rw [cWm r n]; kernel_rfl)
theorem bLc : D14 r n aLv (xs x0 0 (K1 (aX r n) 3)) (K1 (aX r n) 3) = D14 r n bLo (xs x0 0 (K1 (aX r n) 3)) (K5 (aLf r n) 0 3 5 27 38) :=
 congrArg (fun k => D14 r n bLo (xs x0 0 (K1 (aX r n) 3)) k) (dEj r n)
theorem dCg : D14 r n aLv (xs x0 0 (K1 (aX r n) 3)) (K1 (aX r n) 3) = (K4 (bLn r n) 0 3 5 27) :=
 (bLc r n).trans
 ((by kernel_rfl))
theorem dDy : D14 r n aMh (xs x0 0 (K1 (aX r n) 3)) (K1 (aX r n) 3) = (K5 (aLg r n) 0 3 5 27 28) :=
 (by kernel_rfl : D14 r n aMh (xs x0 0 (K1 (aX r n) 3)) (K1 (aX r n) 3) = (fun (env : aV) (h : Hp) => aT (opr env (cC aMh)) (D14 r n cTy (xs x0 0 (K1 (aX r n) 3)) (K1 (aX r n) 3) env h) (D14 r n aLv (xs x0 0 (K1 (aX r n) 3)) (K1 (aX r n) 3) env h))).trans (by rw [dCg r n]; kernel_rfl)
theorem bZf : D14 r n aWj (xs x0 0 (K1 (aX r n) 3)) (K1 (aX r n) 3) = D14 r n bJm (xs x0 0 (K1 (aX r n) 3)) (K5 (aLg r n) 0 3 5 27 28) :=
 congrArg (fun k => D14 r n bJm (xs x0 0 (K1 (aX r n) 3)) k) (dDy r n)
theorem cTk : D14 r n bMu x0 (K1 (aX r n) 3) = (K4 (bCb r n) 0 3 5 27) :=
 (by kernel_rfl : D14 r n bMu x0 (K1 (aX r n) 3) = D14 r n aWj (xs x0 0 (K1 (aX r n) 3)) (K1 (aX r n) 3)).trans
 ((bZf r n).trans
 ((by kernel_rfl)))
theorem bJc : D14 r n bBh x0 r14 = D14 r n aMj x0 (K1 (aX r n) 3) :=
 congrArg (fun k => D14 r n aMj x0 k) (cVe r n)
theorem bSu : D14 r n aMj x0 (K1 (aX r n) 3) = D14 r n bHg x0 (K4 (bCb r n) 0 3 5 27) :=
 congrArg (fun k => D14 r n bHg x0 k) (cTk r n)
theorem cXl : D14 r n bBh x0 r14 = (K3 (aBh r n) 0 3 5) :=
 (bJc r n).trans
 ((bSu r n).trans
 ((by kernel_rfl)))
theorem bSc : D14 r n aZf x0 r14 = D14 r n cAz x0 (K3 (aBh r n) 0 3 5) :=
 congrArg (fun k => D14 r n cAz x0 k) (cXl r n)
theorem cWb : D14 r n aZf x0 r14 = (K3 (aWv r n) 0 3 5) :=
 (bSc r n).trans
 ((by kernel_rfl))
theorem bIb : D14 r n aXs x0 r14 = D14 r n bXe x0 (K3 (aWv r n) 0 3 5) :=
 congrArg (fun k => D14 r n bXe x0 k) (cWb r n)
theorem dEr : D14 r n aXs x0 r14 = (K2 (aAw r n) 0 3) :=
 (bIb r n).trans
 ((by kernel_rfl))
theorem cWf : D14 r n c14 x0 r14 = D14 r n aQk x0 (K2 (aAw r n) 0 3) :=
 congrArg (fun k => D14 r n aQk x0 k) (dEr r n)
theorem cUp (q0 : pB) : D14 r n aQk x0 (K2 q0 0 3) = fun (env : aV) (h : Hp) =>
 bnd (bO (env 1) h) fun v1 h1 =>
  q0 (env 0) v1 h1 := by kernel_rfl
theorem cPb : (fun (env : aV) (h : Hp) =>
 bnd (bO (env 1) h) fun v1 h1 =>
  aAw r n (env 0) v1 h1) = (K2 (s14 r n) 0 1) := by kernel_rfl
theorem dPx : D14 r n c14 x0 r14 = (K2 (s14 r n) 0 1) :=
 (cWf r n).trans
 ((cUp r n (aAw r n)).trans (cPb r n))
theorem cRq : aF CF r n 14 args h = s14 r n (aU args 0) (aU args 1) h :=
 (by kernel_rfl : aF CF r n 14 args h = D14 r n c14 x0 r14 (aI args) h).trans ((congrFun (congrFun (dPx r n) (aI args)) h).trans (by kernel_rfl))
noncomputable def s15 (r : RT) (n : Nat) (x0 x1 : DV) (h0 : Hp) : aH :=
 bnd (eM [x1] h0) fun v1 h1 =>
 aT v1 (
 bnd (jQ [x1] h1) fun v2 h2 =>
 some (.t [v2, (.b true)], h2)) (
 bnd (aN x0 h1) fun v3 h3 =>
 bnd (aB 0 v3 h3) fun v4 h4 =>
 bnd (aA v4 h4) fun v5 h5 =>
 bnd (isF [v5, x1] h5) fun v6 h6 =>
 bnd (gD v6 true (some (x0, h6)) h6) fun v7 h7 =>
 bnd (gD v6 true (aN v7 h7) h7) fun v8 h8 =>
 bnd (gD v6 true (aB 0 v8 h8) h8) fun v9 h9 =>
 bnd (gD v6 true (aA v9 h9) h9) fun v10 h10 =>
 bnd (gD v6 true (some (x1, h10)) h10) fun v11 h11 =>
 bnd (gD v6 true (iX [v10, v11] h11) h11) fun v12 h12 =>
 bnd (gD v6 true (some (x0, h12)) h12) fun v13 h13 =>
 bnd (gD v6 true (r 30 [v13, (aE 8)] h13) h13) fun v14 h14 =>
 bnd (gD v6 true (aD .eql v12 v14 h14) h14) fun v15 h15 =>
 bnd (aP v6 v15 (.b false) h15) fun v16 h16 =>
 bnd (gD v16 true (some (x0, h16)) h16) fun v17 h17 =>
 bnd (gD v16 true (aN v17 h17) h17) fun v18 h18 =>
 bnd (gD v16 true (aB 0 v18 h18) h18) fun v19 h19 =>
 bnd (gD v16 true (aA v19 h19) h19) fun v20 h20 =>
 bnd (gD v16 true (some (x1, h20)) h20) fun v21 h21 =>
 bnd (gD v16 true (kA [v20, v21] h21) h21) fun v22 h22 =>
 bnd (gD v16 true (aD .eql v22 (aE 1) h22) h22) fun v23 h23 =>
 bnd (aP v16 v23 (.b false) h23) fun v24 h24 =>
 aT v24 (
 bnd (r 51 [x0, x1, (aE 0)] h24) fun v25 h25 =>
 some (.t [v25, (.b true)], h25)) (
 some (.t [(aE 0), (.b false)], h24)))
noncomputable abbrev c15 : Code := cf Tryz.f15
noncomputable abbrev r15 : K := aR CF Tryz.f15
noncomputable def D15 (r : RT) (n : Nat) (c : Code) (X : Nat → K) (k : K) : K := aM CF r 41 n c X r15 k
theorem dQt : D15 r n c15 x0 r15 = (K2 (s15 r n) 0 1) :=
 (by kernel_rfl)
theorem cRr : aF CF r n 15 args h = s15 r n (aU args 0) (aU args 1) h :=
 (by kernel_rfl : aF CF r n 15 args h = D15 r n c15 x0 r15 (aI args) h).trans ((congrFun (congrFun (dQt r n) (aI args)) h).trans (by kernel_rfl))
noncomputable def bD (r : RT) (n : Nat) (x12 : DV) (h0 : Hp) : aH :=
 bnd (cX CF r x12 [] h0) fun v1 h1 =>
 bnd (aC 0 v1 h1) fun v2 h2 =>
 bnd (aC 1 v1 h2) fun v3 h3 =>
 some (.t [v2, v3], h3)
noncomputable def aFw (r : RT) (n : Nat) (x11 x12 x69 : DV) (h0 : Hp) : aH :=
 aT x69 (
  bD r n (.f 61 [x11] []) h0) (
  bD r n x12 h0)
noncomputable def bWz (r : RT) (n : Nat) (x11 x12 x42 : DV) (h0 : Hp) : aH :=
 bnd (aD .eql x42 (aE 50) h0) fun v1 h1 =>
 aT v1 (
  aFw r n x11 x12 v1 h1) (
 bnd (aD .eql x42 (aE 51) h1) fun v2 h2 =>
  aFw r n x11 x12 v2 h2)
noncomputable def aBw (r : RT) (n : Nat) (x11 x12 x42 x64 : DV) (h0 : Hp) : aH :=
 aT x64 (
  bD r n (.f 60 [x11] []) h0) (
  bWz r n x11 x12 x42 h0)
noncomputable def bRg (r : RT) (n : Nat) (x11 x12 x42 : DV) (h0 : Hp) : aH :=
 bnd (aD .eql x42 (aE 40) h0) fun v1 h1 =>
 aT v1 (
  aBw r n x11 x12 x42 v1 h1) (
 bnd (aD .eql x42 (aE 41) h1) fun v2 h2 =>
  aBw r n x11 x12 x42 v2 h2)
noncomputable def aHy (r : RT) (n : Nat) (x11 x12 x42 x59 : DV) (h0 : Hp) : aH :=
 aT x59 (
  bD r n (.f 59 [x11] []) h0) (
  bRg r n x11 x12 x42 h0)
noncomputable def bPv (r : RT) (n : Nat) (x11 x12 x42 : DV) (h0 : Hp) : aH :=
 bnd (aD .eql x42 (aE 25) h0) fun v1 h1 =>
 aT v1 (
  aHy r n x11 x12 x42 v1 h1) (
 bnd (aD .eql x42 (aE 26) h1) fun v2 h2 =>
  aHy r n x11 x12 x42 v2 h2)
noncomputable def aJi (r : RT) (n : Nat) (x11 x12 x42 x54 : DV) (h0 : Hp) : aH :=
 aT x54 (
  bD r n (.f 58 [x11] []) h0) (
  bPv r n x11 x12 x42 h0)
noncomputable def bMn (r : RT) (n : Nat) (x11 x12 x42 : DV) (h0 : Hp) : aH :=
 bnd (aD .eql x42 (aE 23) h0) fun v1 h1 =>
 aT v1 (
  aJi r n x11 x12 x42 v1 h1) (
 bnd (aD .eql x42 (aE 24) h1) fun v2 h2 =>
  aJi r n x11 x12 x42 v2 h2)
noncomputable def yX (r : RT) (n : Nat) (x11 x12 x42 x48 : DV) (h0 : Hp) : aH :=
 aT x48 (
  bD r n (.f 57 [x11] []) h0) (
  bMn r n x11 x12 x42 h0)
noncomputable def cRt (r : RT) (n : Nat) (x11 x12 x42 : DV) (h0 : Hp) : aH :=
 bnd (aD .eql x42 (aE 20) h0) fun v1 h1 =>
 aT v1 (
  yX r n x11 x12 x42 v1 h1) (
 bnd (aD .eql x42 (aE 21) h1) fun v2 h2 =>
 aT v2 (
   yX r n x11 x12 x42 v2 h2) (
 bnd (aD .eql x42 (aE 22) h2) fun v3 h3 =>
      yX r n x11 x12 x42 v3 h3))
noncomputable def bBm (r : RT) (n : Nat) (x11 x12 x42 x43 : DV) (h0 : Hp) : aH :=
 aT x43 (
  bD r n (.f 56 [x11] []) h0) (
  cRt r n x11 x12 x42 h0)
noncomputable def bIt (r : RT) (n : Nat) (x11 x12 x42 : DV) (h0 : Hp) : aH :=
 bnd (aD .eql x42 (aE 10) h0) fun v1 h1 =>
 aT v1 (
  bBm r n x11 x12 x42 v1 h1) (
 bnd (aD .eql x42 (aE 11) h1) fun v2 h2 =>
  bBm r n x11 x12 x42 v2 h2)
noncomputable def bPq (r : RT) (n : Nat) (x1 x11 x12 : DV) (h0 : Hp) : aH :=
 bIt r n x11 x12 x1 h0
noncomputable def sF (r : RT) (n : Nat) (x1 x11 : DV) (h0 : Hp) : aH :=
 bPq r n x1 x11 (.f 55 [x11] []) h0
noncomputable def yO (r : RT) (n : Nat) (x0 x1 x2 x3 : DV) (h0 : Hp) : aH :=
 bnd (bB [.p0, (aE 0), (aE 0), .l0] [(0, 1, x0), (1, 1, x1), (2, 1, x2), (3, 1, x3)] h0) fun v1 h1 =>
 bnd (bO v1 h1) fun v2 h2 =>
  sF r n x1 v2 h2
noncomputable def aAp (r : RT) (n : Nat) (x0 x1 x2 x3 x10 : DV) (h0 : Hp) : aH :=
 bnd (r 39 [x1] h0) fun v1 h1 =>
 bnd (cA x3 h1) fun v2 h2 =>
 bnd (aD .neq v1 v2 h2) fun v3 h3 =>
 bnd (gD v3 false (aA x10 h3) h3) fun v4 h4 =>
 bnd (gD v3 false (some (x2, h4)) h4) fun v5 h5 =>
 bnd (gD v3 false (aAg [v4, v5] h5) h5) fun v6 h6 =>
 bnd (gD v3 false (gQ .not v6 h6) h6) fun v7 h7 =>
 bnd (aP v3 (.b true) v7 h7) fun v8 h8 =>
 bnd (gD v8 false (some (x3, h8)) h8) fun v9 h9 =>
 bnd (gD v8 false (some ((.f 53 [] [x10]), h9)) h9) fun v10 h10 =>
 bnd (gD v8 false (r 52 [v9, v10] h10) h10) fun v11 h11 =>
 bnd (aP v8 (.b true) v11 h11) fun v12 h12 =>
 aT v12 (
 bnd (r 54 [] h12) fun v13 h13 =>
 bnd (aC 0 v13 h13) fun v14 h14 =>
 bnd (aC 1 v13 h14) fun v15 h15 =>
 some (.t [v14, v15], h15)) (
  yO r n x0 x1 x2 x3 h12)
noncomputable def aLm (r : RT) (n : Nat) (x0 x1 x2 x3 : DV) (h0 : Hp) : aH :=
 bnd (r 23 [x0] h0) fun v1 h1 =>
 bnd (bN [.p0] h1) fun v2 h2 =>
 bnd (aG 1 v2 v1 h2) fun _ h3 =>
  aAp r n x0 x1 x2 x3 v2 h3
noncomputable def s16 (r : RT) (n : Nat) (x0 x1 x2 x3 : DV) (h0 : Hp) : aH :=
 aLm r n x0 x1 x2 x3 h0
noncomputable abbrev c16 : Code := cf Tryz.f16
noncomputable abbrev aZw : Code := cR c16
noncomputable abbrev aVv : Code := cR aZw
noncomputable abbrev aZx : Code := cR aVv
noncomputable abbrev bAn : Code := cR aZx
noncomputable abbrev bAg : Code := cR bAn
noncomputable abbrev dIy : Code := cR bAg
noncomputable abbrev aMu : Code := cL bAg
noncomputable abbrev bHs : Code := cR aMu
noncomputable abbrev aXx : Code := cL bHs
noncomputable abbrev wT : Code := cR aXx
noncomputable abbrev wQ : Code := cR wT
noncomputable abbrev xG : Code := cR wQ
noncomputable abbrev vZ : Code := cR xG
noncomputable abbrev yR : Code := cR vZ
noncomputable abbrev yL : Code := cR yR
noncomputable abbrev xN : Code := cR yL
noncomputable abbrev wC : Code := cR xN
noncomputable abbrev wB : Code := cR wC
noncomputable abbrev xQ : Code := cR wB
noncomputable abbrev cYe : Code := cR xQ
noncomputable abbrev bUg : Code := cL xQ
noncomputable abbrev cWz : Code := cL wB
noncomputable abbrev bXl : Code := cL wC
noncomputable abbrev dCp : Code := cL xN
noncomputable abbrev bKf : Code := cL yL
noncomputable abbrev dAr : Code := cL yR
noncomputable abbrev bLw : Code := cL vZ
noncomputable abbrev cXi : Code := cL xG
noncomputable abbrev bZi : Code := cL wQ
noncomputable abbrev dEe : Code := cL wT
noncomputable abbrev bKp : Code := cL aXx
noncomputable abbrev bVs : Code := cL aMu
noncomputable abbrev bUd : Code := cL bAn
noncomputable abbrev aRk : Code := cL aZx
noncomputable abbrev bPd : Code := cL aVv
noncomputable abbrev aSd : Code := cL aZw
noncomputable abbrev bOv : Code := cL c16
noncomputable abbrev r16 : K := aR CF Tryz.f16
noncomputable def D16 (r : RT) (n : Nat) (c : Code) (X : Nat → K) (k : K) : K := aM CF r 78 n c X r16 k
theorem cVi : D16 r n dIy x0 r16 = (K1 (bD r n) 12) :=
 (by kernel_rfl)
theorem cCf : D16 r n cYe (xs x0 0 (K1 (bD r n) 12)) (K1 (bD r n) 12) = (K3 (aFw r n) 11 12 69) :=
 (by kernel_rfl)
theorem bMg : D16 r n xQ (xs x0 0 (K1 (bD r n) 12)) (K1 (bD r n) 12) = D16 r n bUg (xs x0 0 (K1 (bD r n) 12)) (K3 (aFw r n) 11 12 69) :=
 congrArg (fun k => D16 r n bUg (xs x0 0 (K1 (bD r n) 12)) k) (cCf r n)
theorem cCu : D16 r n xQ (xs x0 0 (K1 (bD r n) 12)) (K1 (bD r n) 12) = (K3 (bWz r n) 11 12 42) :=
 (bMg r n).trans
 ((by kernel_rfl))
theorem cNj : D16 r n wB (xs x0 0 (K1 (bD r n) 12)) (K1 (bD r n) 12) = (K4 (aBw r n) 11 12 42 64) :=
 (by kernel_rfl : D16 r n wB (xs x0 0 (K1 (bD r n) 12)) (K1 (bD r n) 12) = (fun (env : aV) (h : Hp) => aT (opr env (cC wB)) (D16 r n cWz (xs x0 0 (K1 (bD r n) 12)) (K1 (bD r n) 12) env h) (D16 r n xQ (xs x0 0 (K1 (bD r n) 12)) (K1 (bD r n) 12) env h))).trans (by rw [cCu r n]; kernel_rfl)
theorem bRs : D16 r n wC (xs x0 0 (K1 (bD r n) 12)) (K1 (bD r n) 12) = D16 r n bXl (xs x0 0 (K1 (bD r n) 12)) (K4 (aBw r n) 11 12 42 64) :=
 congrArg (fun k => D16 r n bXl (xs x0 0 (K1 (bD r n) 12)) k) (cNj r n)
theorem cBq : D16 r n wC (xs x0 0 (K1 (bD r n) 12)) (K1 (bD r n) 12) = (K3 (bRg r n) 11 12 42) :=
 (bRs r n).trans
 ((by kernel_rfl))
theorem cFr : D16 r n xN (xs x0 0 (K1 (bD r n) 12)) (K1 (bD r n) 12) = (K4 (aHy r n) 11 12 42 59) :=
 (by kernel_rfl : D16 r n xN (xs x0 0 (K1 (bD r n) 12)) (K1 (bD r n) 12) = (fun (env : aV) (h : Hp) => aT (opr env (cC xN)) (D16 r n dCp (xs x0 0 (K1 (bD r n) 12)) (K1 (bD r n) 12) env h) (D16 r n wC (xs x0 0 (K1 (bD r n) 12)) (K1 (bD r n) 12) env h))).trans (by rw [cBq r n]; kernel_rfl)
theorem bMz : D16 r n yL (xs x0 0 (K1 (bD r n) 12)) (K1 (bD r n) 12) = D16 r n bKf (xs x0 0 (K1 (bD r n) 12)) (K4 (aHy r n) 11 12 42 59) :=
 congrArg (fun k => D16 r n bKf (xs x0 0 (K1 (bD r n) 12)) k) (cFr r n)
theorem cJv : D16 r n yL (xs x0 0 (K1 (bD r n) 12)) (K1 (bD r n) 12) = (K3 (bPv r n) 11 12 42) :=
 (bMz r n).trans
 ((by kernel_rfl))
theorem cIt : D16 r n yR (xs x0 0 (K1 (bD r n) 12)) (K1 (bD r n) 12) = (K4 (aJi r n) 11 12 42 54) :=
 (by kernel_rfl : D16 r n yR (xs x0 0 (K1 (bD r n) 12)) (K1 (bD r n) 12) = (fun (env : aV) (h : Hp) => aT (opr env (cC yR)) (D16 r n dAr (xs x0 0 (K1 (bD r n) 12)) (K1 (bD r n) 12) env h) (D16 r n yL (xs x0 0 (K1 (bD r n) 12)) (K1 (bD r n) 12) env h))).trans (by rw [cJv r n]; kernel_rfl)
theorem bKv : D16 r n vZ (xs x0 0 (K1 (bD r n) 12)) (K1 (bD r n) 12) = D16 r n bLw (xs x0 0 (K1 (bD r n) 12)) (K4 (aJi r n) 11 12 42 54) :=
 congrArg (fun k => D16 r n bLw (xs x0 0 (K1 (bD r n) 12)) k) (cIt r n)
theorem cIo : D16 r n vZ (xs x0 0 (K1 (bD r n) 12)) (K1 (bD r n) 12) = (K3 (bMn r n) 11 12 42) :=
 (bKv r n).trans
 ((by kernel_rfl))
theorem cDs : D16 r n xG (xs x0 0 (K1 (bD r n) 12)) (K1 (bD r n) 12) = (K4 (yX r n) 11 12 42 48) :=
 (by kernel_rfl : D16 r n xG (xs x0 0 (K1 (bD r n) 12)) (K1 (bD r n) 12) = (fun (env : aV) (h : Hp) => aT (opr env (cC xG)) (D16 r n cXi (xs x0 0 (K1 (bD r n) 12)) (K1 (bD r n) 12) env h) (D16 r n vZ (xs x0 0 (K1 (bD r n) 12)) (K1 (bD r n) 12) env h))).trans (by rw [cIo r n]; kernel_rfl)
theorem cJl : D16 r n wQ (xs x0 0 (K1 (bD r n) 12)) (K1 (bD r n) 12) = D16 r n bZi (xs x0 0 (K1 (bD r n) 12)) (K4 (yX r n) 11 12 42 48) :=
 congrArg (fun k => D16 r n bZi (xs x0 0 (K1 (bD r n) 12)) k) (cDs r n)
theorem dCh : D16 r n wQ (xs x0 0 (K1 (bD r n) 12)) (K1 (bD r n) 12) = (K3 (cRt r n) 11 12 42) :=
 (cJl r n).trans
 ((by kernel_rfl))
theorem cZo : D16 r n wT (xs x0 0 (K1 (bD r n) 12)) (K1 (bD r n) 12) = (K4 (bBm r n) 11 12 42 43) :=
 (by kernel_rfl : D16 r n wT (xs x0 0 (K1 (bD r n) 12)) (K1 (bD r n) 12) = (fun (env : aV) (h : Hp) => aT (opr env (cC wT)) (D16 r n dEe (xs x0 0 (K1 (bD r n) 12)) (K1 (bD r n) 12) env h) (D16 r n wQ (xs x0 0 (K1 (bD r n) 12)) (K1 (bD r n) 12) env h))).trans (by rw [dCh r n]; kernel_rfl)
theorem cCr : D16 r n aXx (xs x0 0 (K1 (bD r n) 12)) (K1 (bD r n) 12) = D16 r n bKp (xs x0 0 (K1 (bD r n) 12)) (K4 (bBm r n) 11 12 42 43) :=
 congrArg (fun k => D16 r n bKp (xs x0 0 (K1 (bD r n) 12)) k) (cZo r n)
theorem cYo : D16 r n bHs x0 (K1 (bD r n) 12) = (K3 (bIt r n) 11 12 42) :=
 (by kernel_rfl : D16 r n bHs x0 (K1 (bD r n) 12) = D16 r n aXx (xs x0 0 (K1 (bD r n) 12)) (K1 (bD r n) 12)).trans
 ((cCr r n).trans
 ((by kernel_rfl)))
theorem cJn : D16 r n bAg x0 r16 = D16 r n aMu x0 (K1 (bD r n) 12) :=
 congrArg (fun k => D16 r n aMu x0 k) (cVi r n)
theorem cQj : D16 r n aMu x0 (K1 (bD r n) 12) = D16 r n bVs x0 (K3 (bIt r n) 11 12 42) :=
 congrArg (fun k => D16 r n bVs x0 k) (cYo r n)
theorem cYt : D16 r n bAg x0 r16 = (K3 (bPq r n) 1 11 12) :=
 (cJn r n).trans
 ((cQj r n).trans
 ((by kernel_rfl)))
theorem cNx : D16 r n bAn x0 r16 = D16 r n bUd x0 (K3 (bPq r n) 1 11 12) :=
 congrArg (fun k => D16 r n bUd x0 k) (cYt r n)
theorem dDp : D16 r n bAn x0 r16 = (K2 (sF r n) 1 11) :=
 (cNx r n).trans
 ((by kernel_rfl))
theorem bIs : D16 r n aZx x0 r16 = D16 r n aRk x0 (K2 (sF r n) 1 11) :=
 congrArg (fun k => D16 r n aRk x0 k) (dDp r n)
theorem bOw (q0 : pB) : D16 r n aRk x0 (K2 q0 1 11) = fun (env : aV) (h : Hp) =>
 bnd (bB [.p0, (aE 0), (aE 0), .l0] [(0, 1, (env 0)), (1, 1, (env 1)), (2, 1, (env 2)), (3, 1, (env 3))] h) fun v1 h1 =>
 bnd (bO v1 h1) fun v2 h2 =>
  q0 (env 1) v2 h2 := by kernel_rfl
theorem bCl : (fun (env : aV) (h : Hp) =>
 bnd (bB [.p0, (aE 0), (aE 0), .l0] [(0, 1, (env 0)), (1, 1, (env 1)), (2, 1, (env 2)), (3, 1, (env 3))] h) fun v1 h1 =>
 bnd (bO v1 h1) fun v2 h2 =>
  sF r n (env 1) v2 h2) = (K4 (yO r n) 0 1 2 3) := by kernel_rfl
theorem cXu : D16 r n aZx x0 r16 = (K4 (yO r n) 0 1 2 3) :=
 (bIs r n).trans
 ((bOw r n (sF r n)).trans (bCl r n))
theorem bTc : D16 r n aVv x0 r16 = D16 r n bPd x0 (K4 (yO r n) 0 1 2 3) :=
 congrArg (fun k => D16 r n bPd x0 k) (cXu r n)
theorem cSw : D16 r n aVv x0 r16 = (K5 (aAp r n) 0 1 2 3 10) :=
 (bTc r n).trans
 ((by kernel_rfl))
theorem bQd : D16 r n aZw x0 r16 = D16 r n aSd x0 (K5 (aAp r n) 0 1 2 3 10) :=
 congrArg (fun k => D16 r n aSd x0 k) (cSw r n)
theorem cAj (q0 : cH) : D16 r n aSd x0 (K5 q0 0 1 2 3 10) = fun (env : aV) (h : Hp) =>
 bnd (r 23 [(env 0)] h) fun v1 h1 =>
 bnd (bN [.p0] h1) fun v2 h2 =>
 bnd (aG 1 v2 v1 h2) fun _ h3 =>
  q0 (env 0) (env 1) (env 2) (env 3) v2 h3 := by kernel_rfl
theorem bDp : (fun (env : aV) (h : Hp) =>
 bnd (r 23 [(env 0)] h) fun v1 h1 =>
 bnd (bN [.p0] h1) fun v2 h2 =>
 bnd (aG 1 v2 v1 h2) fun _ h3 =>
  aAp r n (env 0) (env 1) (env 2) (env 3) v2 h3) = (K4 (aLm r n) 0 1 2 3) := by kernel_rfl
theorem cSx : D16 r n aZw x0 r16 = (K4 (aLm r n) 0 1 2 3) :=
 (bQd r n).trans
 ((cAj r n (aAp r n)).trans (bDp r n))
theorem dDx : D16 r n c16 x0 r16 = D16 r n bOv x0 (K4 (aLm r n) 0 1 2 3) :=
 congrArg (fun k => D16 r n bOv x0 k) (cSx r n)
theorem dNf : D16 r n c16 x0 r16 = (K4 (s16 r n) 0 1 2 3) :=
 (dDx r n).trans
 ((by kernel_rfl))
theorem cRc : aF CF r n 16 args h = s16 r n (aU args 0) (aU args 1) (aU args 2) (aU args 3) h :=
 (by kernel_rfl : aF CF r n 16 args h = D16 r n c16 x0 r16 (aI args) h).trans ((congrFun (congrFun (dNf r n) (aI args)) h).trans (by kernel_rfl))
noncomputable def s17 (r : RT) (n : Nat) (x0 : DV) (h0 : Hp) : aH :=
 aT x0 (
 some ((aE 2), h0)) (
 some ((aE 4), h0))
noncomputable abbrev c17 : Code := cf Tryz.f17
noncomputable abbrev r17 : K := aR CF Tryz.f17
noncomputable def D17 (r : RT) (n : Nat) (c : Code) (X : Nat → K) (k : K) : K := aM CF r 4 n c X r17 k
theorem dOh : D17 r n c17 x0 r17 = (K1 (s17 r n) 0) :=
 (by kernel_rfl)
theorem dMd : aF CF r n 17 args h = s17 r n (aU args 0) h :=
 (by kernel_rfl : aF CF r n 17 args h = D17 r n c17 x0 r17 (aI args) h).trans ((congrFun (congrFun (dOh r n) (aI args)) h).trans (by kernel_rfl))
noncomputable def s23 (r : RT) (n : Nat) (x0 : DV) (h0 : Hp) : aH :=
 bnd (aN x0 h0) fun v1 h1 =>
 bnd (aB 0 v1 h1) fun v2 h2 =>
 bnd (aA v2 h2) fun v3 h3 =>
 some (v3, h3)
noncomputable abbrev c23 : Code := cf Tryz.f23
noncomputable abbrev r23 : K := aR CF Tryz.f23
noncomputable def D23 (r : RT) (n : Nat) (c : Code) (X : Nat → K) (k : K) : K := aM CF r 7 n c X r23 k
theorem dQz : D23 r n c23 x0 r23 = (K1 (s23 r n) 0) :=
 (by kernel_rfl)
theorem cSn : aF CF r n 23 args h = s23 r n (aU args 0) h :=
 (by kernel_rfl : aF CF r n 23 args h = D23 r n c23 x0 r23 (aI args) h).trans ((congrFun (congrFun (dQz r n) (aI args)) h).trans (by kernel_rfl))
noncomputable def s25 (r : RT) (n : Nat) (x0 x1 : DV) (h0 : Hp) : aH :=
 bnd (aN x0 h0) fun v1 h1 =>
 bnd (aB 0 v1 h1) fun v2 h2 =>
 bnd (aA v2 h2) fun v3 h3 =>
 bnd (isF [v3, x1] h3) fun v4 h4 =>
 aT v4 (
 bnd (aN x0 h4) fun v5 h5 =>
 bnd (aB 0 v5 h5) fun v6 h6 =>
 bnd (aA v6 h6) fun v7 h7 =>
 bnd (iX [v7, x1] h7) fun v8 h8 =>
 some (v8, h8)) (
 bnd (eM [x1] h4) fun v9 h9 =>
 aT v9 (
 bnd (r 30 [x0, (aE 7)] h9) fun v10 h10 =>
 some (v10, h10)) (
 bnd (aD .eql x1 (aE 0) h9) fun v11 h11 =>
 aT v11 (
 bnd (r 30 [x0, (aE 2)] h11) fun v12 h12 =>
 some (v12, h12)) (
 bnd (aD .eql x1 (aE 2) h11) fun v13 h13 =>
 aT v13 (
 bnd (r 30 [x0, (aE 4)] h13) fun v14 h14 =>
 some (v14, h14)) (
 bnd (aD .eql x1 (aE 4) h13) fun v15 h15 =>
 aT v15 (
 bnd (r 30 [x0, (aE 5)] h15) fun v16 h16 =>
 some (v16, h16)) (
 some ((aE 0), h15))))))
noncomputable abbrev c25 : Code := cf Tryz.f25
noncomputable abbrev r25 : K := aR CF Tryz.f25
noncomputable def D25 (r : RT) (n : Nat) (c : Code) (X : Nat → K) (k : K) : K := aM CF r 38 n c X r25 k
theorem dOf : D25 r n c25 x0 r25 = (K2 (s25 r n) 0 1) :=
 (by kernel_rfl)
theorem cRv : aF CF r n 25 args h = s25 r n (aU args 0) (aU args 1) h :=
 (by kernel_rfl : aF CF r n 25 args h = D25 r n c25 x0 r25 (aI args) h).trans ((congrFun (congrFun (dOf r n) (aI args)) h).trans (by kernel_rfl))
noncomputable def s26 (r : RT) (n : Nat) (x0 x1 : DV) (h0 : Hp) : aH :=
 bnd (r 25 [x0, x1] h0) fun v1 h1 =>
 bnd (r 23 [x0] h1) fun v2 h2 =>
 bnd (isF [v2, x1] h2) fun v3 h3 =>
 bnd (gD v3 true (some (v1, h3)) h3) fun v4 h4 =>
 bnd (gD v3 true (some (x0, h4)) h4) fun v5 h5 =>
 bnd (gD v3 true (r 30 [v5, (aE 9)] h5) h5) fun v6 h6 =>
 bnd (gD v3 true (aD .eql v4 v6 h6) h6) fun v7 h7 =>
 bnd (gD v3 true (some (v7, h7)) h7) fun v8 h8 =>
 bnd (gD v8 false (some (v1, h8)) h8) fun v9 h9 =>
 bnd (gD v8 false (some (x0, h9)) h9) fun v10 h10 =>
 bnd (gD v8 false (r 30 [v10, (aE 10)] h10) h10) fun v11 h11 =>
 bnd (gD v8 false (aD .eql v9 v11 h11) h11) fun v12 h12 =>
 bnd (gD v3 true (aP v8 (.b true) v12 h12) h12) fun v13 h13 =>
 bnd (gD v3 true (some (v13, h13)) h13) fun v14 h14 =>
 bnd (gD v14 false (some (v1, h14)) h14) fun v15 h15 =>
 bnd (gD v14 false (some (x0, h15)) h15) fun v16 h16 =>
 bnd (gD v14 false (r 30 [v16, (aE 11)] h16) h16) fun v17 h17 =>
 bnd (gD v14 false (aD .eql v15 v17 h17) h17) fun v18 h18 =>
 bnd (gD v3 true (aP v14 (.b true) v18 h18) h18) fun v19 h19 =>
 bnd (aP v3 v19 (.b false) h19) fun v20 h20 =>
 bnd (gD v20 true (some (v1, h20)) h20) fun v21 h21 =>
 bnd (gD v20 true (some (x0, h21)) h21) fun v22 h22 =>
 bnd (gD v20 true (r 30 [v22, (aE 9)] h22) h22) fun v23 h23 =>
 bnd (gD v20 true (aD .eql v21 v23 h23) h23) fun v24 h24 =>
 bnd (aP v20 v24 (.b false) h24) fun v25 h25 =>
 some (.t [v20, v25], h25)
noncomputable abbrev c26 : Code := cf Tryz.f26
noncomputable abbrev r26 : K := aR CF Tryz.f26
noncomputable def D26 (r : RT) (n : Nat) (c : Code) (X : Nat → K) (k : K) : K := aM CF r 41 n c X r26 k
theorem dQe : D26 r n c26 x0 r26 = (K2 (s26 r n) 0 1) :=
 (by kernel_rfl)
theorem cRg : aF CF r n 26 args h = s26 r n (aU args 0) (aU args 1) h :=
 (by kernel_rfl : aF CF r n 26 args h = D26 r n c26 x0 r26 (aI args) h).trans ((congrFun (congrFun (dQe r n) (aI args)) h).trans (by kernel_rfl))
noncomputable def fW (r : RT) (n : Nat) (x5 : DV) (h0 : Hp) : aH :=
 some (x5, h0)
noncomputable def oE (r : RT) (n : Nat) (kk5 : dN) (x0 x1 x5 x6 : DV) (h0 : Hp) : aH :=
 bnd (r 23 [x0] h0) fun v1 h1 =>
 bnd (fF [v1, x1] h1) fun v2 h2 =>
 bnd (aD .lss x6 v2 h2) fun v3 h3 =>
 aT v3 (
 bnd (r 23 [x0] h3) fun v4 h4 =>
 bnd (qJ [v4, x1, x6] h4) fun v5 h5 =>
 bnd (aC 0 v5 h5) fun v6 h6 =>
 bnd (aC 1 v5 h6) fun v7 h7 =>
 bnd (aL [(aE 0)] 1 [(0, 1, v6)] h7) fun v8 h8 =>
 bnd (bA 1 8 x5 v8 h8) fun v9 h9 =>
 bnd (aD .add x6 (aE 1) h9) fun v10 h10 =>
      kk5 x0 x1 v9 v10 h10) (
      fW r n x5 h3)
noncomputable def nX (r : RT) (n : Nat) (m : Nat) : dN :=
 Nat.rec (motive := fun _ => dN) (fun _ _ _ _ _ => none) (fun _ ih => oE r n ih) m
noncomputable def bWr (r : RT) (n : Nat) : dN := nX r n n
noncomputable def aUz (r : RT) (n : Nat) (x0 x1 x5 x6 : DV) (h0 : Hp) : aH :=
 bWr r n x0 x1 x5 x6 h0
noncomputable def aYc (r : RT) (n : Nat) (x0 x1 x5 : DV) (h0 : Hp) : aH :=
 aUz r n x0 x1 x5 (aE 0) h0
noncomputable def aWz (r : RT) (n : Nat) (x0 x1 : DV) (h0 : Hp) : aH :=
 aYc r n x0 x1 .l0 h0
noncomputable def s29 (r : RT) (n : Nat) (x0 x1 : DV) (h0 : Hp) : aH :=
 aWz r n x0 x1 h0
noncomputable abbrev c29 : Code := cf Tryz.f29
noncomputable abbrev aZc : Code := cR c29
noncomputable abbrev aWi : Code := cR aZc
noncomputable abbrev dJe : Code := cR aWi
noncomputable abbrev aMm : Code := cL aWi
noncomputable abbrev bOb : Code := cR aMm
noncomputable abbrev aXh : Code := cL bOb
noncomputable abbrev sJ : Code := cL aXh
noncomputable abbrev cSs : Code := cL aMm
noncomputable abbrev cSj : Code := cL aZc
noncomputable abbrev bXy : Code := cL c29
noncomputable abbrev r29 : K := aR CF Tryz.f29
noncomputable def D29 (r : RT) (n : Nat) (c : Code) (X : Nat → K) (k : K) : K := aM CF r 30 n c X r29 k
theorem cXa : D29 r n dJe x0 r29 = (K1 (fW r n) 5) :=
 (by kernel_rfl)
theorem cQd (kk5 : dN) (q0 : TT1) : D29 r n sJ (xs x0 0 (K1 q0 5)) (K4 kk5 0 1 5 6) = fun (env : aV) (h : Hp) =>
 bnd (r 23 [(env 0)] h) fun v1 h1 =>
 bnd (fF [v1, (env 1)] h1) fun v2 h2 =>
 bnd (aD .lss (env 6) v2 h2) fun v3 h3 =>
 aT v3 (
 bnd (r 23 [(env 0)] h3) fun v4 h4 =>
 bnd (qJ [v4, (env 1), (env 6)] h4) fun v5 h5 =>
 bnd (aC 0 v5 h5) fun v6 h6 =>
 bnd (aC 1 v5 h6) fun v7 h7 =>
 bnd (aL [(aE 0)] 1 [(0, 1, v6)] h7) fun v8 h8 =>
 bnd (bA 1 8 (env 5) v8 h8) fun v9 h9 =>
 bnd (aD .add (env 6) (aE 1) h9) fun v10 h10 =>
      kk5 (env 0) (env 1) v9 v10 h10) (
      q0 (env 5) h3) := by kernel_rfl
theorem bIw (kk5 : dN) : (fun (env : aV) (h : Hp) =>
 bnd (r 23 [(env 0)] h) fun v1 h1 =>
 bnd (fF [v1, (env 1)] h1) fun v2 h2 =>
 bnd (aD .lss (env 6) v2 h2) fun v3 h3 =>
 aT v3 (
 bnd (r 23 [(env 0)] h3) fun v4 h4 =>
 bnd (qJ [v4, (env 1), (env 6)] h4) fun v5 h5 =>
 bnd (aC 0 v5 h5) fun v6 h6 =>
 bnd (aC 1 v5 h6) fun v7 h7 =>
 bnd (aL [(aE 0)] 1 [(0, 1, v6)] h7) fun v8 h8 =>
 bnd (bA 1 8 (env 5) v8 h8) fun v9 h9 =>
 bnd (aD .add (env 6) (aE 1) h9) fun v10 h10 =>
      kk5 (env 0) (env 1) v9 v10 h10) (
      fW r n (env 5) h3)) = (K4 (oE r n kk5) 0 1 5 6) := by kernel_rfl
theorem cMf (kk5 : dN) : D29 r n sJ (xs x0 0 (K1 (fW r n) 5)) (K4 kk5 0 1 5 6) = (K4 (oE r n kk5) 0 1 5 6) :=
 (cQd r n kk5 (fW r n)).trans (bIw r n kk5)
theorem cPn (m : Nat) : aO (fun kk => D29 r n sJ (xs x0 0 (K1 (fW r n) 5)) kk) m = (K4 (nX r n m) 0 1 5 6) := by
 induction m with
 | zero => exact (by kernel_rfl : aO (fun kk => D29 r n sJ (xs x0 0 (K1 (fW r n) 5)) kk) 0 = (K4 (nX r n 0) 0 1 5 6))
 | succ m ih =>
  refine (by kernel_rfl : aO (fun kk => D29 r n sJ (xs x0 0 (K1 (fW r n) 5)) kk) (m + 1) = D29 r n sJ (xs x0 0 (K1 (fW r n) 5)) (aO (fun kk => D29 r n sJ (xs x0 0 (K1 (fW r n) 5)) kk) m)).trans ?_
  rw [ih]
  exact (cMf r n (nX r n m)).trans (by kernel_rfl)
theorem dEv : D29 r n aXh (xs x0 0 (K1 (fW r n) 5)) (K1 (fW r n) 5) = (K4 (bWr r n) 0 1 5 6) :=
 (by kernel_rfl : D29 r n aXh (xs x0 0 (K1 (fW r n) 5)) (K1 (fW r n) 5) = aO (fun kk => D29 r n sJ (xs x0 0 (K1 (fW r n) 5)) kk) n).trans ((cPn r n n).trans (by kernel_rfl))
theorem cXj : D29 r n bOb x0 (K1 (fW r n) 5) = (K4 (aUz r n) 0 1 5 6) :=
 (by kernel_rfl : D29 r n bOb x0 (K1 (fW r n) 5) = D29 r n aXh (xs x0 0 (K1 (fW r n) 5)) (K1 (fW r n) 5)).trans
 ((dEv r n).trans (by kernel_rfl))
theorem cOy : D29 r n aWi x0 r29 = D29 r n aMm x0 (K1 (fW r n) 5) :=
 congrArg (fun k => D29 r n aMm x0 k) (cXa r n)
theorem cPi : D29 r n aMm x0 (K1 (fW r n) 5) = D29 r n cSs x0 (K4 (aUz r n) 0 1 5 6) :=
 congrArg (fun k => D29 r n cSs x0 k) (cXj r n)
theorem cVh : D29 r n aWi x0 r29 = (K3 (aYc r n) 0 1 5) :=
 (cOy r n).trans
 ((cPi r n).trans
 ((by kernel_rfl)))
theorem cLi : D29 r n aZc x0 r29 = D29 r n cSj x0 (K3 (aYc r n) 0 1 5) :=
 congrArg (fun k => D29 r n cSj x0 k) (cVh r n)
theorem dEl : D29 r n aZc x0 r29 = (K2 (aWz r n) 0 1) :=
 (cLi r n).trans
 ((by kernel_rfl))
theorem dHi : D29 r n c29 x0 r29 = D29 r n bXy x0 (K2 (aWz r n) 0 1) :=
 congrArg (fun k => D29 r n bXy x0 k) (dEl r n)
theorem dOa : D29 r n c29 x0 r29 = (K2 (s29 r n) 0 1) :=
 (dHi r n).trans
 ((by kernel_rfl))
theorem cSe : aF CF r n 29 args h = s29 r n (aU args 0) (aU args 1) h :=
 (by kernel_rfl : aF CF r n 29 args h = D29 r n c29 x0 r29 (aI args) h).trans ((congrFun (congrFun (dOa r n) (aI args)) h).trans (by kernel_rfl))
noncomputable def s30 (r : RT) (n : Nat) (x0 x1 : DV) (h0 : Hp) : aH :=
 bnd (aD .lss x1 (aE 0) h0) fun v1 h1 =>
 bnd (gD v1 false (some (x1, h1)) h1) fun v2 h2 =>
 bnd (gD v1 false (aD .geq v2 (aE 16) h2) h2) fun v3 h3 =>
 bnd (aP v1 (.b true) v3 h3) fun v4 h4 =>
 aT v4 (
 some ((aE 0), h4)) (
 bnd (aN x0 h4) fun v5 h5 =>
 bnd (aB 1 v5 h5) fun v6 h6 =>
 bnd (aA v6 h6) fun v7 h7 =>
 bnd (aD .add (aE 2) x1 h7) fun v8 h8 =>
 bnd (aJ 1 v7 v8 h8) fun v9 h9 =>
 bnd (aA v9 h9) fun v10 h10 =>
 some (v10, h10))
noncomputable abbrev c30 : Code := cf Tryz.f30
noncomputable abbrev r30 : K := aR CF Tryz.f30
noncomputable def D30 (r : RT) (n : Nat) (c : Code) (X : Nat → K) (k : K) : K := aM CF r 19 n c X r30 k
theorem dSg : D30 r n c30 x0 r30 = (K2 (s30 r n) 0 1) :=
 (by kernel_rfl)
theorem bQw : aF CF r n 30 args h = s30 r n (aU args 0) (aU args 1) h :=
 (by kernel_rfl : aF CF r n 30 args h = D30 r n c30 x0 r30 (aI args) h).trans ((congrFun (congrFun (dSg r n) (aI args)) h).trans (by kernel_rfl))
noncomputable def s32 (r : RT) (n : Nat) (x0 x1 : DV) (h0 : Hp) : aH :=
 bnd (r 67 [x0, x1] h0) fun v1 h1 =>
 bnd (gQ .not v1 h1) fun v2 h2 =>
 aT v2 (
 some ((.i .i64 (Int.negSucc 0)), h2)) (
 bnd (r 51 [x0, x1, (aE 5)] h2) fun v3 h3 =>
 bnd (jQ [v3] h3) fun v4 h4 =>
 some (v4, h4))
noncomputable abbrev c32 : Code := cf Tryz.f32
noncomputable abbrev r32 : K := aR CF Tryz.f32
noncomputable def D32 (r : RT) (n : Nat) (c : Code) (X : Nat → K) (k : K) : K := aM CF r 13 n c X r32 k
theorem dSn : D32 r n c32 x0 r32 = (K2 (s32 r n) 0 1) :=
 (by kernel_rfl)
theorem dJt : aF CF r n 32 args h = s32 r n (aU args 0) (aU args 1) h :=
 (by kernel_rfl : aF CF r n 32 args h = D32 r n c32 x0 r32 (aI args) h).trans ((congrFun (congrFun (dSn r n) (aI args)) h).trans (by kernel_rfl))
noncomputable def gC (r : RT) (n : Nat) (x7 : DV) (h0 : Hp) : aH :=
 bnd (hU x7 h0) fun v1 h1 =>
 some (.t [v1, (.b true)], h1)
noncomputable def aPr (r : RT) (n : Nat) (kk7 : cH) (x0 x1 x7 x48 x49 : DV) (h0 : Hp) : aH :=
 bnd (aD .lss x49 x48 h0) fun v1 h1 =>
 aT v1 (
 bnd (r 51 [x0, x1, x49] h1) fun v2 h2 =>
 bnd (eG .u8 v2 h2) fun v3 h3 =>
 bnd (aL [(.i .u8 (Int.ofNat 0))] 1 [(0, 1, v3)] h3) fun v4 h4 =>
 bnd (bA 1 1 x7 v4 h4) fun v5 h5 =>
 bnd (aD .add x49 (aE 1) h5) fun v6 h6 =>
      kk7 x0 x1 v5 x48 v6 h6) (
      gC r n x7 h1)
noncomputable def aGz (r : RT) (n : Nat) (m : Nat) : cH :=
 Nat.rec (motive := fun _ => cH) (fun _ _ _ _ _ _ => none) (fun _ ih => aPr r n ih) m
noncomputable def cRy (r : RT) (n : Nat) : cH := aGz r n n
noncomputable def bOu (r : RT) (n : Nat) (x0 x1 x7 x48 x49 : DV) (h0 : Hp) : aH :=
 cRy r n x0 x1 x7 x48 x49 h0
noncomputable def bRu (r : RT) (n : Nat) (x0 x1 x7 : DV) (h0 : Hp) : aH :=
 bnd (aN x0 h0) fun v1 h1 =>
 bnd (aB 0 v1 h1) fun v2 h2 =>
 bnd (aA v2 h2) fun v3 h3 =>
 bnd (fF [v3, x1] h3) fun v4 h4 =>
  bOu r n x0 x1 x7 v4 (aE 0) h4
noncomputable def bVt (r : RT) (n : Nat) (x0 x1 : DV) (h0 : Hp) : aH :=
 bRu r n x0 x1 .l0 h0
noncomputable def bRi (r : RT) (n : Nat) (x0 x1 x6 : DV) (h0 : Hp) : aH :=
 bnd (aN x0 h0) fun v1 h1 =>
 bnd (aB 0 v1 h1) fun v2 h2 =>
 bnd (aA v2 h2) fun v3 h3 =>
 bnd (isF [v3, x1] h3) fun v4 h4 =>
 bnd (gQ .not v4 h4) fun v5 h5 =>
 bnd (gD v5 false (some (x6, h5)) h5) fun v6 h6 =>
 bnd (gD v5 false (some (x0, h6)) h6) fun v7 h7 =>
 bnd (gD v5 false (r 30 [v7, (aE 10)] h7) h7) fun v8 h8 =>
 bnd (gD v5 false (aD .neq v6 v8 h8) h8) fun v9 h9 =>
 bnd (gD v5 false (some (v9, h9)) h9) fun v10 h10 =>
 bnd (gD v10 true (some (x6, h10)) h10) fun v11 h11 =>
 bnd (gD v10 true (some (x0, h11)) h11) fun v12 h12 =>
 bnd (gD v10 true (r 30 [v12, (aE 11)] h12) h12) fun v13 h13 =>
 bnd (gD v10 true (aD .neq v11 v13 h13) h13) fun v14 h14 =>
 bnd (gD v5 false (aP v10 v14 (.b false) h14) h14) fun v15 h15 =>
 bnd (aP v5 (.b true) v15 h15) fun v16 h16 =>
 bnd (gD v16 false (some (x0, h16)) h16) fun v17 h17 =>
 bnd (gD v16 false (aN v17 h17) h17) fun v18 h18 =>
 bnd (gD v16 false (aB 0 v18 h18) h18) fun v19 h19 =>
 bnd (gD v16 false (aA v19 h19) h19) fun v20 h20 =>
 bnd (gD v16 false (some (x1, h20)) h20) fun v21 h21 =>
 bnd (gD v16 false (kA [v20, v21] h21) h21) fun v22 h22 =>
 bnd (gD v16 false (aD .neq v22 (aE 2) h22) h22) fun v23 h23 =>
 bnd (aP v16 (.b true) v23 h23) fun v24 h24 =>
 aT v24 (
 some (.t [(.s []), (.b false)], h24)) (
  bVt r n x0 x1 h24)
noncomputable def bGw (r : RT) (n : Nat) (x0 x1 : DV) (h0 : Hp) : aH :=
 bnd (aN x0 h0) fun v1 h1 =>
 bnd (aB 0 v1 h1) fun v2 h2 =>
 bnd (aA v2 h2) fun v3 h3 =>
 bnd (iX [v3, x1] h3) fun v4 h4 =>
  bRi r n x0 x1 v4 h4
noncomputable def s33 (r : RT) (n : Nat) (x0 x1 : DV) (h0 : Hp) : aH :=
 bGw r n x0 x1 h0
noncomputable abbrev c33 : Code := cf Tryz.f33
noncomputable abbrev aZa : Code := cR c33
noncomputable abbrev bBt : Code := cR aZa
noncomputable abbrev aZb : Code := cR bBt
noncomputable abbrev aXy : Code := cR aZb
noncomputable abbrev dNb : Code := cR aXy
noncomputable abbrev aNh : Code := cL aXy
noncomputable abbrev bQf : Code := cR aNh
noncomputable abbrev aWm : Code := cL bQf
noncomputable abbrev sT : Code := cL aWm
noncomputable abbrev bSa : Code := cL aNh
noncomputable abbrev bOs : Code := cL aZb
noncomputable abbrev bTz : Code := cL bBt
noncomputable abbrev bJv : Code := cL aZa
noncomputable abbrev cAp : Code := cL c33
noncomputable abbrev r33 : K := aR CF Tryz.f33
noncomputable def D33 (r : RT) (n : Nat) (c : Code) (X : Nat → K) (k : K) : K := aM CF r 63 n c X r33 k
theorem cWu : D33 r n dNb x0 r33 = (K1 (gC r n) 7) :=
 (by kernel_rfl)
theorem cEa (kk7 : cH) (q0 : TT1) : D33 r n sT (xs x0 0 (K1 q0 7)) (K5 kk7 0 1 7 48 49) = fun (env : aV) (h : Hp) =>
 bnd (aD .lss (env 49) (env 48) h) fun v1 h1 =>
 aT v1 (
 bnd (r 51 [(env 0), (env 1), (env 49)] h1) fun v2 h2 =>
 bnd (eG .u8 v2 h2) fun v3 h3 =>
 bnd (aL [(.i .u8 (Int.ofNat 0))] 1 [(0, 1, v3)] h3) fun v4 h4 =>
 bnd (bA 1 1 (env 7) v4 h4) fun v5 h5 =>
 bnd (aD .add (env 49) (aE 1) h5) fun v6 h6 =>
      kk7 (env 0) (env 1) v5 (env 48) v6 h6) (
      q0 (env 7) h1) := by kernel_rfl
theorem bHq (kk7 : cH) : (fun (env : aV) (h : Hp) =>
 bnd (aD .lss (env 49) (env 48) h) fun v1 h1 =>
 aT v1 (
 bnd (r 51 [(env 0), (env 1), (env 49)] h1) fun v2 h2 =>
 bnd (eG .u8 v2 h2) fun v3 h3 =>
 bnd (aL [(.i .u8 (Int.ofNat 0))] 1 [(0, 1, v3)] h3) fun v4 h4 =>
 bnd (bA 1 1 (env 7) v4 h4) fun v5 h5 =>
 bnd (aD .add (env 49) (aE 1) h5) fun v6 h6 =>
      kk7 (env 0) (env 1) v5 (env 48) v6 h6) (
      gC r n (env 7) h1)) = (K5 (aPr r n kk7) 0 1 7 48 49) := by kernel_rfl
theorem cGn (kk7 : cH) : D33 r n sT (xs x0 0 (K1 (gC r n) 7)) (K5 kk7 0 1 7 48 49) = (K5 (aPr r n kk7) 0 1 7 48 49) :=
 (cEa r n kk7 (gC r n)).trans (bHq r n kk7)
theorem cMv (m : Nat) : aO (fun kk => D33 r n sT (xs x0 0 (K1 (gC r n) 7)) kk) m = (K5 (aGz r n m) 0 1 7 48 49) := by
 induction m with
 | zero => exact (by kernel_rfl : aO (fun kk => D33 r n sT (xs x0 0 (K1 (gC r n) 7)) kk) 0 = (K5 (aGz r n 0) 0 1 7 48 49))
 | succ m ih =>
  refine (by kernel_rfl : aO (fun kk => D33 r n sT (xs x0 0 (K1 (gC r n) 7)) kk) (m + 1) = D33 r n sT (xs x0 0 (K1 (gC r n) 7)) (aO (fun kk => D33 r n sT (xs x0 0 (K1 (gC r n) 7)) kk) m)).trans ?_
  rw [ih]
  exact (cGn r n (aGz r n m)).trans (by kernel_rfl)
theorem dBl : D33 r n aWm (xs x0 0 (K1 (gC r n) 7)) (K1 (gC r n) 7) = (K5 (cRy r n) 0 1 7 48 49) :=
 (by kernel_rfl : D33 r n aWm (xs x0 0 (K1 (gC r n) 7)) (K1 (gC r n) 7) = aO (fun kk => D33 r n sT (xs x0 0 (K1 (gC r n) 7)) kk) n).trans ((cMv r n n).trans (by kernel_rfl))
theorem cYz : D33 r n bQf x0 (K1 (gC r n) 7) = (K5 (bOu r n) 0 1 7 48 49) :=
 (by kernel_rfl : D33 r n bQf x0 (K1 (gC r n) 7) = D33 r n aWm (xs x0 0 (K1 (gC r n) 7)) (K1 (gC r n) 7)).trans
 ((dBl r n).trans (by kernel_rfl))
theorem cFw : D33 r n aXy x0 r33 = D33 r n aNh x0 (K1 (gC r n) 7) :=
 congrArg (fun k => D33 r n aNh x0 k) (cWu r n)
theorem cGf : D33 r n aNh x0 (K1 (gC r n) 7) = D33 r n bSa x0 (K5 (bOu r n) 0 1 7 48 49) :=
 congrArg (fun k => D33 r n bSa x0 k) (cYz r n)
theorem cVo : D33 r n aXy x0 r33 = (K3 (bRu r n) 0 1 7) :=
 (cFw r n).trans
 ((cGf r n).trans
 ((by kernel_rfl)))
theorem cHu : D33 r n aZb x0 r33 = D33 r n bOs x0 (K3 (bRu r n) 0 1 7) :=
 congrArg (fun k => D33 r n bOs x0 k) (cVo r n)
theorem cYb : D33 r n aZb x0 r33 = (K2 (bVt r n) 0 1) :=
 (cHu r n).trans
 ((by kernel_rfl))
theorem cHp : D33 r n bBt x0 r33 = D33 r n bTz x0 (K2 (bVt r n) 0 1) :=
 congrArg (fun k => D33 r n bTz x0 k) (cYb r n)
theorem dCa : D33 r n bBt x0 r33 = (K3 (bRi r n) 0 1 6) :=
 (cHp r n).trans
 ((by kernel_rfl))
theorem cKp : D33 r n aZa x0 r33 = D33 r n bJv x0 (K3 (bRi r n) 0 1 6) :=
 congrArg (fun k => D33 r n bJv x0 k) (dCa r n)
theorem cXm : D33 r n aZa x0 r33 = (K2 (bGw r n) 0 1) :=
 (cKp r n).trans
 ((by kernel_rfl))
theorem dIu : D33 r n c33 x0 r33 = D33 r n cAp x0 (K2 (bGw r n) 0 1) :=
 congrArg (fun k => D33 r n cAp x0 k) (cXm r n)
theorem dOn : D33 r n c33 x0 r33 = (K2 (s33 r n) 0 1) :=
 (dIu r n).trans
 ((by kernel_rfl))
theorem dMh : aF CF r n 33 args h = s33 r n (aU args 0) (aU args 1) h :=
 (by kernel_rfl : aF CF r n 33 args h = D33 r n c33 x0 r33 (aI args) h).trans ((congrFun (congrFun (dOn r n) (aI args)) h).trans (by kernel_rfl))
noncomputable def s34 (r : RT) (n : Nat) (x0 x1 : DV) (h0 : Hp) : aH :=
 bnd (r 67 [x0, x1] h0) fun v1 h1 =>
 bnd (gQ .not v1 h1) fun v2 h2 =>
 aT v2 (
 some ((.s []), h2)) (
 bnd (r 51 [x0, x1, (aE 0)] h2) fun v3 h3 =>
 bnd (r 33 [x0, v3] h3) fun v4 h4 =>
 bnd (aC 0 v4 h4) fun v5 h5 =>
 bnd (aC 1 v4 h5) fun v6 h6 =>
 some (v5, h6))
noncomputable abbrev c34 : Code := cf Tryz.f34
noncomputable abbrev r34 : K := aR CF Tryz.f34
noncomputable def D34 (r : RT) (n : Nat) (c : Code) (X : Nat → K) (k : K) : K := aM CF r 20 n c X r34 k
theorem dPw : D34 r n c34 x0 r34 = (K2 (s34 r n) 0 1) :=
 (by kernel_rfl)
theorem dMb : aF CF r n 34 args h = s34 r n (aU args 0) (aU args 1) h :=
 (by kernel_rfl : aF CF r n 34 args h = D34 r n c34 x0 r34 (aI args) h).trans ((congrFun (congrFun (dPw r n) (aI args)) h).trans (by kernel_rfl))
noncomputable def s35 (r : RT) (n : Nat) (x0 x1 : DV) (h0 : Hp) : aH :=
 bnd (r 67 [x0, x1] h0) fun v1 h1 =>
 bnd (gQ .not v1 h1) fun v2 h2 =>
 aT v2 (
 some ((aE 0), h2)) (
 bnd (r 51 [x0, x1, (aE 1)] h2) fun v3 h3 =>
 some (v3, h3))
noncomputable abbrev c35 : Code := cf Tryz.f35
noncomputable abbrev r35 : K := aR CF Tryz.f35
noncomputable def D35 (r : RT) (n : Nat) (c : Code) (X : Nat → K) (k : K) : K := aM CF r 12 n c X r35 k
theorem dQh : D35 r n c35 x0 r35 = (K2 (s35 r n) 0 1) :=
 (by kernel_rfl)
theorem dKv : aF CF r n 35 args h = s35 r n (aU args 0) (aU args 1) h :=
 (by kernel_rfl : aF CF r n 35 args h = D35 r n c35 x0 r35 (aI args) h).trans ((congrFun (congrFun (dQh r n) (aI args)) h).trans (by kernel_rfl))
noncomputable def s36 (r : RT) (n : Nat) (x0 : DV) (h0 : Hp) : aH :=
 bnd (aN x0 h0) fun v1 h1 =>
 bnd (aB 2 v1 h1) fun v2 h2 =>
 bnd (aA v2 h2) fun v3 h3 =>
 some (v3, h3)
noncomputable abbrev c36 : Code := cf Tryz.f36
noncomputable abbrev r36 : K := aR CF Tryz.f36
noncomputable def D36 (r : RT) (n : Nat) (c : Code) (X : Nat → K) (k : K) : K := aM CF r 7 n c X r36 k
theorem dSh : D36 r n c36 x0 r36 = (K1 (s36 r n) 0) :=
 (by kernel_rfl)
theorem dJh : aF CF r n 36 args h = s36 r n (aU args 0) h :=
 (by kernel_rfl : aF CF r n 36 args h = D36 r n c36 x0 r36 (aI args) h).trans ((congrFun (congrFun (dSh r n) (aI args)) h).trans (by kernel_rfl))
end Go.Dd

namespace Go.Dd
open Go.Proofs
variable (r : RT) (n : Nat) (args : List DV) (h : Hp)
noncomputable def s37 (r : RT) (n : Nat) (x0 x1 : DV) (h0 : Hp) : aH :=
 bnd (r 67 [x0, x1] h0) fun v1 h1 =>
 bnd (gQ .not v1 h1) fun v2 h2 =>
 aT v2 (
 some ((aE 0), h2)) (
 bnd (r 51 [x0, x1, (aE 2)] h2) fun v3 h3 =>
 bnd (jQ [v3] h3) fun v4 h4 =>
 some (v4, h4))
noncomputable abbrev c37 : Code := cf Tryz.f37
noncomputable abbrev r37 : K := aR CF Tryz.f37
noncomputable def D37 (r : RT) (n : Nat) (c : Code) (X : Nat → K) (k : K) : K := aM CF r 13 n c X r37 k
theorem dNx : D37 r n c37 x0 r37 = (K2 (s37 r n) 0 1) :=
 (by kernel_rfl)
theorem dIo : aF CF r n 37 args h = s37 r n (aU args 0) (aU args 1) h :=
 (by kernel_rfl : aF CF r n 37 args h = D37 r n c37 x0 r37 (aI args) h).trans ((congrFun (congrFun (dNx r n) (aI args)) h).trans (by kernel_rfl))
noncomputable def cP (r : RT) (n : Nat) (h0 : Hp) : aH :=
 some ((.i .i64 (Int.negSucc 0)), h0)
noncomputable def aLw (r : RT) (n : Nat) (x24 : DV) (h0 : Hp) : aH :=
 aT x24 (
 some ((aE 2), h0)) (
  cP r n h0)
noncomputable def bYp (r : RT) (n : Nat) (x3 : DV) (h0 : Hp) : aH :=
 bnd (aD .eql x3 (aE 21) h0) fun v1 h1 =>
 aT v1 (
  aLw r n v1 h1) (
 bnd (aD .eql x3 (aE 51) h1) fun v2 h2 =>
  aLw r n v2 h2)
noncomputable def jB (r : RT) (n : Nat) (x3 x10 : DV) (h0 : Hp) : aH :=
 aT x10 (
 some ((aE 1), h0)) (
  bYp r n x3 h0)
noncomputable def bWg (r : RT) (n : Nat) (x3 : DV) (h0 : Hp) : aH :=
 bnd (aD .eql x3 (aE 1) h0) fun v1 h1 =>
 aT v1 (
  jB r n x3 v1 h1) (
 bnd (aD .eql x3 (aE 2) h1) fun v2 h2 =>
 aT v2 (
   jB r n x3 v2 h2) (
 bnd (aD .eql x3 (aE 3) h2) fun v3 h3 =>
 aT v3 (
    jB r n x3 v3 h3) (
 bnd (aD .eql x3 (aE 4) h3) fun v4 h4 =>
 aT v4 (
     jB r n x3 v4 h4) (
 bnd (aD .eql x3 (aE 5) h4) fun v5 h5 =>
 aT v5 (
      jB r n x3 v5 h5) (
 bnd (aD .eql x3 (aE 6) h5) fun v6 h6 =>
 aT v6 (
       jB r n x3 v6 h6) (
 bnd (aD .eql x3 (aE 7) h6) fun v7 h7 =>
 aT v7 (
        jB r n x3 v7 h7) (
 bnd (aD .eql x3 (aE 10) h7) fun v8 h8 =>
 aT v8 (
         jB r n x3 v8 h8) (
 bnd (aD .eql x3 (aE 20) h8) fun v9 h9 =>
 aT v9 (
          jB r n x3 v9 h9) (
 bnd (aD .eql x3 (aE 24) h9) fun v10 h10 =>
 aT v10 (
           jB r n x3 v10 h10) (
 bnd (aD .eql x3 (aE 25) h10) fun v11 h11 =>
 aT v11 (
            jB r n x3 v11 h11) (
 bnd (aD .eql x3 (aE 26) h11) fun v12 h12 =>
 aT v12 (
             jB r n x3 v12 h12) (
 bnd (aD .eql x3 (aE 50) h12) fun v13 h13 =>
             jB r n x3 v13 h13))))))))))))
noncomputable def sQ (r : RT) (n : Nat) (x3 x4 : DV) (h0 : Hp) : aH :=
 aT x4 (
 some ((aE 0), h0)) (
  bWg r n x3 h0)
noncomputable def aVr (r : RT) (n : Nat) (x3 : DV) (h0 : Hp) : aH :=
 bnd (aD .eql x3 (aE 11) h0) fun v1 h1 =>
 aT v1 (
  sQ r n x3 v1 h1) (
 bnd (aD .eql x3 (aE 22) h1) fun v2 h2 =>
 aT v2 (
   sQ r n x3 v2 h2) (
 bnd (aD .eql x3 (aE 23) h2) fun v3 h3 =>
 aT v3 (
    sQ r n x3 v3 h3) (
 bnd (aD .eql x3 (aE 40) h3) fun v4 h4 =>
 aT v4 (
     sQ r n x3 v4 h4) (
 bnd (aD .eql x3 (aE 41) h4) fun v5 h5 =>
     sQ r n x3 v5 h5))))
noncomputable def bCd (r : RT) (n : Nat) (x0 : DV) (h0 : Hp) : aH :=
 aVr r n x0 h0
noncomputable def s39 (r : RT) (n : Nat) (x0 : DV) (h0 : Hp) : aH :=
 bCd r n x0 h0
noncomputable abbrev c39 : Code := cf Tryz.f39
noncomputable abbrev aYw : Code := cR c39
noncomputable abbrev dKe : Code := cR aYw
noncomputable abbrev aNm : Code := cL aYw
noncomputable abbrev bWf : Code := cR aNm
noncomputable abbrev aWg : Code := cL bWf
noncomputable abbrev aKt : Code := cR aWg
noncomputable abbrev aNp : Code := cR aKt
noncomputable abbrev aLj : Code := cR aNp
noncomputable abbrev aMc : Code := cR aLj
noncomputable abbrev cVu : Code := cR aMc
noncomputable abbrev bXh : Code := cL aMc
noncomputable abbrev dAs : Code := cL aLj
noncomputable abbrev bNn : Code := cL aNp
noncomputable abbrev dAc : Code := cL aKt
noncomputable abbrev bJi : Code := cL aWg
noncomputable abbrev bNj : Code := cL aNm
noncomputable abbrev bLu : Code := cL c39
noncomputable abbrev r39 : K := aR CF Tryz.f39
noncomputable def D39 (r : RT) (n : Nat) (c : Code) (X : Nat → K) (k : K) : K := aM CF r 27 n c X r39 k
theorem cUa : D39 r n dKe x0 r39 = (K0 (cP r n)) :=
 (by kernel_rfl)
theorem dAz : D39 r n cVu (xs x0 0 (K0 (cP r n))) (K0 (cP r n)) = (K1 (aLw r n) 24) :=
 (by kernel_rfl)
theorem cEz : D39 r n aMc (xs x0 0 (K0 (cP r n))) (K0 (cP r n)) = D39 r n bXh (xs x0 0 (K0 (cP r n))) (K1 (aLw r n) 24) :=
 congrArg (fun k => D39 r n bXh (xs x0 0 (K0 (cP r n))) k) (dAz r n)
theorem cUy : D39 r n aMc (xs x0 0 (K0 (cP r n))) (K0 (cP r n)) = (K1 (bYp r n) 3) :=
 (cEz r n).trans
 ((by kernel_rfl))
theorem cVl : D39 r n aLj (xs x0 0 (K0 (cP r n))) (K0 (cP r n)) = (K2 (jB r n) 3 10) :=
 (by kernel_rfl : D39 r n aLj (xs x0 0 (K0 (cP r n))) (K0 (cP r n)) = (fun (env : aV) (h : Hp) => aT (opr env (cC aLj)) (D39 r n dAs (xs x0 0 (K0 (cP r n))) (K0 (cP r n)) env h) (D39 r n aMc (xs x0 0 (K0 (cP r n))) (K0 (cP r n)) env h))).trans (by rw [cUy r n]; kernel_rfl)
theorem cFk : D39 r n aNp (xs x0 0 (K0 (cP r n))) (K0 (cP r n)) = D39 r n bNn (xs x0 0 (K0 (cP r n))) (K2 (jB r n) 3 10) :=
 congrArg (fun k => D39 r n bNn (xs x0 0 (K0 (cP r n))) k) (cVl r n)
theorem cYj : D39 r n aNp (xs x0 0 (K0 (cP r n))) (K0 (cP r n)) = (K1 (bWg r n) 3) :=
 (cFk r n).trans
 ((by kernel_rfl))
theorem cTb : D39 r n aKt (xs x0 0 (K0 (cP r n))) (K0 (cP r n)) = (K2 (sQ r n) 3 4) :=
 (by kernel_rfl : D39 r n aKt (xs x0 0 (K0 (cP r n))) (K0 (cP r n)) = (fun (env : aV) (h : Hp) => aT (opr env (cC aKt)) (D39 r n dAc (xs x0 0 (K0 (cP r n))) (K0 (cP r n)) env h) (D39 r n aNp (xs x0 0 (K0 (cP r n))) (K0 (cP r n)) env h))).trans (by rw [cYj r n]; kernel_rfl)
theorem cKf : D39 r n aWg (xs x0 0 (K0 (cP r n))) (K0 (cP r n)) = D39 r n bJi (xs x0 0 (K0 (cP r n))) (K2 (sQ r n) 3 4) :=
 congrArg (fun k => D39 r n bJi (xs x0 0 (K0 (cP r n))) k) (cTb r n)
theorem dDj : D39 r n bWf x0 (K0 (cP r n)) = (K1 (aVr r n) 3) :=
 (by kernel_rfl : D39 r n bWf x0 (K0 (cP r n)) = D39 r n aWg (xs x0 0 (K0 (cP r n))) (K0 (cP r n))).trans
 ((cKf r n).trans
 ((by kernel_rfl)))
theorem cPg : D39 r n aYw x0 r39 = D39 r n aNm x0 (K0 (cP r n)) :=
 congrArg (fun k => D39 r n aNm x0 k) (cUa r n)
theorem cJe : D39 r n aNm x0 (K0 (cP r n)) = D39 r n bNj x0 (K1 (aVr r n) 3) :=
 congrArg (fun k => D39 r n bNj x0 k) (dDj r n)
theorem dCc : D39 r n aYw x0 r39 = (K1 (bCd r n) 0) :=
 (cPg r n).trans
 ((cJe r n).trans
 ((by kernel_rfl)))
theorem dMt : D39 r n c39 x0 r39 = D39 r n bLu x0 (K1 (bCd r n) 0) :=
 congrArg (fun k => D39 r n bLu x0 k) (dCc r n)
theorem dNk : D39 r n c39 x0 r39 = (K1 (s39 r n) 0) :=
 (dMt r n).trans
 ((by kernel_rfl))
theorem cSb : aF CF r n 39 args h = s39 r n (aU args 0) h :=
 (by kernel_rfl : aF CF r n 39 args h = D39 r n c39 x0 r39 (aI args) h).trans ((congrFun (congrFun (dNk r n) (aI args)) h).trans (by kernel_rfl))
noncomputable def eZ (r : RT) (n : Nat) (x5 : DV) (h0 : Hp) : aH :=
 some (.t [x5, (aE 0)], h0)
noncomputable def kG (r : RT) (n : Nat) (kk9 : dN) (x5 x155 x156 x157 : DV) (h0 : Hp) : aH :=
 bnd (aD .lss x157 x156 h0) fun v1 h1 =>
 aT v1 (
 bnd (aJ 1 x155 x157 h1) fun v2 h2 =>
 bnd (aA v2 h2) fun v3 h3 =>
 bnd (aJ 1 v3 (aE 0) h3) fun v4 h4 =>
 bnd (aA v4 h4) fun v5 h5 =>
 bnd (aJ 1 v3 (aE 1) h5) fun v6 h6 =>
 bnd (aA v6 h6) fun v7 h7 =>
 bnd (r 75 [x5, v5, v7] h7) fun v8 h8 =>
 bnd (aC 0 v8 h8) fun v9 h9 =>
 bnd (aC 1 v8 h9) fun v10 h10 =>
 bnd (aC 2 v8 h10) fun v11 h11 =>
 bnd (aC 3 v8 h11) fun v12 h12 =>
 bnd (aD .neq v12 (aE 0) h12) fun v13 h13 =>
 aT v13 (
 some (.t [.p0, v12], h13)) (
 bnd (aD .add x157 (aE 1) h13) fun v14 h14 =>
    kk9 x5 x155 x156 v14 h14)) (
      eZ r n x5 h1)
noncomputable def kF (r : RT) (n : Nat) (m : Nat) : dN :=
 Nat.rec (motive := fun _ => dN) (fun _ _ _ _ _ => none) (fun _ ih => kG r n ih) m
noncomputable def aZy (r : RT) (n : Nat) : dN := kF r n n
noncomputable def bZt (r : RT) (n : Nat) (x5 x155 x156 x157 : DV) (h0 : Hp) : aH :=
 aZy r n x5 x155 x156 x157 h0
noncomputable def bF (r : RT) (n : Nat) (x5 : DV) (h0 : Hp) : aH :=
 bnd (r 74 [] h0) fun v1 h1 =>
 bnd (cA v1 h1) fun v2 h2 =>
  bZt r n x5 v1 v2 (aE 0) h2
noncomputable def aZ (r : RT) (n : Nat) (kk11 : cH) (x4 x5 x59 x60 x61 : DV) (h0 : Hp) : aH :=
 bnd (aD .add x61 (aE 1) h0) fun v1 h1 =>
  kk11 x4 x5 x59 x60 v1 h1
noncomputable def eP (r : RT) (n : Nat) (kk11 : cH) (x4 x5 x8 x9 x59 x60 x61 : DV) (h0 : Hp) : aH :=
 bnd (aN x5 h0) fun v1 h1 =>
 bnd (aB 1 v1 h1) fun v2 h2 =>
 bnd (aA v2 h2) fun v3 h3 =>
 bnd (aN x5 h3) fun v4 h4 =>
 bnd (aB 1 v4 h4) fun v5 h5 =>
 bnd (aA v5 h5) fun v6 h6 =>
 bnd (aJ 1 v6 (aE 1) h6) fun v7 h7 =>
 bnd (aA v7 h7) fun v8 h8 =>
 bnd (r 73 [x5, x9, v8] h8) fun v9 h9 =>
 cnd (bG (aA v2 h9) v3 && true) (
 bnd (aC 0 v9 h9) fun v10 h10 =>
 bnd (aC 1 v9 h10) fun v11 h11 =>
 bnd (aJ 1 v3 (aE 1) h11) fun v12 h12 =>
 bnd (aG 1 v12 v10 h12) fun v13 h13 =>
 bnd (aN x5 h13) fun v14 h14 =>
 bnd (aB 3 v14 h14) fun v15 h15 =>
 bnd (aA v15 h15) fun v16 h16 =>
 bnd (aB 0 x8 h16) fun v17 h17 =>
 bnd (aA v17 h17) fun v18 h18 =>
 bnd (gH .string v16 v18 x9 h18) fun v19 h19 =>
  aZ r n kk11 x4 x5 x59 x60 x61 h19)
noncomputable def aZo (r : RT) (n : Nat) (kk11 : cH) (kk25 : aPy) (x4 x5 x8 x9 x59 x60 x61 x117 x118 x119 : DV) (h0 : Hp) : aH :=
 bnd (aD .lss x119 x118 h0) fun v1 h1 =>
 aT v1 (
 bnd (aJ 1 x117 x119 h1) fun v2 h2 =>
 bnd (aA v2 h2) fun v3 h3 =>
 bnd (nL [x4, x9, x119, v3] h3) fun v4 h4 =>
 bnd (aD .add x119 (aE 1) h4) fun v5 h5 =>
      kk25 x4 x5 x8 x9 x59 x60 x61 x117 x118 v5 h5) (
      eP r n kk11 x4 x5 x8 x9 x59 x60 x61 h1)
noncomputable def tE (r : RT) (n : Nat) (kk11 : cH) (m : Nat) : aPy :=
 Nat.rec (motive := fun _ => aPy) (fun _ _ _ _ _ _ _ _ _ _ _ => none) (fun _ ih => aZo r n kk11 ih) m
noncomputable def bJs (r : RT) (n : Nat) (kk11 : cH) : aPy := tE r n kk11 n
noncomputable def xU (r : RT) (n : Nat) (kk11 : cH) (x4 x5 x8 x9 x59 x60 x61 x117 x118 x119 : DV) (h0 : Hp) : aH :=
 bJs r n kk11 x4 x5 x8 x9 x59 x60 x61 x117 x118 x119 h0
noncomputable def aDg (r : RT) (n : Nat) (kk11 : cH) (x4 x5 x8 x9 x10 x12 x13 x19 x59 x60 x61 : DV) (h0 : Hp) : aH :=
 bnd (r 71 [x13] (resv 1 h0)) fun v1 h1 =>
 bnd (aB 2 x8 h1) fun v2 h2 =>
 bnd (aA v2 h2) fun v3 h3 =>
 cnd (bG (aA v2 (resv 1 h0)) v3 && true) (
 bnd (r 71 [v3] h3) fun v4 h4 =>
 bnd (bJ (bX 0 h0.next) [(aE 0), (aE 0), (aE 0), (aE 0), (aE 0), (aE 0)] 6 [(0, 1, x10), (1, 1, x12), (2, 1, v1), (3, 1, x19), (4, 1, (aE 0)), (5, 1, v4)] h4) fun v5 h5 =>
 bnd (cA v5 h5) fun v6 h6 =>
  xU r n kk11 x4 x5 x8 x9 x59 x60 x61 v5 v6 (aE 0) h6)
noncomputable def oM (r : RT) (n : Nat) (kk11 : cH) (x4 x5 x8 x9 x10 x12 x13 x14 x59 x60 x61 : DV) (h0 : Hp) : aH :=
 bnd (r 46 [x5, x14] h0) fun v1 h1 =>
 bnd (aC 0 v1 h1) fun v2 h2 =>
 bnd (aC 1 v1 h2) fun v3 h3 =>
  aDg r n kk11 x4 x5 x8 x9 x10 x12 x13 v2 x59 x60 x61 h3
noncomputable def wG (r : RT) (n : Nat) (kk11 : cH) (x4 x5 x7 x8 x9 x10 x12 x13 x14 x59 x60 x61 : DV) (h0 : Hp) : aH :=
 bnd (aD .eql x7 (aE 15) h0) fun v1 h1 =>
 aT v1 (
 bnd (r 44 [x5, (.s [115, 101, 108, 101, 99, 116, 111, 114])] h1) fun v2 h2 =>
 bnd (aC 0 v2 h2) fun v3 h3 =>
 bnd (aC 1 v2 h3) fun v4 h4 =>
 bnd (r 44 [x5, (.s [97, 114, 103, 117, 109, 101, 110, 116, 115])] h4) fun v5 h5 =>
 bnd (aC 0 v5 h5) fun v6 h6 =>
 bnd (aC 1 v5 h6) fun v7 h7 =>
 bnd (aL [(aE 0), (aE 0)] 2 [(0, 1, v3), (1, 1, v6)] h7) fun v8 h8 =>
  oM r n kk11 x4 x5 x8 x9 x10 x12 (aE 2) v8 x59 x60 x61 h8) (
  oM r n kk11 x4 x5 x8 x9 x10 x12 x13 x14 x59 x60 x61 h1)
noncomputable def aQz (r : RT) (n : Nat) (kk11 : cH) (x4 x5 x7 x8 x9 x10 x12 x13 x14 x59 x60 x61 : DV) (h0 : Hp) : aH :=
 bnd (aB 1 x8 h0) fun v1 h1 =>
 bnd (aA v1 h1) fun v2 h2 =>
 bnd (aD .geq v2 (aE 0) h2) fun v3 h3 =>
 aT v3 (
 bnd (aB 1 x8 h3) fun v4 h4 =>
 bnd (aA v4 h4) fun v5 h5 =>
 bnd (r 30 [x5, v5] h5) fun v6 h6 =>
  wG r n kk11 x4 x5 x7 x8 x9 x10 v6 x13 x14 x59 x60 x61 h6) (
  wG r n kk11 x4 x5 x7 x8 x9 x10 x12 x13 x14 x59 x60 x61 h3)
noncomputable def aSo (r : RT) (n : Nat) (kk11 : cH) (x4 x5 x7 x8 x9 x10 x59 x60 x61 : DV) (h0 : Hp) : aH :=
 aQz r n kk11 x4 x5 x7 x8 x9 x10 (aE 0) (aE 0) .l0 x59 x60 x61 h0
noncomputable def aRn (r : RT) (n : Nat) (kk11 : cH) (x4 x5 x7 x8 x9 x59 x60 x61 : DV) (h0 : Hp) : aH :=
 bnd (aB 0 x8 h0) fun v1 h1 =>
 bnd (aA v1 h1) fun v2 h2 =>
 bnd (r 44 [x5, v2] h2) fun v3 h3 =>
 bnd (aC 0 v3 h3) fun v4 h4 =>
 bnd (aC 1 v3 h4) fun v5 h5 =>
  aSo r n kk11 x4 x5 x7 x8 x9 v4 x59 x60 x61 h5
noncomputable def aTe (r : RT) (n : Nat) (kk11 : cH) (x4 x5 x7 x8 x9 x59 x60 x61 : DV) (h0 : Hp) : aH :=
 bnd (r 30 [x5, (aE 1)] h0) fun v1 h1 =>
 bnd (kO [x4, x9, v1] h1) fun v2 h2 =>
  aRn r n kk11 x4 x5 x7 x8 x9 x59 x60 x61 h2
noncomputable def zY (r : RT) (n : Nat) (kk11 : cH) (x4 x5 x7 x8 x59 x60 x61 : DV) (h0 : Hp) : aH :=
 bnd (r 30 [x5, x7] h0) fun v1 h1 =>
  aTe r n kk11 x4 x5 x7 x8 v1 x59 x60 x61 h1
noncomputable def aCg (r : RT) (n : Nat) (kk11 : cH) (x4 x5 x59 x60 x61 : DV) (h0 : Hp) : aH :=
 bnd (aJ 3 x59 x61 h0) fun v1 h1 =>
 bnd (aK 3 v1 h1) fun v2 h2 =>
 bnd (bN [(.s []), (aE 0), (aE 0)] h2) fun v3 h3 =>
 bnd (aG 3 v3 v2 h3) fun _ h4 =>
  zY r n kk11 x4 x5 x61 v3 x59 x60 x61 h4
noncomputable def aSj (r : RT) (n : Nat) (kk11 : cH) (x4 x5 x59 x60 x61 x62 : DV) (h0 : Hp) : aH :=
 aT x62 (
  aCg r n kk11 x4 x5 x59 x60 x61 h0) (
  bF r n x5 h0)
noncomputable def aYt (r : RT) (n : Nat) (kk11 : cH) (x4 x5 x59 x60 x61 : DV) (h0 : Hp) : aH :=
 bnd (aD .lss x61 x60 h0) fun v1 h1 =>
  aSj r n kk11 x4 x5 x59 x60 x61 v1 h1
noncomputable def vI (r : RT) (n : Nat) (m : Nat) : cH :=
 Nat.rec (motive := fun _ => cH) (fun _ _ _ _ _ _ => none) (fun _ ih => aYt r n ih) m
noncomputable def bLg (r : RT) (n : Nat) : cH := vI r n n
noncomputable def aTl (r : RT) (n : Nat) (x4 x5 x59 x60 x61 : DV) (h0 : Hp) : aH :=
 bLg r n x4 x5 x59 x60 x61 h0
noncomputable def hY (r : RT) (n : Nat) (x4 x5 : DV) (h0 : Hp) : aH :=
 bnd (r 69 [] h0) fun v1 h1 =>
 bnd (cA v1 h1) fun v2 h2 =>
  aTl r n x4 x5 v1 v2 (aE 0) h2
noncomputable def aXz (r : RT) (n : Nat) (kk27 : mF) (x4 x5 x43 : DV) (h0 : Hp) : aH :=
 bnd (aD .lss x43 (aE 16) h0) fun v1 h1 =>
 aT v1 (
 bnd (aN x5 h1) fun v2 h2 =>
 bnd (aB 1 v2 h2) fun v3 h3 =>
 bnd (aA v3 h3) fun v4 h4 =>
 bnd (aD .add (aE 2) x43 h4) fun v5 h5 =>
 bnd (iZ [x4, (aE 0), (aE 0), (aE 6)] h5) fun v6 h6 =>
 cnd (bG (aA v3 h6) v4 && true) (
 bnd (aC 0 v6 h6) fun v7 h7 =>
 bnd (aC 1 v6 h7) fun v8 h8 =>
 bnd (aJ 1 v4 v5 h8) fun v9 h9 =>
 bnd (aG 1 v9 v7 h9) fun v10 h10 =>
 bnd (aD .add x43 (aE 1) h10) fun v11 h11 =>
      kk27 x4 x5 v11 h11)) (
      hY r n x4 x5 h1)
noncomputable def uJ (r : RT) (n : Nat) (m : Nat) : mF :=
 Nat.rec (motive := fun _ => mF) (fun _ _ _ _ => none) (fun _ ih => aXz r n ih) m
noncomputable def bMo (r : RT) (n : Nat) : mF := uJ r n n
noncomputable def aRe (r : RT) (n : Nat) (x4 x5 x43 : DV) (h0 : Hp) : aH :=
 bMo r n x4 x5 x43 h0
noncomputable def aKu (r : RT) (n : Nat) (x4 x5 : DV) (h0 : Hp) : aH :=
 aRe r n x4 x5 (aE 0) h0
noncomputable def aYv (r : RT) (n : Nat) (x4 : DV) (h0 : Hp) : aH :=
 bnd (cN 1 8 [(aE 0)] (aE 18) (aE 18) h0) fun v1 h1 =>
 bnd (dX h1) fun v2 h2 =>
 bnd (dX h2) fun v3 h3 =>
 bnd (bB [.p0, .l0, .m0, .m0] [(0, 1, x4), (1, 1, v1), (2, 1, v2), (3, 1, v3)] h3) fun v4 h4 =>
 bnd (bO v4 h4) fun v5 h5 =>
  aKu r n x4 v5 h5
noncomputable def bRz (r : RT) (n : Nat) (x0 x4 : DV) (h0 : Hp) : aH :=
 bnd (pEq (.pointer 73) true x4 .p0 h0) fun v1 h1 =>
 aT v1 (
 some (.t [.p0, (aE 1)], h1)) (
 bnd (aD .lss x0 (aE 16384) h1) fun v2 h2 =>
 aT v2 (
 some (.t [.p0, (aE 4)], h2)) (
   aYv r n x4 h2))
noncomputable def bUz (r : RT) (n : Nat) (x0 : DV) (h0 : Hp) : aH :=
 bnd (aPw [x0] h0) fun v1 h1 =>
  bRz r n x0 v1 h1
noncomputable def s40 (r : RT) (n : Nat) (x0 : DV) (h0 : Hp) : aH :=
 bUz r n x0 h0
noncomputable abbrev c40 : Code := cf Tryz.f40
noncomputable abbrev aYn : Code := cR c40
noncomputable abbrev aYr : Code := cR aYn
noncomputable abbrev aYa : Code := cR aYr
noncomputable abbrev aUq : Code := cR aYa
noncomputable abbrev aZp : Code := cR aUq
noncomputable abbrev bCh : Code := cR aZp
noncomputable abbrev dHd : Code := cR bCh
noncomputable abbrev aMb : Code := cL bCh
noncomputable abbrev bMe : Code := cR aMb
noncomputable abbrev aEv : Code := cL bMe
noncomputable abbrev oF : Code := cL aEv
noncomputable abbrev bXg : Code := cL aMb
noncomputable abbrev wM : Code := cL aZp
noncomputable abbrev aOo : Code := cR wM
noncomputable abbrev aDq : Code := cL aOo
noncomputable abbrev kJ : Code := cL aDq
noncomputable abbrev aHs : Code := cR kJ
noncomputable abbrev aKb : Code := cR aHs
noncomputable abbrev cTs : Code := cR aKb
noncomputable abbrev aDr : Code := cL aKb
noncomputable abbrev aEu : Code := cL aDr
noncomputable abbrev aJz : Code := cR aEu
noncomputable abbrev aGf : Code := cR aJz
noncomputable abbrev aFj : Code := cR aGf
noncomputable abbrev aJd : Code := cR aFj
noncomputable abbrev aGl : Code := cR aJd
noncomputable abbrev aIu : Code := cR aGl
noncomputable abbrev aJp : Code := cR aIu
noncomputable abbrev aGh : Code := cR aJp
noncomputable abbrev cUj : Code := cR aGh
noncomputable abbrev yF : Code := cL aGh
noncomputable abbrev aRu : Code := cR yF
noncomputable abbrev aHu : Code := cL aRu
noncomputable abbrev oH : Code := cL aHu
noncomputable abbrev aPi : Code := cL yF
noncomputable abbrev bMp : Code := cL aJp
noncomputable abbrev aUa : Code := cL aIu
noncomputable abbrev bKe : Code := cL aGl
noncomputable abbrev bZu : Code := cL aJd
noncomputable abbrev bOo : Code := cL aFj
noncomputable abbrev bLr : Code := cL aGf
noncomputable abbrev bLd : Code := cL aJz
noncomputable abbrev aUb : Code := cL aEu
noncomputable abbrev bPr : Code := cL aHs
noncomputable abbrev bPu : Code := cL kJ
noncomputable abbrev bMv : Code := cL wM
noncomputable abbrev xJ : Code := cL aUq
noncomputable abbrev aQp : Code := cR xJ
noncomputable abbrev aCl : Code := cL aQp
noncomputable abbrev oS : Code := cL aCl
noncomputable abbrev bOh : Code := cL xJ
noncomputable abbrev aQx : Code := cL aYa
noncomputable abbrev bQa : Code := cL aYr
noncomputable abbrev bTf : Code := cL aYn
noncomputable abbrev bYr : Code := cL c40
noncomputable abbrev r40 : K := aR CF Tryz.f40
noncomputable def D40 (r : RT) (n : Nat) (c : Code) (X : Nat → K) (k : K) : K := aM CF r 179 n c X r40 k
theorem bXo : D40 r n dHd x0 r40 = (K1 (eZ r n) 5) :=
 (by kernel_rfl)
theorem bAy (kk9 : dN) : D40 r n oF (xs x0 7 (K1 (eZ r n) 5)) (K4 kk9 5 155 156 157) = (K4 (kG r n kk9) 5 155 156 157) :=
 (by kernel_rfl)
theorem cIe (m : Nat) : aO (fun kk => D40 r n oF (xs x0 7 (K1 (eZ r n) 5)) kk) m = (K4 (kF r n m) 5 155 156 157) := by
 induction m with
 | zero => exact (by kernel_rfl : aO (fun kk => D40 r n oF (xs x0 7 (K1 (eZ r n) 5)) kk) 0 = (K4 (kF r n 0) 5 155 156 157))
 | succ m ih =>
  refine (by kernel_rfl : aO (fun kk => D40 r n oF (xs x0 7 (K1 (eZ r n) 5)) kk) (m + 1) = D40 r n oF (xs x0 7 (K1 (eZ r n) 5)) (aO (fun kk => D40 r n oF (xs x0 7 (K1 (eZ r n) 5)) kk) m)).trans ?_
  rw [ih]
  exact (bAy r n (kF r n m)).trans (by kernel_rfl)
theorem bUf : D40 r n aEv (xs x0 7 (K1 (eZ r n) 5)) (K1 (eZ r n) 5) = (K4 (aZy r n) 5 155 156 157) :=
 (by kernel_rfl : D40 r n aEv (xs x0 7 (K1 (eZ r n) 5)) (K1 (eZ r n) 5) = aO (fun kk => D40 r n oF (xs x0 7 (K1 (eZ r n) 5)) kk) n).trans ((cIe r n n).trans (by kernel_rfl))
theorem cSv : D40 r n bMe x0 (K1 (eZ r n) 5) = (K4 (bZt r n) 5 155 156 157) :=
 (by kernel_rfl : D40 r n bMe x0 (K1 (eZ r n) 5) = D40 r n aEv (xs x0 7 (K1 (eZ r n) 5)) (K1 (eZ r n) 5)).trans
 ((bUf r n).trans (by kernel_rfl))
theorem cDn : D40 r n bCh x0 r40 = D40 r n aMb x0 (K1 (eZ r n) 5) :=
 congrArg (fun k => D40 r n aMb x0 k) (bXo r n)
theorem cKk : D40 r n aMb x0 (K1 (eZ r n) 5) = D40 r n bXg x0 (K4 (bZt r n) 5 155 156 157) :=
 congrArg (fun k => D40 r n bXg x0 k) (cSv r n)
theorem dAp : D40 r n bCh x0 r40 = (K1 (bF r n) 5) :=
 (cDn r n).trans
 ((cKk r n).trans
 ((by kernel_rfl)))
theorem cCk (kk11 : cH) : D40 r n cTs (xs x0 3 (K1 (bF r n) 5)) (K5 kk11 4 5 59 60 61) = (K5 (aZ r n kk11) 4 5 59 60 61) :=
 (by kernel_rfl)
theorem cNw (kk11 : cH) : D40 r n cUj (xs (xs x0 3 (K1 (bF r n) 5)) 4 (K5 (aZ r n kk11) 4 5 59 60 61)) (K5 (aZ r n kk11) 4 5 59 60 61) = (K7 (eP r n kk11) 4 5 8 9 59 60 61) :=
 (by kernel_rfl)
theorem bSh (kk11 : cH) (kk25 : aPy) : D40 r n oH (xs (xs (xs x0 3 (K1 (bF r n) 5)) 4 (K5 (aZ r n kk11) 4 5 59 60 61)) 5 (K7 (eP r n kk11) 4 5 8 9 59 60 61)) (K10 kk25 4 5 8 9 59 60 61 117 118 119) = (K10 (aZo r n kk11 kk25) 4 5 8 9 59 60 61 117 118 119) :=
 (by kernel_rfl)
theorem bHk (kk11 : cH) (m : Nat) : aO (fun kk => D40 r n oH (xs (xs (xs x0 3 (K1 (bF r n) 5)) 4 (K5 (aZ r n kk11) 4 5 59 60 61)) 5 (K7 (eP r n kk11) 4 5 8 9 59 60 61)) kk) m = (K10 (tE r n kk11 m) 4 5 8 9 59 60 61 117 118 119) := by
 induction m with
 | zero => exact (by kernel_rfl : aO (fun kk => D40 r n oH (xs (xs (xs x0 3 (K1 (bF r n) 5)) 4 (K5 (aZ r n kk11) 4 5 59 60 61)) 5 (K7 (eP r n kk11) 4 5 8 9 59 60 61)) kk) 0 = (K10 (tE r n kk11 0) 4 5 8 9 59 60 61 117 118 119))
 | succ m ih =>
  refine (by kernel_rfl : aO (fun kk => D40 r n oH (xs (xs (xs x0 3 (K1 (bF r n) 5)) 4 (K5 (aZ r n kk11) 4 5 59 60 61)) 5 (K7 (eP r n kk11) 4 5 8 9 59 60 61)) kk) (m + 1) = D40 r n oH (xs (xs (xs x0 3 (K1 (bF r n) 5)) 4 (K5 (aZ r n kk11) 4 5 59 60 61)) 5 (K7 (eP r n kk11) 4 5 8 9 59 60 61)) (aO (fun kk => D40 r n oH (xs (xs (xs x0 3 (K1 (bF r n) 5)) 4 (K5 (aZ r n kk11) 4 5 59 60 61)) 5 (K7 (eP r n kk11) 4 5 8 9 59 60 61)) kk) m)).trans ?_
  rw [ih]
  exact (bSh r n kk11 (tE r n kk11 m)).trans (by kernel_rfl)
theorem cKq (kk11 : cH) : D40 r n aHu (xs (xs (xs x0 3 (K1 (bF r n) 5)) 4 (K5 (aZ r n kk11) 4 5 59 60 61)) 5 (K7 (eP r n kk11) 4 5 8 9 59 60 61)) (K7 (eP r n kk11) 4 5 8 9 59 60 61) = (K10 (bJs r n kk11) 4 5 8 9 59 60 61 117 118 119) :=
 (by kernel_rfl : D40 r n aHu (xs (xs (xs x0 3 (K1 (bF r n) 5)) 4 (K5 (aZ r n kk11) 4 5 59 60 61)) 5 (K7 (eP r n kk11) 4 5 8 9 59 60 61)) (K7 (eP r n kk11) 4 5 8 9 59 60 61) = aO (fun kk => D40 r n oH (xs (xs (xs x0 3 (K1 (bF r n) 5)) 4 (K5 (aZ r n kk11) 4 5 59 60 61)) 5 (K7 (eP r n kk11) 4 5 8 9 59 60 61)) kk) n).trans ((bHk r n kk11 n).trans (by kernel_rfl))
theorem cGj (kk11 : cH) : D40 r n aRu (xs (xs x0 3 (K1 (bF r n) 5)) 4 (K5 (aZ r n kk11) 4 5 59 60 61)) (K7 (eP r n kk11) 4 5 8 9 59 60 61) = (K10 (xU r n kk11) 4 5 8 9 59 60 61 117 118 119) :=
 (by kernel_rfl : D40 r n aRu (xs (xs x0 3 (K1 (bF r n) 5)) 4 (K5 (aZ r n kk11) 4 5 59 60 61)) (K7 (eP r n kk11) 4 5 8 9 59 60 61) = D40 r n aHu (xs (xs (xs x0 3 (K1 (bF r n) 5)) 4 (K5 (aZ r n kk11) 4 5 59 60 61)) 5 (K7 (eP r n kk11) 4 5 8 9 59 60 61)) (K7 (eP r n kk11) 4 5 8 9 59 60 61)).trans
 ((cKq r n kk11).trans (by kernel_rfl))
theorem bZm (kk11 : cH) : D40 r n aGh (xs (xs x0 3 (K1 (bF r n) 5)) 4 (K5 (aZ r n kk11) 4 5 59 60 61)) (K5 (aZ r n kk11) 4 5 59 60 61) = D40 r n yF (xs (xs x0 3 (K1 (bF r n) 5)) 4 (K5 (aZ r n kk11) 4 5 59 60 61)) (K7 (eP r n kk11) 4 5 8 9 59 60 61) :=
 congrArg (fun k => D40 r n yF (xs (xs x0 3 (K1 (bF r n) 5)) 4 (K5 (aZ r n kk11) 4 5 59 60 61)) k) (cNw r n kk11)
theorem bYw (kk11 : cH) : D40 r n yF (xs (xs x0 3 (K1 (bF r n) 5)) 4 (K5 (aZ r n kk11) 4 5 59 60 61)) (K7 (eP r n kk11) 4 5 8 9 59 60 61) = D40 r n aPi (xs (xs x0 3 (K1 (bF r n) 5)) 4 (K5 (aZ r n kk11) 4 5 59 60 61)) (K10 (xU r n kk11) 4 5 8 9 59 60 61 117 118 119) :=
 congrArg (fun k => D40 r n aPi (xs (xs x0 3 (K1 (bF r n) 5)) 4 (K5 (aZ r n kk11) 4 5 59 60 61)) k) (cGj r n kk11)
theorem bSp (kk11 : cH) (q0 : aPy) (q1 : TT1) (q2 : cH) : D40 r n aPi (xs (xs x0 3 (K1 q1 5)) 4 (K5 q2 4 5 59 60 61)) (K10 q0 4 5 8 9 59 60 61 117 118 119) = fun (env : aV) (h : Hp) =>
 bnd (r 71 [(env 13)] (resv 1 h)) fun v1 h1 =>
 bnd (aB 2 (env 8) h1) fun v2 h2 =>
 bnd (aA v2 h2) fun v3 h3 =>
 cnd (bG (aA v2 (resv 1 h)) v3 && true) (
 bnd (r 71 [v3] h3) fun v4 h4 =>
 bnd (bJ (bX 0 h.next) [(aE 0), (aE 0), (aE 0), (aE 0), (aE 0), (aE 0)] 6 [(0, 1, (env 10)), (1, 1, (env 12)), (2, 1, v1), (3, 1, (env 19)), (4, 1, (aE 0)), (5, 1, v4)] h4) fun v5 h5 =>
 bnd (cA v5 h5) fun v6 h6 =>
  q0 (env 4) (env 5) (env 8) (env 9) (env 59) (env 60) (env 61) v5 v6 (aE 0) h6) := by kernel_rfl
theorem bEi (kk11 : cH) : (fun (env : aV) (h : Hp) =>
 bnd (r 71 [(env 13)] (resv 1 h)) fun v1 h1 =>
 bnd (aB 2 (env 8) h1) fun v2 h2 =>
 bnd (aA v2 h2) fun v3 h3 =>
 cnd (bG (aA v2 (resv 1 h)) v3 && true) (
 bnd (r 71 [v3] h3) fun v4 h4 =>
 bnd (bJ (bX 0 h.next) [(aE 0), (aE 0), (aE 0), (aE 0), (aE 0), (aE 0)] 6 [(0, 1, (env 10)), (1, 1, (env 12)), (2, 1, v1), (3, 1, (env 19)), (4, 1, (aE 0)), (5, 1, v4)] h4) fun v5 h5 =>
 bnd (cA v5 h5) fun v6 h6 =>
  xU r n kk11 (env 4) (env 5) (env 8) (env 9) (env 59) (env 60) (env 61) v5 v6 (aE 0) h6)) = (K11 (aDg r n kk11) 4 5 8 9 10 12 13 19 59 60 61) := by kernel_rfl
theorem cGs (kk11 : cH) : D40 r n aGh (xs (xs x0 3 (K1 (bF r n) 5)) 4 (K5 (aZ r n kk11) 4 5 59 60 61)) (K5 (aZ r n kk11) 4 5 59 60 61) = (K11 (aDg r n kk11) 4 5 8 9 10 12 13 19 59 60 61) :=
 (bZm r n kk11).trans
 ((bYw r n kk11).trans
 ((bSp r n kk11 (xU r n kk11) (bF r n) (aZ r n kk11)).trans (bEi r n kk11)))
theorem bNi (kk11 : cH) : D40 r n aJp (xs (xs x0 3 (K1 (bF r n) 5)) 4 (K5 (aZ r n kk11) 4 5 59 60 61)) (K5 (aZ r n kk11) 4 5 59 60 61) = D40 r n bMp (xs (xs x0 3 (K1 (bF r n) 5)) 4 (K5 (aZ r n kk11) 4 5 59 60 61)) (K11 (aDg r n kk11) 4 5 8 9 10 12 13 19 59 60 61) :=
 congrArg (fun k => D40 r n bMp (xs (xs x0 3 (K1 (bF r n) 5)) 4 (K5 (aZ r n kk11) 4 5 59 60 61)) k) (cGs r n kk11)
theorem cJu (kk11 : cH) : D40 r n aJp (xs (xs x0 3 (K1 (bF r n) 5)) 4 (K5 (aZ r n kk11) 4 5 59 60 61)) (K5 (aZ r n kk11) 4 5 59 60 61) = (K11 (oM r n kk11) 4 5 8 9 10 12 13 14 59 60 61) :=
 (bNi r n kk11).trans
 ((by kernel_rfl))
theorem bLi (kk11 : cH) : D40 r n aIu (xs (xs x0 3 (K1 (bF r n) 5)) 4 (K5 (aZ r n kk11) 4 5 59 60 61)) (K5 (aZ r n kk11) 4 5 59 60 61) = D40 r n aUa (xs (xs x0 3 (K1 (bF r n) 5)) 4 (K5 (aZ r n kk11) 4 5 59 60 61)) (K11 (oM r n kk11) 4 5 8 9 10 12 13 14 59 60 61) :=
 congrArg (fun k => D40 r n aUa (xs (xs x0 3 (K1 (bF r n) 5)) 4 (K5 (aZ r n kk11) 4 5 59 60 61)) k) (cJu r n kk11)
theorem bWw (kk11 : cH) (q0 : dGg) (q1 : TT1) (q2 : cH) : D40 r n aUa (xs (xs x0 3 (K1 q1 5)) 4 (K5 q2 4 5 59 60 61)) (K11 q0 4 5 8 9 10 12 13 14 59 60 61) = fun (env : aV) (h : Hp) =>
 bnd (aD .eql (env 7) (aE 15) h) fun v1 h1 =>
 aT v1 (
 bnd (r 44 [(env 5), (.s [115, 101, 108, 101, 99, 116, 111, 114])] h1) fun v2 h2 =>
 bnd (aC 0 v2 h2) fun v3 h3 =>
 bnd (aC 1 v2 h3) fun v4 h4 =>
 bnd (r 44 [(env 5), (.s [97, 114, 103, 117, 109, 101, 110, 116, 115])] h4) fun v5 h5 =>
 bnd (aC 0 v5 h5) fun v6 h6 =>
 bnd (aC 1 v5 h6) fun v7 h7 =>
 bnd (aL [(aE 0), (aE 0)] 2 [(0, 1, v3), (1, 1, v6)] h7) fun v8 h8 =>
      q0 (env 4) (env 5) (env 8) (env 9) (env 10) (env 12) (aE 2) v8 (env 59) (env 60) (env 61) h8) (
      q0 (env 4) (env 5) (env 8) (env 9) (env 10) (env 12) (env 13) (env 14) (env 59) (env 60) (env 61) h1) := by kernel_rfl
theorem bEw (kk11 : cH) : (fun (env : aV) (h : Hp) =>
 bnd (aD .eql (env 7) (aE 15) h) fun v1 h1 =>
 aT v1 (
 bnd (r 44 [(env 5), (.s [115, 101, 108, 101, 99, 116, 111, 114])] h1) fun v2 h2 =>
 bnd (aC 0 v2 h2) fun v3 h3 =>
 bnd (aC 1 v2 h3) fun v4 h4 =>
 bnd (r 44 [(env 5), (.s [97, 114, 103, 117, 109, 101, 110, 116, 115])] h4) fun v5 h5 =>
 bnd (aC 0 v5 h5) fun v6 h6 =>
 bnd (aC 1 v5 h6) fun v7 h7 =>
 bnd (aL [(aE 0), (aE 0)] 2 [(0, 1, v3), (1, 1, v6)] h7) fun v8 h8 =>
      oM r n kk11 (env 4) (env 5) (env 8) (env 9) (env 10) (env 12) (aE 2) v8 (env 59) (env 60) (env 61) h8) (
      oM r n kk11 (env 4) (env 5) (env 8) (env 9) (env 10) (env 12) (env 13) (env 14) (env 59) (env 60) (env 61) h1)) = (K12 (wG r n kk11) 4 5 7 8 9 10 12 13 14 59 60 61) := by kernel_rfl
theorem cRb (kk11 : cH) : D40 r n aIu (xs (xs x0 3 (K1 (bF r n) 5)) 4 (K5 (aZ r n kk11) 4 5 59 60 61)) (K5 (aZ r n kk11) 4 5 59 60 61) = (K12 (wG r n kk11) 4 5 7 8 9 10 12 13 14 59 60 61) :=
 (bLi r n kk11).trans
 ((bWw r n kk11 (oM r n kk11) (bF r n) (aZ r n kk11)).trans (bEw r n kk11))
theorem bXt (kk11 : cH) : D40 r n aGl (xs (xs x0 3 (K1 (bF r n) 5)) 4 (K5 (aZ r n kk11) 4 5 59 60 61)) (K5 (aZ r n kk11) 4 5 59 60 61) = D40 r n bKe (xs (xs x0 3 (K1 (bF r n) 5)) 4 (K5 (aZ r n kk11) 4 5 59 60 61)) (K12 (wG r n kk11) 4 5 7 8 9 10 12 13 14 59 60 61) :=
 congrArg (fun k => D40 r n bKe (xs (xs x0 3 (K1 (bF r n) 5)) 4 (K5 (aZ r n kk11) 4 5 59 60 61)) k) (cRb r n kk11)
theorem cQv (kk11 : cH) : D40 r n aGl (xs (xs x0 3 (K1 (bF r n) 5)) 4 (K5 (aZ r n kk11) 4 5 59 60 61)) (K5 (aZ r n kk11) 4 5 59 60 61) = (K12 (aQz r n kk11) 4 5 7 8 9 10 12 13 14 59 60 61) :=
 (bXt r n kk11).trans
 ((by kernel_rfl))
theorem bFs (kk11 : cH) : D40 r n aJd (xs (xs x0 3 (K1 (bF r n) 5)) 4 (K5 (aZ r n kk11) 4 5 59 60 61)) (K5 (aZ r n kk11) 4 5 59 60 61) = D40 r n bZu (xs (xs x0 3 (K1 (bF r n) 5)) 4 (K5 (aZ r n kk11) 4 5 59 60 61)) (K12 (aQz r n kk11) 4 5 7 8 9 10 12 13 14 59 60 61) :=
 congrArg (fun k => D40 r n bZu (xs (xs x0 3 (K1 (bF r n) 5)) 4 (K5 (aZ r n kk11) 4 5 59 60 61)) k) (cQv r n kk11)
theorem cBx (kk11 : cH) : D40 r n aJd (xs (xs x0 3 (K1 (bF r n) 5)) 4 (K5 (aZ r n kk11) 4 5 59 60 61)) (K5 (aZ r n kk11) 4 5 59 60 61) = (K9 (aSo r n kk11) 4 5 7 8 9 10 59 60 61) :=
 (bFs r n kk11).trans
 ((by kernel_rfl))
theorem bDw (kk11 : cH) : D40 r n aFj (xs (xs x0 3 (K1 (bF r n) 5)) 4 (K5 (aZ r n kk11) 4 5 59 60 61)) (K5 (aZ r n kk11) 4 5 59 60 61) = D40 r n bOo (xs (xs x0 3 (K1 (bF r n) 5)) 4 (K5 (aZ r n kk11) 4 5 59 60 61)) (K9 (aSo r n kk11) 4 5 7 8 9 10 59 60 61) :=
 congrArg (fun k => D40 r n bOo (xs (xs x0 3 (K1 (bF r n) 5)) 4 (K5 (aZ r n kk11) 4 5 59 60 61)) k) (cBx r n kk11)
theorem cEn (kk11 : cH) : D40 r n aFj (xs (xs x0 3 (K1 (bF r n) 5)) 4 (K5 (aZ r n kk11) 4 5 59 60 61)) (K5 (aZ r n kk11) 4 5 59 60 61) = (K8 (aRn r n kk11) 4 5 7 8 9 59 60 61) :=
 (bDw r n kk11).trans
 ((by kernel_rfl))
theorem bFt (kk11 : cH) : D40 r n aGf (xs (xs x0 3 (K1 (bF r n) 5)) 4 (K5 (aZ r n kk11) 4 5 59 60 61)) (K5 (aZ r n kk11) 4 5 59 60 61) = D40 r n bLr (xs (xs x0 3 (K1 (bF r n) 5)) 4 (K5 (aZ r n kk11) 4 5 59 60 61)) (K8 (aRn r n kk11) 4 5 7 8 9 59 60 61) :=
 congrArg (fun k => D40 r n bLr (xs (xs x0 3 (K1 (bF r n) 5)) 4 (K5 (aZ r n kk11) 4 5 59 60 61)) k) (cEn r n kk11)
theorem cLj (kk11 : cH) : D40 r n aGf (xs (xs x0 3 (K1 (bF r n) 5)) 4 (K5 (aZ r n kk11) 4 5 59 60 61)) (K5 (aZ r n kk11) 4 5 59 60 61) = (K8 (aTe r n kk11) 4 5 7 8 9 59 60 61) :=
 (bFt r n kk11).trans
 ((by kernel_rfl))
theorem bCx (kk11 : cH) : D40 r n aJz (xs (xs x0 3 (K1 (bF r n) 5)) 4 (K5 (aZ r n kk11) 4 5 59 60 61)) (K5 (aZ r n kk11) 4 5 59 60 61) = D40 r n bLd (xs (xs x0 3 (K1 (bF r n) 5)) 4 (K5 (aZ r n kk11) 4 5 59 60 61)) (K8 (aTe r n kk11) 4 5 7 8 9 59 60 61) :=
 congrArg (fun k => D40 r n bLd (xs (xs x0 3 (K1 (bF r n) 5)) 4 (K5 (aZ r n kk11) 4 5 59 60 61)) k) (cLj r n kk11)
theorem cDc (kk11 : cH) : D40 r n aJz (xs (xs x0 3 (K1 (bF r n) 5)) 4 (K5 (aZ r n kk11) 4 5 59 60 61)) (K5 (aZ r n kk11) 4 5 59 60 61) = (K7 (zY r n kk11) 4 5 7 8 59 60 61) :=
 (bCx r n kk11).trans
 ((by kernel_rfl))
theorem bCo (kk11 : cH) : D40 r n aKb (xs x0 3 (K1 (bF r n) 5)) (K5 kk11 4 5 59 60 61) = D40 r n aDr (xs x0 3 (K1 (bF r n) 5)) (K5 (aZ r n kk11) 4 5 59 60 61) :=
 congrArg (fun k => D40 r n aDr (xs x0 3 (K1 (bF r n) 5)) k) (cCk r n kk11)
theorem bFm (kk11 : cH) : D40 r n aEu (xs (xs x0 3 (K1 (bF r n) 5)) 4 (K5 (aZ r n kk11) 4 5 59 60 61)) (K5 (aZ r n kk11) 4 5 59 60 61) = D40 r n aUb (xs (xs x0 3 (K1 (bF r n) 5)) 4 (K5 (aZ r n kk11) 4 5 59 60 61)) (K7 (zY r n kk11) 4 5 7 8 59 60 61) :=
 congrArg (fun k => D40 r n aUb (xs (xs x0 3 (K1 (bF r n) 5)) 4 (K5 (aZ r n kk11) 4 5 59 60 61)) k) (cDc r n kk11)
theorem bFj (kk11 : cH) (q0 : TT7) (q1 : TT1) (q2 : cH) : D40 r n aUb (xs (xs x0 3 (K1 q1 5)) 4 (K5 q2 4 5 59 60 61)) (K7 q0 4 5 7 8 59 60 61) = fun (env : aV) (h : Hp) =>
 bnd (aJ 3 (env 59) (env 61) h) fun v1 h1 =>
 bnd (aK 3 v1 h1) fun v2 h2 =>
 bnd (bN [(.s []), (aE 0), (aE 0)] h2) fun v3 h3 =>
 bnd (aG 3 v3 v2 h3) fun _ h4 =>
  q0 (env 4) (env 5) (env 61) v3 (env 59) (env 60) (env 61) h4 := by kernel_rfl
theorem aRg (kk11 : cH) : (fun (env : aV) (h : Hp) =>
 bnd (aJ 3 (env 59) (env 61) h) fun v1 h1 =>
 bnd (aK 3 v1 h1) fun v2 h2 =>
 bnd (bN [(.s []), (aE 0), (aE 0)] h2) fun v3 h3 =>
 bnd (aG 3 v3 v2 h3) fun _ h4 =>
  zY r n kk11 (env 4) (env 5) (env 61) v3 (env 59) (env 60) (env 61) h4) = (K5 (aCg r n kk11) 4 5 59 60 61) := by kernel_rfl
theorem cDq (kk11 : cH) : D40 r n aKb (xs x0 3 (K1 (bF r n) 5)) (K5 kk11 4 5 59 60 61) = (K5 (aCg r n kk11) 4 5 59 60 61) :=
 (bCo r n kk11).trans
 ((by kernel_rfl : D40 r n aDr (xs x0 3 (K1 (bF r n) 5)) (K5 (aZ r n kk11) 4 5 59 60 61) = D40 r n aEu (xs (xs x0 3 (K1 (bF r n) 5)) 4 (K5 (aZ r n kk11) 4 5 59 60 61)) (K5 (aZ r n kk11) 4 5 59 60 61)).trans
 ((bFm r n kk11).trans
 ((bFj r n kk11 (zY r n kk11) (bF r n) (aZ r n kk11)).trans (aRg r n kk11))))
theorem bGo (kk11 : cH) : D40 r n aHs (xs x0 3 (K1 (bF r n) 5)) (K5 kk11 4 5 59 60 61) = D40 r n bPr (xs x0 3 (K1 (bF r n) 5)) (K5 (aCg r n kk11) 4 5 59 60 61) :=
 congrArg (fun k => D40 r n bPr (xs x0 3 (K1 (bF r n) 5)) k) (cDq r n kk11)
theorem cFg (kk11 : cH) : D40 r n aHs (xs x0 3 (K1 (bF r n) 5)) (K5 kk11 4 5 59 60 61) = (K6 (aSj r n kk11) 4 5 59 60 61 62) :=
 (bGo r n kk11).trans
 ((by kernel_rfl))
theorem bGp (kk11 : cH) : D40 r n kJ (xs x0 3 (K1 (bF r n) 5)) (K5 kk11 4 5 59 60 61) = D40 r n bPu (xs x0 3 (K1 (bF r n) 5)) (K6 (aSj r n kk11) 4 5 59 60 61 62) :=
 congrArg (fun k => D40 r n bPu (xs x0 3 (K1 (bF r n) 5)) k) (cFg r n kk11)
theorem bMh (kk11 : cH) : D40 r n kJ (xs x0 3 (K1 (bF r n) 5)) (K5 kk11 4 5 59 60 61) = (K5 (aYt r n kk11) 4 5 59 60 61) :=
 (bGp r n kk11).trans
 ((by kernel_rfl))
theorem bQi (m : Nat) : aO (fun kk => D40 r n kJ (xs x0 3 (K1 (bF r n) 5)) kk) m = (K5 (vI r n m) 4 5 59 60 61) := by
 induction m with
 | zero => exact (by kernel_rfl : aO (fun kk => D40 r n kJ (xs x0 3 (K1 (bF r n) 5)) kk) 0 = (K5 (vI r n 0) 4 5 59 60 61))
 | succ m ih =>
  refine (by kernel_rfl : aO (fun kk => D40 r n kJ (xs x0 3 (K1 (bF r n) 5)) kk) (m + 1) = D40 r n kJ (xs x0 3 (K1 (bF r n) 5)) (aO (fun kk => D40 r n kJ (xs x0 3 (K1 (bF r n) 5)) kk) m)).trans ?_
  rw [ih]
  exact (bMh r n (vI r n m)).trans (by kernel_rfl)
theorem cFx : D40 r n aDq (xs x0 3 (K1 (bF r n) 5)) (K1 (bF r n) 5) = (K5 (bLg r n) 4 5 59 60 61) :=
 (by kernel_rfl : D40 r n aDq (xs x0 3 (K1 (bF r n) 5)) (K1 (bF r n) 5) = aO (fun kk => D40 r n kJ (xs x0 3 (K1 (bF r n) 5)) kk) n).trans ((bQi r n n).trans (by kernel_rfl))
theorem cHi : D40 r n aOo x0 (K1 (bF r n) 5) = (K5 (aTl r n) 4 5 59 60 61) :=
 (by kernel_rfl : D40 r n aOo x0 (K1 (bF r n) 5) = D40 r n aDq (xs x0 3 (K1 (bF r n) 5)) (K1 (bF r n) 5)).trans
 ((cFx r n).trans (by kernel_rfl))
theorem bWy : D40 r n aZp x0 r40 = D40 r n wM x0 (K1 (bF r n) 5) :=
 congrArg (fun k => D40 r n wM x0 k) (dAp r n)
theorem bMf : D40 r n wM x0 (K1 (bF r n) 5) = D40 r n bMv x0 (K5 (aTl r n) 4 5 59 60 61) :=
 congrArg (fun k => D40 r n bMv x0 k) (cHi r n)
theorem cZz : D40 r n aZp x0 r40 = (K2 (hY r n) 4 5) :=
 (bWy r n).trans
 ((bMf r n).trans
 ((by kernel_rfl)))
theorem bUb (kk27 : mF) : D40 r n oS (xs x0 1 (K2 (hY r n) 4 5)) (K3 kk27 4 5 43) = (K3 (aXz r n kk27) 4 5 43) :=
 (by kernel_rfl)
theorem bJx (m : Nat) : aO (fun kk => D40 r n oS (xs x0 1 (K2 (hY r n) 4 5)) kk) m = (K3 (uJ r n m) 4 5 43) := by
 induction m with
 | zero => exact (by kernel_rfl : aO (fun kk => D40 r n oS (xs x0 1 (K2 (hY r n) 4 5)) kk) 0 = (K3 (uJ r n 0) 4 5 43))
 | succ m ih =>
  refine (by kernel_rfl : aO (fun kk => D40 r n oS (xs x0 1 (K2 (hY r n) 4 5)) kk) (m + 1) = D40 r n oS (xs x0 1 (K2 (hY r n) 4 5)) (aO (fun kk => D40 r n oS (xs x0 1 (K2 (hY r n) 4 5)) kk) m)).trans ?_
  rw [ih]
  exact (bUb r n (uJ r n m)).trans (by kernel_rfl)
theorem cHg : D40 r n aCl (xs x0 1 (K2 (hY r n) 4 5)) (K2 (hY r n) 4 5) = (K3 (bMo r n) 4 5 43) :=
 (by kernel_rfl : D40 r n aCl (xs x0 1 (K2 (hY r n) 4 5)) (K2 (hY r n) 4 5) = aO (fun kk => D40 r n oS (xs x0 1 (K2 (hY r n) 4 5)) kk) n).trans ((bJx r n n).trans (by kernel_rfl))
theorem cMp : D40 r n aQp x0 (K2 (hY r n) 4 5) = (K3 (aRe r n) 4 5 43) :=
 (by kernel_rfl : D40 r n aQp x0 (K2 (hY r n) 4 5) = D40 r n aCl (xs x0 1 (K2 (hY r n) 4 5)) (K2 (hY r n) 4 5)).trans
 ((cHg r n).trans (by kernel_rfl))
theorem bTx : D40 r n aUq x0 r40 = D40 r n xJ x0 (K2 (hY r n) 4 5) :=
 congrArg (fun k => D40 r n xJ x0 k) (cZz r n)
theorem bXa : D40 r n xJ x0 (K2 (hY r n) 4 5) = D40 r n bOh x0 (K3 (aRe r n) 4 5 43) :=
 congrArg (fun k => D40 r n bOh x0 k) (cMp r n)
theorem dDo : D40 r n aUq x0 r40 = (K2 (aKu r n) 4 5) :=
 (bTx r n).trans
 ((bXa r n).trans
 ((by kernel_rfl)))
theorem bQz : D40 r n aYa x0 r40 = D40 r n aQx x0 (K2 (aKu r n) 4 5) :=
 congrArg (fun k => D40 r n aQx x0 k) (dDo r n)
theorem bRf (q0 : pB) : D40 r n aQx x0 (K2 q0 4 5) = fun (env : aV) (h : Hp) =>
 bnd (cN 1 8 [(aE 0)] (aE 18) (aE 18) h) fun v1 h1 =>
 bnd (dX h1) fun v2 h2 =>
 bnd (dX h2) fun v3 h3 =>
 bnd (bB [.p0, .l0, .m0, .m0] [(0, 1, (env 4)), (1, 1, v1), (2, 1, v2), (3, 1, v3)] h3) fun v4 h4 =>
 bnd (bO v4 h4) fun v5 h5 =>
  q0 (env 4) v5 h5 := by kernel_rfl
theorem bGg : (fun (env : aV) (h : Hp) =>
 bnd (cN 1 8 [(aE 0)] (aE 18) (aE 18) h) fun v1 h1 =>
 bnd (dX h1) fun v2 h2 =>
 bnd (dX h2) fun v3 h3 =>
 bnd (bB [.p0, .l0, .m0, .m0] [(0, 1, (env 4)), (1, 1, v1), (2, 1, v2), (3, 1, v3)] h3) fun v4 h4 =>
 bnd (bO v4 h4) fun v5 h5 =>
  aKu r n (env 4) v5 h5) = (K1 (aYv r n) 4) := by kernel_rfl
theorem cZy : D40 r n aYa x0 r40 = (K1 (aYv r n) 4) :=
 (bQz r n).trans
 ((bRf r n (aKu r n)).trans (bGg r n))
theorem bHr : D40 r n aYr x0 r40 = D40 r n bQa x0 (K1 (aYv r n) 4) :=
 congrArg (fun k => D40 r n bQa x0 k) (cZy r n)
theorem dDi : D40 r n aYr x0 r40 = (K2 (bRz r n) 0 4) :=
 (bHr r n).trans
 ((by kernel_rfl))
theorem cAb : D40 r n aYn x0 r40 = D40 r n bTf x0 (K2 (bRz r n) 0 4) :=
 congrArg (fun k => D40 r n bTf x0 k) (dDi r n)
theorem dEf : D40 r n aYn x0 r40 = (K1 (bUz r n) 0) :=
 (cAb r n).trans
 ((by kernel_rfl))
theorem dBg : D40 r n c40 x0 r40 = D40 r n bYr x0 (K1 (bUz r n) 0) :=
 congrArg (fun k => D40 r n bYr x0 k) (dEf r n)
theorem dSf : D40 r n c40 x0 r40 = (K1 (s40 r n) 0) :=
 (dBg r n).trans
 ((by kernel_rfl))
theorem dGe : aF CF r n 40 args h = s40 r n (aU args 0) h :=
 (by kernel_rfl : aF CF r n 40 args h = D40 r n c40 x0 r40 (aI args) h).trans ((congrFun (congrFun (dSf r n) (aI args)) h).trans (by kernel_rfl))
noncomputable def s42 (r : RT) (n : Nat) (x0 x1 : DV) (h0 : Hp) : aH :=
 bnd (aD .lss x1 (.i .i64 (Int.negSucc 1152921504606846975)) h0) fun v1 h1 =>
 bnd (gD v1 false (some (x1, h1)) h1) fun v2 h2 =>
 bnd (gD v1 false (aD .gtr v2 (aE 1152921504606846976) h2) h2) fun v3 h3 =>
 bnd (aP v1 (.b true) v3 h3) fun v4 h4 =>
 aT v4 (
 some (.t [(aE 0), (aE 2)], h4)) (
 bnd (gZ [x1] h4) fun v5 h5 =>
 bnd (aC 0 v5 h5) fun v6 h6 =>
 bnd (aC 1 v5 h6) fun v7 h7 =>
 aT v7 (
 some (.t [v6, (aE 0)], h7)) (
 bnd (r 30 [x0, (aE 8)] h7) fun v8 h8 =>
 bnd (aL [(aE 0)] 1 [(0, 1, x1)] h8) fun v9 h9 =>
 bnd (r 82 [x0, v8, (aE 1), v9] h9) fun v10 h10 =>
 bnd (aC 0 v10 h10) fun v11 h11 =>
 bnd (aC 1 v10 h11) fun v12 h12 =>
 some (.t [v11, v12], h12)))
noncomputable abbrev c42 : Code := cf Tryz.f42
noncomputable abbrev r42 : K := aR CF Tryz.f42
noncomputable def D42 (r : RT) (n : Nat) (c : Code) (X : Nat → K) (k : K) : K := aM CF r 29 n c X r42 k
theorem dQf : D42 r n c42 x0 r42 = (K2 (s42 r n) 0 1) :=
 (by kernel_rfl)
theorem cSr : aF CF r n 42 args h = s42 r n (aU args 0) (aU args 1) h :=
 (by kernel_rfl : aF CF r n 42 args h = D42 r n c42 x0 r42 (aI args) h).trans ((congrFun (congrFun (dQf r n) (aI args)) h).trans (by kernel_rfl))
noncomputable def s43 (r : RT) (n : Nat) (x0 x1 : DV) (h0 : Hp) : aH :=
 bnd (dW x1 h0) fun v1 h1 =>
 bnd (aD .gtr v1 (aE 250) h1) fun v2 h2 =>
 aT v2 (
 some (.t [(aE 0), (aE 1)], h2)) (
 bnd (r 30 [x0, (aE 10)] h2) fun v3 h3 =>
 bnd (r 83 [x0, v3, x1] h3) fun v4 h4 =>
 bnd (aC 0 v4 h4) fun v5 h5 =>
 bnd (aC 1 v4 h5) fun v6 h6 =>
 some (.t [v5, v6], h6))
noncomputable abbrev c43 : Code := cf Tryz.f43
noncomputable abbrev r43 : K := aR CF Tryz.f43
noncomputable def D43 (r : RT) (n : Nat) (c : Code) (X : Nat → K) (k : K) : K := aM CF r 16 n c X r43 k
theorem dRn : D43 r n c43 x0 r43 = (K2 (s43 r n) 0 1) :=
 (by kernel_rfl)
theorem cRl : aF CF r n 43 args h = s43 r n (aU args 0) (aU args 1) h :=
 (by kernel_rfl : aF CF r n 43 args h = D43 r n c43 x0 r43 (aI args) h).trans ((congrFun (congrFun (dRn r n) (aI args)) h).trans (by kernel_rfl))
noncomputable def s44 (r : RT) (n : Nat) (x0 x1 : DV) (h0 : Hp) : aH :=
 bnd (dW x1 h0) fun v1 h1 =>
 bnd (aD .lss v1 (aE 1) h1) fun v2 h2 =>
 bnd (gD v2 false (some (x1, h2)) h2) fun v3 h3 =>
 bnd (gD v2 false (dW v3 h3) h3) fun v4 h4 =>
 bnd (gD v2 false (aD .gtr v4 (aE 60) h4) h4) fun v5 h5 =>
 bnd (aP v2 (.b true) v5 h5) fun v6 h6 =>
 aT v6 (
 some (.t [(aE 0), (aE 1)], h6)) (
 bnd (aN x0 h6) fun v7 h7 =>
 bnd (aB 2 v7 h7) fun v8 h8 =>
 bnd (aA v8 h8) fun v9 h9 =>
 bnd (dQ .string (aE 0) false v9 x1 h9) fun v10 h10 =>
 bnd (aD .neq v10 (aE 0) h10) fun v11 h11 =>
 aT v11 (
 some (.t [v10, (aE 0)], h11)) (
 bnd (r 30 [x0, (aE 11)] h11) fun v12 h12 =>
 bnd (r 83 [x0, v12, x1] h12) fun v13 h13 =>
 bnd (aC 0 v13 h13) fun v14 h14 =>
 bnd (aC 1 v13 h14) fun v15 h15 =>
 bnd (aD .neq v15 (aE 0) h15) fun v16 h16 =>
 aT v16 (
 some (.t [(aE 0), v15], h16)) (
 bnd (aN x0 h16) fun v17 h17 =>
 bnd (aB 1 v17 h17) fun v18 h18 =>
 bnd (aA v18 h18) fun v19 h19 =>
 bnd (aJ 1 v19 (aE 0) h19) fun v20 h20 =>
 bnd (aA v20 h20) fun v21 h21 =>
 bnd (r 73 [x0, v14, v21] h21) fun v22 h22 =>
 bnd (aC 0 v22 h22) fun v23 h23 =>
 bnd (aC 1 v22 h23) fun v24 h24 =>
 bnd (aD .neq v24 (aE 0) h24) fun v25 h25 =>
 aT v25 (
 some (.t [(aE 0), v24], h25)) (
 bnd (aN x0 h25) fun v26 h26 =>
 bnd (aB 1 v26 h26) fun v27 h27 =>
 bnd (aA v27 h27) fun v28 h28 =>
 bnd (aN x0 h28) fun v29 h29 =>
 bnd (aB 2 v29 h29) fun v30 h30 =>
 bnd (aA v30 h30) fun v31 h31 =>
 bnd (aJ 1 v28 (aE 0) h31) fun v32 h32 =>
 bnd (aG 1 v32 v23 h32) fun v33 h33 =>
 bnd (fU .string (aE 0) v31 x1 h33) fun v34 h34 =>
 bnd (aC 1 v34 h34) fun v35 h35 =>
 bnd (eA v31 v35 v14 h35) fun v36 h36 =>
 some (.t [v14, (aE 0)], h36)))))
noncomputable abbrev c44 : Code := cf Tryz.f44
noncomputable abbrev r44 : K := aR CF Tryz.f44
noncomputable def D44 (r : RT) (n : Nat) (c : Code) (X : Nat → K) (k : K) : K := aM CF r 68 n c X r44 k
theorem dQj : D44 r n c44 x0 r44 = (K2 (s44 r n) 0 1) :=
 (by kernel_rfl)
theorem cSa : aF CF r n 44 args h = s44 r n (aU args 0) (aU args 1) h :=
 (by kernel_rfl : aF CF r n 44 args h = D44 r n c44 x0 r44 (aI args) h).trans ((congrFun (congrFun (dQj r n) (aI args)) h).trans (by kernel_rfl))
noncomputable def s45 (r : RT) (n : Nat) (x0 x1 : DV) (h0 : Hp) : aH :=
 bnd (aN x0 h0) fun v1 h1 =>
 bnd (aB 3 v1 h1) fun v2 h2 =>
 bnd (aA v2 h2) fun v3 h3 =>
 bnd (dQ .string (aE 0) false v3 x1 h3) fun v4 h4 =>
 some (v4, h4)
noncomputable abbrev c45 : Code := cf Tryz.f45
noncomputable abbrev r45 : K := aR CF Tryz.f45
noncomputable def D45 (r : RT) (n : Nat) (c : Code) (X : Nat → K) (k : K) : K := aM CF r 11 n c X r45 k
theorem dPf : D45 r n c45 x0 r45 = (K2 (s45 r n) 0 1) :=
 (by kernel_rfl)
theorem cRj : aF CF r n 45 args h = s45 r n (aU args 0) (aU args 1) h :=
 (by kernel_rfl : aF CF r n 45 args h = D45 r n c45 x0 r45 (aI args) h).trans ((congrFun (congrFun (dPf r n) (aI args)) h).trans (by kernel_rfl))
noncomputable def s46 (r : RT) (n : Nat) (x0 x1 : DV) (h0 : Hp) : aH :=
 bnd (bO x0 h0) fun v1 h1 =>
 bnd (cA x1 h1) fun v2 h2 =>
 bnd (aD .gtr v2 (aE 250) h2) fun v3 h3 =>
 bnd (gD v3 false (some (x1, h3)) h3) fun v4 h4 =>
 bnd (gD v3 false (some ((.f 84 [] [v1]), h4)) h4) fun v5 h5 =>
 bnd (gD v3 false (r 52 [v4, v5] h5) h5) fun v6 h6 =>
 bnd (aP v3 (.b true) v6 h6) fun v7 h7 =>
 aT v7 (
 some (.t [(aE 0), (aE 1)], h7)) (
 bnd (aA v1 h7) fun v8 h8 =>
 bnd (aA v1 h8) fun v9 h9 =>
 bnd (r 30 [v9, (aE 9)] h9) fun v10 h10 =>
 cnd (bG (aA v1 h10) v8 && true) (
 bnd (r 82 [v8, v10, (aE 0), x1] h10) fun v11 h11 =>
 bnd (aC 0 v11 h11) fun v12 h12 =>
 bnd (aC 1 v11 h12) fun v13 h13 =>
 some (.t [v12, v13], h13)))
noncomputable abbrev c46 : Code := cf Tryz.f46
noncomputable abbrev r46 : K := aR CF Tryz.f46
noncomputable def D46 (r : RT) (n : Nat) (c : Code) (X : Nat → K) (k : K) : K := aM CF r 21 n c X r46 k
theorem dNh : D46 r n c46 x0 r46 = (K2 (s46 r n) 0 1) :=
 (by kernel_rfl)
theorem cRx : aF CF r n 46 args h = s46 r n (aU args 0) (aU args 1) h :=
 (by kernel_rfl : aF CF r n 46 args h = D46 r n c46 x0 r46 (aI args) h).trans ((congrFun (congrFun (dNh r n) (aI args)) h).trans (by kernel_rfl))
noncomputable def s51 (r : RT) (n : Nat) (x0 x1 x2 : DV) (h0 : Hp) : aH :=
 bnd (aN x0 h0) fun v1 h1 =>
 bnd (aB 0 v1 h1) fun v2 h2 =>
 bnd (aA v2 h2) fun v3 h3 =>
 bnd (qJ [v3, x1, x2] h3) fun v4 h4 =>
 bnd (aC 0 v4 h4) fun v5 h5 =>
 bnd (aC 1 v4 h5) fun v6 h6 =>
 some (v5, h6)
noncomputable abbrev c51 : Code := cf Tryz.f51
noncomputable abbrev r51 : K := aR CF Tryz.f51
noncomputable def D51 (r : RT) (n : Nat) (c : Code) (X : Nat → K) (k : K) : K := aM CF r 20 n c X r51 k
theorem dRm : D51 r n c51 x0 r51 = (K3 (s51 r n) 0 1 2) :=
 (by kernel_rfl)
theorem cSo : aF CF r n 51 args h = s51 r n (aU args 0) (aU args 1) (aU args 2) h :=
 (by kernel_rfl : aF CF r n 51 args h = D51 r n c51 x0 r51 (aI args) h).trans ((congrFun (congrFun (dRm r n) (aI args)) h).trans (by kernel_rfl))
noncomputable def s52 (r : RT) (n : Nat) (x0 x1 : DV) (h0 : Hp) : aH :=
 bnd (r 89 [x0, x1] h0) fun v1 h1 =>
 bnd (aD .geq v1 (aE 0) h1) fun v2 h2 =>
 some (v2, h2)
noncomputable abbrev c52 : Code := cf Tryz.f52
noncomputable abbrev r52 : K := aR CF Tryz.f52
noncomputable def D52 (r : RT) (n : Nat) (c : Code) (X : Nat → K) (k : K) : K := aM CF r 9 n c X r52 k
theorem dRp : D52 r n c52 x0 r52 = (K2 (s52 r n) 0 1) :=
 (by kernel_rfl)
theorem bUr : aF CF r n 52 args h = s52 r n (aU args 0) (aU args 1) h :=
 (by kernel_rfl : aF CF r n 52 args h = D52 r n c52 x0 r52 (aI args) h).trans ((congrFun (congrFun (dRp r n) (aI args)) h).trans (by kernel_rfl))
noncomputable def s53 (r : RT) (n : Nat) (x0 x1 : DV) (h0 : Hp) : aH :=
 bnd (aA x1 h0) fun v1 h1 =>
 bnd (aAg [v1, x0] h1) fun v2 h2 =>
 bnd (gQ .not v2 h2) fun v3 h3 =>
 some (v3, h3)
noncomputable abbrev c53 : Code := cf Tryz.f53
noncomputable abbrev r53 : K := aR CF Tryz.f53
noncomputable def D53 (r : RT) (n : Nat) (c : Code) (X : Nat → K) (k : K) : K := aM CF r 8 n c X r53 k
theorem dRu : D53 r n c53 x0 r53 = (K2 (s53 r n) 0 1) :=
 (by kernel_rfl)
theorem cSg : aF CF r n 53 args h = s53 r n (aU args 0) (aU args 1) h :=
 (by kernel_rfl : aF CF r n 53 args h = D53 r n c53 x0 r53 (aI args) h).trans ((congrFun (congrFun (dRu r n) (aI args)) h).trans (by kernel_rfl))
noncomputable def s54 (r : RT) (n : Nat) (h0 : Hp) : aH :=
 some (.t [(aE 0), (aE 20)], h0)
noncomputable abbrev c54 : Code := cf Tryz.f54
noncomputable abbrev r54 : K := aR CF Tryz.f54
noncomputable def D54 (r : RT) (n : Nat) (c : Code) (X : Nat → K) (k : K) : K := aM CF r 2 n c X r54 k
theorem dQa : D54 r n c54 x0 r54 = (K0 (s54 r n)) :=
 (by kernel_rfl)
theorem bGz : aF CF r n 54 args h = s54 r n h :=
 (by kernel_rfl : aF CF r n 54 args h = D54 r n c54 x0 r54 (aI args) h).trans ((congrFun (congrFun (dQa r n) (aI args)) h).trans (by kernel_rfl))
noncomputable def s56 (r : RT) (n : Nat) (x0 : DV) (h0 : Hp) : aH :=
 bnd (aN x0 h0) fun v1 h1 =>
 bnd (aB 1 v1 h1) fun v2 h2 =>
 bnd (aA v2 h2) fun v3 h3 =>
 bnd (aD .eql v3 (.i .i64 (Int.ofNat 10)) h3) fun v4 h4 =>
 aT v4 (
 bnd (aN x0 h4) fun v5 h5 =>
 bnd (aB 2 v5 h5) fun v6 h6 =>
 bnd (aA v6 h6) fun v7 h7 =>
 bnd (aN x0 h7) fun v8 h8 =>
 bnd (aB 3 v8 h8) fun v9 h9 =>
 bnd (aA v9 h9) fun v10 h10 =>
 bnd (aJ 1 v10 (.i .i64 (Int.ofNat 0)) h10) fun v11 h11 =>
 bnd (aA v11 h11) fun v12 h12 =>
 bnd (aD .eql v7 v12 h12) fun v13 h13 =>
 bnd (r 95 [v13] h13) fun v14 h14 =>
 bnd (aC 0 v14 h14) fun v15 h15 =>
 bnd (aC 1 v14 h15) fun v16 h16 =>
 some (.t [v15, v16], h16)) (
 bnd (aN x0 h4) fun v17 h17 =>
 bnd (aB 0 v17 h17) fun v18 h18 =>
 bnd (aA v18 h18) fun v19 h19 =>
 bnd (aN x0 h19) fun v20 h20 =>
 bnd (aB 2 v20 h20) fun v21 h21 =>
 bnd (aA v21 h21) fun v22 h22 =>
 bnd (r 25 [v19, v22] h22) fun v23 h23 =>
 some (.t [v23, (.i .i64 (Int.ofNat 0))], h23))
noncomputable abbrev c56 : Code := cf Tryz.f56
noncomputable abbrev r56 : K := aR CF Tryz.f56
noncomputable def D56 (r : RT) (n : Nat) (c : Code) (X : Nat → K) (k : K) : K := aM CF r 32 n c X r56 k
theorem dQq : D56 r n c56 x0 r56 = (K1 (s56 r n) 0) :=
 (by kernel_rfl)
theorem dMg : aF CF r n 56 args h = s56 r n (aU args 0) h :=
 (by kernel_rfl : aF CF r n 56 args h = D56 r n c56 x0 r56 (aI args) h).trans ((congrFun (congrFun (dQq r n) (aI args)) h).trans (by kernel_rfl))
noncomputable def s57 (r : RT) (n : Nat) (x0 : DV) (h0 : Hp) : aH :=
 bnd (aN x0 h0) fun v1 h1 =>
 bnd (aB 0 v1 h1) fun v2 h2 =>
 bnd (aA v2 h2) fun v3 h3 =>
 bnd (r 23 [v3] h3) fun v4 h4 =>
 bnd (aL [(.i .i64 (Int.ofNat 0)), (.i .i64 (Int.ofNat 0)), (.i .i64 (Int.ofNat 0))] 3 [(0, 1, (.i .i64 (Int.ofNat 9))), (1, 1, (.i .i64 (Int.ofNat 10))), (2, 1, (.i .i64 (Int.ofNat 11)))] h4) fun v5 h5 =>
 bnd (r 96 [x0, v5] h5) fun v6 h6 =>
 bnd (gQ .not v6 h6) fun v7 h7 =>
 aT v7 (
 bnd (r 54 [] h7) fun v8 h8 =>
 bnd (aC 0 v8 h8) fun v9 h9 =>
 bnd (aC 1 v8 h9) fun v10 h10 =>
 some (.t [v9, v10], h10)) (
 bnd (aN x0 h7) fun v11 h11 =>
 bnd (aB 1 v11 h11) fun v12 h12 =>
 bnd (aA v12 h12) fun v13 h13 =>
 bnd (aD .eql v13 (.i .i64 (Int.ofNat 22)) h13) fun v14 h14 =>
 aT v14 (
 bnd (aN x0 h14) fun v15 h15 =>
 bnd (aB 0 v15 h15) fun v16 h16 =>
 bnd (aA v16 h16) fun v17 h17 =>
 bnd (aN x0 h17) fun v18 h18 =>
 bnd (aB 2 v18 h18) fun v19 h19 =>
 bnd (aA v19 h19) fun v20 h20 =>
 bnd (fF [v4, v20] h20) fun v21 h21 =>
 cnd (bG (aA v16 h21) v17 && true) (
 bnd (r 42 [v17, v21] h21) fun v22 h22 =>
 bnd (aC 0 v22 h22) fun v23 h23 =>
 bnd (aC 1 v22 h23) fun v24 h24 =>
 some (.t [v23, v24], h24))) (
 bnd (r 97 [x0] h14) fun v25 h25 =>
 bnd (aC 0 v25 h25) fun v26 h26 =>
 bnd (aC 1 v25 h26) fun v27 h27 =>
 bnd (gQ .not v27 h27) fun v28 h28 =>
 aT v28 (
 bnd (r 54 [] h28) fun v29 h29 =>
 bnd (aC 0 v29 h29) fun v30 h30 =>
 bnd (aC 1 v29 h30) fun v31 h31 =>
 some (.t [v30, v31], h31)) (
 bnd (aN x0 h28) fun v32 h32 =>
 bnd (aB 1 v32 h32) fun v33 h33 =>
 bnd (aA v33 h33) fun v34 h34 =>
 bnd (aD .eql v34 (.i .i64 (Int.ofNat 21)) h34) fun v35 h35 =>
 aT v35 (
 bnd (r 98 [x0, v26] h35) fun v36 h36 =>
 bnd (aC 0 v36 h36) fun v37 h37 =>
 bnd (aC 1 v36 h37) fun v38 h38 =>
 some (.t [v37, v38], h38)) (
 bnd (aN x0 h35) fun v39 h39 =>
 bnd (aB 2 v39 h39) fun v40 h40 =>
 bnd (aA v40 h40) fun v41 h41 =>
 bnd (qJ [v4, v41, v26] h41) fun v42 h42 =>
 bnd (aC 0 v42 h42) fun v43 h43 =>
 bnd (aC 1 v42 h43) fun v44 h44 =>
 bnd (aL [(.i .i64 (Int.ofNat 0))] 1 [(0, 1, (.i .i64 (Int.ofNat 9)))] h44) fun v45 h45 =>
 bnd (r 96 [x0, v45] h45) fun v46 h46 =>
 aT v46 (
 some (.t [v43, (.i .i64 (Int.ofNat 0))], h46)) (
 bnd (aN x0 h46) fun v47 h47 =>
 bnd (aB 0 v47 h47) fun v48 h48 =>
 bnd (aA v48 h48) fun v49 h49 =>
 bnd (r 42 [v49, v43] h49) fun v50 h50 =>
 bnd (aC 0 v50 h50) fun v51 h51 =>
 bnd (aC 1 v50 h51) fun v52 h52 =>
 some (.t [v51, v52], h52))))))
noncomputable abbrev c57 : Code := cf Tryz.f57
noncomputable abbrev r57 : K := aR CF Tryz.f57
noncomputable def D57 (r : RT) (n : Nat) (c : Code) (X : Nat → K) (k : K) : K := aM CF r 83 n c X r57 k
theorem dSb : D57 r n c57 x0 r57 = (K1 (s57 r n) 0) :=
 (by kernel_rfl)
theorem cRe : aF CF r n 57 args h = s57 r n (aU args 0) h :=
 (by kernel_rfl : aF CF r n 57 args h = D57 r n c57 x0 r57 (aI args) h).trans ((congrFun (congrFun (dSb r n) (aI args)) h).trans (by kernel_rfl))
end Go.Dd

namespace Go.Dd
open Go.Proofs
variable (r : RT) (n : Nat) (args : List DV) (h : Hp)
noncomputable def s58 (r : RT) (n : Nat) (x0 : DV) (h0 : Hp) : aH :=
 bnd (aN x0 h0) fun v1 h1 =>
 bnd (aB 0 v1 h1) fun v2 h2 =>
 bnd (aA v2 h2) fun v3 h3 =>
 bnd (r 23 [v3] h3) fun v4 h4 =>
 bnd (aN x0 h4) fun v5 h5 =>
 bnd (aB 0 v5 h5) fun v6 h6 =>
 bnd (aA v6 h6) fun v7 h7 =>
 cnd (bG (aA v6 h0) v7 && true) (
 bnd (aN x0 h7) fun v8 h8 =>
 bnd (aB 2 v8 h8) fun v9 h9 =>
 bnd (aA v9 h9) fun v10 h10 =>
 cnd (bG (aA v9 h0) v10 && true) (
 bnd (r 32 [v7, v10] h10) fun v11 h11 =>
 bnd (aN x0 h11) fun v12 h12 =>
 bnd (aB 1 v12 h12) fun v13 h13 =>
 bnd (aA v13 h13) fun v14 h14 =>
 bnd (aD .eql v14 (.i .i64 (Int.ofNat 23)) h14) fun v15 h15 =>
 aT v15 (
 bnd (aD .neq v11 (.i .i64 (Int.ofNat 0)) h15) fun v16 h16 =>
 aT v16 (
 bnd (r 54 [] h16) fun v17 h17 =>
 bnd (aC 0 v17 h17) fun v18 h18 =>
 bnd (aC 1 v17 h18) fun v19 h19 =>
 some (.t [v18, v19], h19)) (
 bnd (aN x0 h16) fun v20 h20 =>
 bnd (aB 2 v20 h20) fun v21 h21 =>
 bnd (aA v21 h21) fun v22 h22 =>
 bnd (aN x0 h22) fun v23 h23 =>
 bnd (aB 0 v23 h23) fun v24 h24 =>
 bnd (aA v24 h24) fun v25 h25 =>
 bnd (aN x0 h25) fun v26 h26 =>
 bnd (aB 2 v26 h26) fun v27 h27 =>
 bnd (aA v27 h27) fun v28 h28 =>
 bnd (r 37 [v25, v28] h28) fun v29 h29 =>
 cnd (bG (aA v21 h29) v22 && true) (
 bnd (iZ [v4, v22, (.i .i64 (Int.ofNat 0)), v29] h29) fun v30 h30 =>
 bnd (aC 0 v30 h30) fun v31 h31 =>
 bnd (aC 1 v30 h31) fun v32 h32 =>
 some (.t [v31, v32], h32)))) (
 bnd (aN x0 h15) fun v33 h33 =>
 bnd (aB 0 v33 h33) fun v34 h34 =>
 bnd (aA v34 h34) fun v35 h35 =>
 bnd (aN x0 h35) fun v36 h36 =>
 bnd (aB 3 v36 h36) fun v37 h37 =>
 bnd (aA v37 h37) fun v38 h38 =>
 bnd (aJ 1 v38 (.i .i64 (Int.ofNat 0)) h38) fun v39 h39 =>
 bnd (aA v39 h39) fun v40 h40 =>
 bnd (r 15 [v35, v40] h40) fun v41 h41 =>
 bnd (aC 0 v41 h41) fun v42 h42 =>
 bnd (aC 1 v41 h42) fun v43 h43 =>
 bnd (gQ .not v43 h43) fun v44 h44 =>
 bnd (gD v44 false (some (v42, h44)) h44) fun v45 h45 =>
 bnd (gD v44 false (aD .lss v45 (.i .i64 (Int.ofNat 0)) h45) h45) fun v46 h46 =>
 bnd (aP v44 (.b true) v46 h46) fun v47 h47 =>
 bnd (gD v47 false (some (v42, h47)) h47) fun v48 h48 =>
 bnd (gD v47 false (aD .gtr v48 (.i .i64 (Int.ofNat 250)) h48) h48) fun v49 h49 =>
 bnd (aP v47 (.b true) v49 h49) fun v50 h50 =>
 aT v50 (
 bnd (r 54 [] h50) fun v51 h51 =>
 bnd (aC 0 v51 h51) fun v52 h52 =>
 bnd (aC 1 v51 h52) fun v53 h53 =>
 some (.t [v52, v53], h53)) (
 bnd (aN x0 h50) fun v54 h54 =>
 bnd (aB 2 v54 h54) fun v55 h55 =>
 bnd (aA v55 h55) fun v56 h56 =>
 bnd (aN x0 h56) fun v57 h57 =>
 bnd (aB 0 v57 h57) fun v58 h58 =>
 bnd (aA v58 h58) fun v59 h59 =>
 bnd (r 30 [v59, (.i .i64 (Int.ofNat 9))] h59) fun v60 h60 =>
 cnd (bG (aA v55 h60) v56 && true) (
 bnd (aD .eql v56 v60 h60) fun v61 h61 =>
 aT v61 (
 bnd (aN x0 h61) fun v62 h62 =>
 bnd (aB 2 v62 h62) fun v63 h63 =>
 bnd (aA v63 h63) fun v64 h64 =>
 bnd (iZ [v4, v64, (.i .i64 (Int.ofNat 0)), v42] h64) fun v65 h65 =>
 bnd (aC 0 v65 h65) fun v66 h66 =>
 bnd (aC 1 v65 h66) fun v67 h67 =>
 some (.t [v66, v67], h67)) (
 bnd (aN x0 h61) fun v68 h68 =>
 bnd (aB 2 v68 h68) fun v69 h69 =>
 bnd (aA v69 h69) fun v70 h70 =>
 bnd (aN x0 h70) fun v71 h71 =>
 bnd (aB 0 v71 h71) fun v72 h72 =>
 bnd (aA v72 h72) fun v73 h73 =>
 bnd (r 30 [v73, (.i .i64 (Int.ofNat 10))] h73) fun v74 h74 =>
 cnd (bG (aA v69 h74) v70 && true) (
 bnd (aD .eql v70 v74 h74) fun v75 h75 =>
 aT v75 (
 bnd (aN x0 h75) fun v76 h76 =>
 bnd (aB 2 v76 h76) fun v77 h77 =>
 bnd (aA v77 h77) fun v78 h78 =>
 bnd (iZ [v4, v78, (.i .i64 (Int.ofNat 2)), v42] h78) fun v79 h79 =>
 bnd (aC 0 v79 h79) fun v80 h80 =>
 bnd (aC 1 v79 h80) fun v81 h81 =>
 some (.t [v80, v81], h81)) (
 bnd (r 54 [] h75) fun v82 h82 =>
 bnd (aC 0 v82 h82) fun v83 h83 =>
 bnd (aC 1 v82 h83) fun v84 h84 =>
 some (.t [v83, v84], h84)))))))))
noncomputable abbrev c58 : Code := cf Tryz.f58
noncomputable abbrev r58 : K := aR CF Tryz.f58
noncomputable def D58 (r : RT) (n : Nat) (c : Code) (X : Nat → K) (k : K) : K := aM CF r 120 n c X r58 k
theorem dNs : D58 r n c58 x0 r58 = (K1 (s58 r n) 0) :=
 (by kernel_rfl)
theorem dId : aF CF r n 58 args h = s58 r n (aU args 0) h :=
 (by kernel_rfl : aF CF r n 58 args h = D58 r n c58 x0 r58 (aI args) h).trans ((congrFun (congrFun (dNs r n) (aI args)) h).trans (by kernel_rfl))
noncomputable def s60 (r : RT) (n : Nat) (x0 : DV) (h0 : Hp) : aH :=
 bnd (aN x0 h0) fun v1 h1 =>
 bnd (aB 0 v1 h1) fun v2 h2 =>
 bnd (aA v2 h2) fun v3 h3 =>
 bnd (aN x0 h3) fun v4 h4 =>
 bnd (aB 2 v4 h4) fun v5 h5 =>
 bnd (aA v5 h5) fun v6 h6 =>
 bnd (r 32 [v3, v6] h6) fun v7 h7 =>
 bnd (aD .lss v7 (.i .i64 (Int.ofNat 0)) h7) fun v8 h8 =>
 aT v8 (
 bnd (r 54 [] h8) fun v9 h9 =>
 bnd (aC 0 v9 h9) fun v10 h10 =>
 bnd (aC 1 v9 h10) fun v11 h11 =>
 some (.t [v10, v11], h11)) (
 bnd (aN x0 h8) fun v12 h12 =>
 bnd (aB 1 v12 h12) fun v13 h13 =>
 bnd (aA v13 h13) fun v14 h14 =>
 bnd (aD .eql v14 (.i .i64 (Int.ofNat 41)) h14) fun v15 h15 =>
 aT v15 (
 bnd (aN x0 h15) fun v16 h16 =>
 bnd (aB 0 v16 h16) fun v17 h17 =>
 bnd (aA v17 h17) fun v18 h18 =>
 bnd (aN x0 h18) fun v19 h19 =>
 bnd (aB 2 v19 h19) fun v20 h20 =>
 bnd (aA v20 h20) fun v21 h21 =>
 bnd (r 35 [v18, v21] h21) fun v22 h22 =>
 some (.t [v22, (.i .i64 (Int.ofNat 0))], h22)) (
 bnd (aN x0 h15) fun v23 h23 =>
 bnd (aB 0 v23 h23) fun v24 h24 =>
 bnd (aA v24 h24) fun v25 h25 =>
 bnd (aN x0 h25) fun v26 h26 =>
 bnd (aB 0 v26 h26) fun v27 h27 =>
 bnd (aA v27 h27) fun v28 h28 =>
 bnd (aN x0 h28) fun v29 h29 =>
 bnd (aB 2 v29 h29) fun v30 h30 =>
 bnd (aA v30 h30) fun v31 h31 =>
 bnd (r 34 [v28, v31] h31) fun v32 h32 =>
 cnd (bG (aA v24 h32) v25 && true) (
 bnd (r 44 [v25, v32] h32) fun v33 h33 =>
 bnd (aC 0 v33 h33) fun v34 h34 =>
 bnd (aC 1 v33 h34) fun v35 h35 =>
 some (.t [v34, v35], h35))))
noncomputable abbrev c60 : Code := cf Tryz.f60
noncomputable abbrev r60 : K := aR CF Tryz.f60
noncomputable def D60 (r : RT) (n : Nat) (c : Code) (X : Nat → K) (k : K) : K := aM CF r 49 n c X r60 k
theorem dRh : D60 r n c60 x0 r60 = (K1 (s60 r n) 0) :=
 (by kernel_rfl)
theorem dFe : aF CF r n 60 args h = s60 r n (aU args 0) h :=
 (by kernel_rfl : aF CF r n 60 args h = D60 r n c60 x0 r60 (aI args) h).trans ((congrFun (congrFun (dRh r n) (aI args)) h).trans (by kernel_rfl))
noncomputable def s61 (r : RT) (n : Nat) (x0 : DV) (h0 : Hp) : aH :=
 bnd (aN x0 h0) fun v1 h1 =>
 bnd (aB 0 v1 h1) fun v2 h2 =>
 bnd (aA v2 h2) fun v3 h3 =>
 bnd (r 23 [v3] h3) fun v4 h4 =>
 bnd (aN x0 h4) fun v5 h5 =>
 bnd (aB 2 v5 h5) fun v6 h6 =>
 bnd (aA v6 h6) fun v7 h7 =>
 bnd (isF [v4, v7] h7) fun v8 h8 =>
 bnd (gQ .not v8 h8) fun v9 h9 =>
 bnd (gD v9 false (some (x0, h9)) h9) fun v10 h10 =>
 bnd (gD v9 false (aN v10 h10) h10) fun v11 h11 =>
 bnd (gD v9 false (aB 0 v11 h11) h11) fun v12 h12 =>
 bnd (gD v9 false (aA v12 h12) h12) fun v13 h13 =>
 bnd (gD v9 false (some (x0, h13)) h13) fun v14 h14 =>
 bnd (gD v9 false (aN v14 h14) h14) fun v15 h15 =>
 bnd (gD v9 false (aB 0 v15 h15) h15) fun v16 h16 =>
 bnd (gD v9 false (aA v16 h16) h16) fun v17 h17 =>
 bnd (gD v9 false (some (x0, h17)) h17) fun v18 h18 =>
 bnd (gD v9 false (aN v18 h18) h18) fun v19 h19 =>
 bnd (gD v9 false (aB 2 v19 h19) h19) fun v20 h20 =>
 bnd (gD v9 false (aA v20 h20) h20) fun v21 h21 =>
 bnd (gD v9 false (r 25 [v17, v21] h21) h21) fun v22 h22 =>
 cnd (bG (gD v9 false (aA v12 h22) h22) v13 && true) (
 bnd (gD v9 false (r 32 [v13, v22] h22) h22) fun v23 h23 =>
 bnd (gD v9 false (aD .neq v23 (.i .i64 (Int.ofNat 0)) h23) h23) fun v24 h24 =>
 bnd (aP v9 (.b true) v24 h24) fun v25 h25 =>
 aT v25 (
 bnd (r 54 [] h25) fun v26 h26 =>
 bnd (aC 0 v26 h26) fun v27 h27 =>
 bnd (aC 1 v26 h27) fun v28 h28 =>
 some (.t [v27, v28], h28)) (
 bnd (r 97 [x0] h25) fun v29 h29 =>
 bnd (aC 0 v29 h29) fun v30 h30 =>
 bnd (aC 1 v29 h30) fun v31 h31 =>
 bnd (gQ .not v31 h31) fun v32 h32 =>
 aT v32 (
 bnd (r 54 [] h32) fun v33 h33 =>
 bnd (aC 0 v33 h33) fun v34 h34 =>
 bnd (aC 1 v33 h34) fun v35 h35 =>
 some (.t [v34, v35], h35)) (
 bnd (aN x0 h32) fun v36 h36 =>
 bnd (aB 1 v36 h36) fun v37 h37 =>
 bnd (aA v37 h37) fun v38 h38 =>
 bnd (aD .eql v38 (.i .i64 (Int.ofNat 51)) h38) fun v39 h39 =>
 aT v39 (
 bnd (aN x0 h39) fun v40 h40 =>
 bnd (aB 2 v40 h40) fun v41 h41 =>
 bnd (aA v41 h41) fun v42 h42 =>
 bnd (aN x0 h42) fun v43 h43 =>
 bnd (aB 3 v43 h43) fun v44 h44 =>
 bnd (aA v44 h44) fun v45 h45 =>
 bnd (aJ 1 v45 (.i .i64 (Int.ofNat 1)) h45) fun v46 h46 =>
 bnd (aA v46 h46) fun v47 h47 =>
 bnd (nL [v4, v42, v30, v47] h47) fun v48 h48 =>
 bnd (aN x0 h48) fun v49 h49 =>
 bnd (aB 3 v49 h49) fun v50 h50 =>
 bnd (aA v50 h50) fun v51 h51 =>
 bnd (aJ 1 v51 (.i .i64 (Int.ofNat 1)) h51) fun v52 h52 =>
 bnd (aA v52 h52) fun v53 h53 =>
 some (.t [v53, (.i .i64 (Int.ofNat 0))], h53)) (
 bnd (aN x0 h39) fun v54 h54 =>
 bnd (aB 2 v54 h54) fun v55 h55 =>
 bnd (aA v55 h55) fun v56 h56 =>
 bnd (qJ [v4, v56, v30] h56) fun v57 h57 =>
 bnd (aC 0 v57 h57) fun v58 h58 =>
 bnd (aC 1 v57 h58) fun v59 h59 =>
 some (.t [v58, v59], h59)))))
noncomputable abbrev c61 : Code := cf Tryz.f61
noncomputable abbrev r61 : K := aR CF Tryz.f61
noncomputable def D61 (r : RT) (n : Nat) (c : Code) (X : Nat → K) (k : K) : K := aM CF r 84 n c X r61 k
theorem dOo : D61 r n c61 x0 r61 = (K1 (s61 r n) 0) :=
 (by kernel_rfl)
theorem dHr : aF CF r n 61 args h = s61 r n (aU args 0) h :=
 (by kernel_rfl : aF CF r n 61 args h = D61 r n c61 x0 r61 (aI args) h).trans ((congrFun (congrFun (dOo r n) (aI args)) h).trans (by kernel_rfl))
noncomputable def s67 (r : RT) (n : Nat) (x0 x1 : DV) (h0 : Hp) : aH :=
 bnd (aN x0 h0) fun v1 h1 =>
 bnd (aB 0 v1 h1) fun v2 h2 =>
 bnd (aA v2 h2) fun v3 h3 =>
 bnd (isF [v3, x1] h3) fun v4 h4 =>
 bnd (gD v4 true (some (x0, h4)) h4) fun v5 h5 =>
 bnd (gD v4 true (aN v5 h5) h5) fun v6 h6 =>
 bnd (gD v4 true (aB 0 v6 h6) h6) fun v7 h7 =>
 bnd (gD v4 true (aA v7 h7) h7) fun v8 h8 =>
 bnd (gD v4 true (some (x1, h8)) h8) fun v9 h9 =>
 bnd (gD v4 true (iX [v8, v9] h9) h9) fun v10 h10 =>
 bnd (gD v4 true (some (x0, h10)) h10) fun v11 h11 =>
 bnd (gD v4 true (r 30 [v11, (aE 1)] h11) h11) fun v12 h12 =>
 bnd (gD v4 true (aD .eql v10 v12 h12) h12) fun v13 h13 =>
 bnd (aP v4 v13 (.b false) h13) fun v14 h14 =>
 bnd (gD v14 true (some (x0, h14)) h14) fun v15 h15 =>
 bnd (gD v14 true (aN v15 h15) h15) fun v16 h16 =>
 bnd (gD v14 true (aB 0 v16 h16) h16) fun v17 h17 =>
 bnd (gD v14 true (aA v17 h17) h17) fun v18 h18 =>
 bnd (gD v14 true (some (x1, h18)) h18) fun v19 h19 =>
 bnd (gD v14 true (fF [v18, v19] h19) h19) fun v20 h20 =>
 bnd (gD v14 true (aD .eql v20 (aE 6) h20) h20) fun v21 h21 =>
 bnd (aP v14 v21 (.b false) h21) fun v22 h22 =>
 some (v22, h22)
noncomputable abbrev c67 : Code := cf Tryz.f67
noncomputable abbrev r67 : K := aR CF Tryz.f67
noncomputable def D67 (r : RT) (n : Nat) (c : Code) (X : Nat → K) (k : K) : K := aM CF r 31 n c X r67 k
theorem dQb : D67 r n c67 x0 r67 = (K2 (s67 r n) 0 1) :=
 (by kernel_rfl)
theorem dFo : aF CF r n 67 args h = s67 r n (aU args 0) (aU args 1) h :=
 (by kernel_rfl : aF CF r n 67 args h = D67 r n c67 x0 r67 (aI args) h).trans ((congrFun (congrFun (dQb r n) (aI args)) h).trans (by kernel_rfl))
noncomputable def s71 (r : RT) (n : Nat) (x0 : DV) (h0 : Hp) : aH :=
 bnd (gZ [x0] h0) fun v1 h1 =>
 bnd (aC 0 v1 h1) fun v2 h2 =>
 bnd (aC 1 v1 h2) fun v3 h3 =>
 some (v2, h3)
noncomputable abbrev c71 : Code := cf Tryz.f71
noncomputable abbrev r71 : K := aR CF Tryz.f71
noncomputable def D71 (r : RT) (n : Nat) (c : Code) (X : Nat → K) (k : K) : K := aM CF r 11 n c X r71 k
theorem dRk : D71 r n c71 x0 r71 = (K1 (s71 r n) 0) :=
 (by kernel_rfl)
theorem dLh : aF CF r n 71 args h = s71 r n (aU args 0) h :=
 (by kernel_rfl : aF CF r n 71 args h = D71 r n c71 x0 r71 (aI args) h).trans ((congrFun (congrFun (dRk r n) (aI args)) h).trans (by kernel_rfl))
noncomputable def s73 (r : RT) (n : Nat) (x0 x1 x2 : DV) (h0 : Hp) : aH :=
 bnd (r 30 [x0, (aE 9)] h0) fun v1 h1 =>
 bnd (aL [(aE 0), (aE 0)] 2 [(0, 1, x1), (1, 1, x2)] h1) fun v2 h2 =>
 bnd (r 82 [x0, v1, (aE 0), v2] h2) fun v3 h3 =>
 bnd (aC 0 v3 h3) fun v4 h4 =>
 bnd (aC 1 v3 h4) fun v5 h5 =>
 some (.t [v4, v5], h5)
noncomputable abbrev c73 : Code := cf Tryz.f73
noncomputable abbrev r73 : K := aR CF Tryz.f73
noncomputable def D73 (r : RT) (n : Nat) (c : Code) (X : Nat → K) (k : K) : K := aM CF r 17 n c X r73 k
theorem dOz : D73 r n c73 x0 r73 = (K3 (s73 r n) 0 1 2) :=
 (by kernel_rfl)
theorem cSp : aF CF r n 73 args h = s73 r n (aU args 0) (aU args 1) (aU args 2) h :=
 (by kernel_rfl : aF CF r n 73 args h = D73 r n c73 x0 r73 (aI args) h).trans ((congrFun (congrFun (dOz r n) (aI args)) h).trans (by kernel_rfl))
noncomputable def s75 (r : RT) (n : Nat) (x0 x1 x2 : DV) (h0 : Hp) : aH :=
 bnd (r 45 [x0, x1] h0) fun v1 h1 =>
 bnd (aD .eql v1 (aE 0) h1) fun v2 h2 =>
 aT v2 (
 some (.t [(aE 0), (aE 0), (.s []), (aE 24)], h2)) (
 bnd (r 99 [x2] h2) fun v3 h3 =>
 bnd (aC 0 v3 h3) fun v4 h4 =>
 bnd (aC 1 v3 h4) fun v5 h5 =>
 bnd (aC 2 v3 h5) fun v6 h6 =>
 bnd (bN kM h6) fun v7 h7 =>
 bnd (aG 6 v7 v4 h7) fun _ h8 =>
 bnd (aD .neq v6 (aE 0) h8) fun v9 h9 =>
 aT v9 (
 some (.t [(aE 0), v5, (.s []), v6], h9)) (
 bnd (aK 6 v7 (resv 1 h9)) fun v10 h10 =>
 bnd (r 77 [x0, v1] h10) fun v11 h11 =>
 cnd (bG (aK 6 v7 h11) v10 && true) (
 bnd (r 100 [v10, v11] h11) fun v12 h12 =>
 bnd (aC 0 v12 h12) fun v13 h13 =>
 bnd (aC 1 v12 h13) fun v14 h14 =>
 bnd (aC 2 v12 h14) fun v15 h15 =>
 bnd (iY (bX 0 h9.next) [(.s []), (aE 0), (aE 0), (aE 0), .l0, .l0] h15) fun v16 h16 =>
 bnd (aG 6 v16 v13 h16) fun v17 h17 =>
 bnd (aD .neq v15 (aE 0) h17) fun v18 h18 =>
 aT v18 (
 some (.t [(aE 0), (aE 0), v14, v15], h18)) (
 bnd (aK 6 v16 h18) fun v19 h19 =>
 bnd (r 101 [x0, v1, v19] h19) fun v20 h20 =>
 bnd (aC 0 v20 h20) fun v21 h21 =>
 bnd (aC 1 v20 h21) fun v22 h22 =>
 bnd (aD .neq v22 (aE 0) h22) fun v23 h23 =>
 aT v23 (
 some (.t [(aE 0), (aE 0), (.s []), v22], h23)) (
 some (.t [v21, (aE 0), (.s []), (aE 0)], h23))))))
noncomputable abbrev c75 : Code := cf Tryz.f75
noncomputable abbrev r75 : K := aR CF Tryz.f75
noncomputable def D75 (r : RT) (n : Nat) (c : Code) (X : Nat → K) (k : K) : K := aM CF r 56 n c X r75 k
theorem dPm : D75 r n c75 x0 r75 = (K3 (s75 r n) 0 1 2) :=
 (by kernel_rfl)
theorem dFv : aF CF r n 75 args h = s75 r n (aU args 0) (aU args 1) (aU args 2) h :=
 (by kernel_rfl : aF CF r n 75 args h = D75 r n c75 x0 r75 (aI args) h).trans ((congrFun (congrFun (dPm r n) (aI args)) h).trans (by kernel_rfl))
noncomputable def cD (r : RT) (n : Nat) (x5 : DV) (h0 : Hp) : aH :=
 some (x5, h0)
noncomputable def cV (r : RT) (n : Nat) (kk5 : dN) (x0 x1 x5 x6 : DV) (h0 : Hp) : aH :=
 bnd (aD .sub x6 (aE 1) h0) fun v1 h1 =>
  kk5 x0 x1 x5 v1 h1
noncomputable def eF (r : RT) (n : Nat) (kk5 : dN) (x0 x1 x5 x6 x7 : DV) (h0 : Hp) : aH :=
 bnd (bA 1 16 x7 x5 h0) fun v1 h1 =>
 bnd (r 35 [x0, x1] h1) fun v2 h2 =>
  cV r n kk5 x0 v2 v1 x6 h2
noncomputable def aJo (r : RT) (n : Nat) (kk5 : dN) (kk12 : TT8) (x0 x1 x5 x6 x7 x8 x34 x35 : DV) (h0 : Hp) : aH :=
 bnd (aD .lss x35 x34 h0) fun v1 h1 =>
 aT v1 (
 bnd (r 51 [x0, x8, x35] h1) fun v2 h2 =>
 bnd (r 33 [x0, v2] h2) fun v3 h3 =>
 bnd (aC 0 v3 h3) fun v4 h4 =>
 bnd (aC 1 v3 h4) fun v5 h5 =>
 bnd (aL [(.s [])] 1 [(0, 1, v4)] h5) fun v6 h6 =>
 bnd (bA 1 16 x7 v6 h6) fun v7 h7 =>
 bnd (aD .add x35 (aE 1) h7) fun v8 h8 =>
      kk12 x0 x1 x5 x6 v7 x8 x34 v8 h8) (
      eF r n kk5 x0 x1 x5 x6 x7 h1)
noncomputable def vF (r : RT) (n : Nat) (kk5 : dN) (m : Nat) : TT8 :=
 Nat.rec (motive := fun _ => TT8) (fun _ _ _ _ _ _ _ _ _ => none) (fun _ ih => aJo r n kk5 ih) m
noncomputable def bHd (r : RT) (n : Nat) (kk5 : dN) : TT8 := vF r n kk5 n
noncomputable def aNz (r : RT) (n : Nat) (kk5 : dN) (x0 x1 x5 x6 x7 x8 x34 x35 : DV) (h0 : Hp) : aH :=
 bHd r n kk5 x0 x1 x5 x6 x7 x8 x34 x35 h0
noncomputable def bPh (r : RT) (n : Nat) (kk5 : dN) (x0 x1 x5 x6 x7 x8 : DV) (h0 : Hp) : aH :=
 bnd (aN x0 h0) fun v1 h1 =>
 bnd (aB 0 v1 h1) fun v2 h2 =>
 bnd (aA v2 h2) fun v3 h3 =>
 bnd (fF [v3, x8] h3) fun v4 h4 =>
  aNz r n kk5 x0 x1 x5 x6 x7 x8 v4 (aE 0) h4
noncomputable def bVp (r : RT) (n : Nat) (kk5 : dN) (x0 x1 x5 x6 x7 : DV) (h0 : Hp) : aH :=
 bnd (r 51 [x0, x1, (aE 3)] h0) fun v1 h1 =>
  bPh r n kk5 x0 x1 x5 x6 x7 v1 h1
noncomputable def bWm (r : RT) (n : Nat) (kk5 : dN) (x0 x1 x5 x6 : DV) (h0 : Hp) : aH :=
 bVp r n kk5 x0 x1 x5 x6 .l0 h0
noncomputable def bMs (r : RT) (n : Nat) (kk5 : dN) (x0 x1 x5 x6 : DV) (h0 : Hp) : aH :=
 bnd (aD .gtr x6 (aE 0) h0) fun v1 h1 =>
 bnd (gD v1 true (some (x0, h1)) h1) fun v2 h2 =>
 bnd (gD v1 true (some (x1, h2)) h2) fun v3 h3 =>
 bnd (gD v1 true (r 67 [v2, v3] h3) h3) fun v4 h4 =>
 bnd (aP v1 v4 (.b false) h4) fun v5 h5 =>
 aT v5 (
   bWm r n kk5 x0 x1 x5 x6 h5) (
   cD r n x5 h5)
noncomputable def aCe (r : RT) (n : Nat) (m : Nat) : dN :=
 Nat.rec (motive := fun _ => dN) (fun _ _ _ _ _ => none) (fun _ ih => bMs r n ih) m
noncomputable def cRu (r : RT) (n : Nat) : dN := aCe r n n
noncomputable def bJo (r : RT) (n : Nat) (x0 x1 x5 x6 : DV) (h0 : Hp) : aH :=
 cRu r n x0 x1 x5 x6 h0
noncomputable def bSf (r : RT) (n : Nat) (x0 x1 x5 : DV) (h0 : Hp) : aH :=
 bnd (aN x0 h0) fun v1 h1 =>
 bnd (aB 0 v1 h1) fun v2 h2 =>
 bnd (aA v2 h2) fun v3 h3 =>
 bnd (aBd [v3] h3) fun v4 h4 =>
  bJo r n x0 x1 x5 v4 h4
noncomputable def cAk (r : RT) (n : Nat) (x0 x1 : DV) (h0 : Hp) : aH :=
 bSf r n x0 x1 .l0 h0
noncomputable def s77 (r : RT) (n : Nat) (x0 x1 : DV) (h0 : Hp) : aH :=
 cAk r n x0 x1 h0
noncomputable abbrev c77 : Code := cf Tryz.f77
noncomputable abbrev aYo : Code := cR c77
noncomputable abbrev aVj : Code := cR aYo
noncomputable abbrev dMe : Code := cR aVj
noncomputable abbrev aMx : Code := cL aVj
noncomputable abbrev bTt : Code := cR aMx
noncomputable abbrev aXj : Code := cL bTt
noncomputable abbrev nO : Code := cL aXj
noncomputable abbrev bAl : Code := cR nO
noncomputable abbrev dGo : Code := cR bAl
noncomputable abbrev aEw : Code := cL bAl
noncomputable abbrev aEt : Code := cL aEw
noncomputable abbrev aFl : Code := cR aEt
noncomputable abbrev aJh : Code := cR aFl
noncomputable abbrev cXx : Code := cR aJh
noncomputable abbrev yS : Code := cL aJh
noncomputable abbrev aOe : Code := cR yS
noncomputable abbrev aGy : Code := cL aOe
noncomputable abbrev mC : Code := cL aGy
noncomputable abbrev bLl : Code := cL yS
noncomputable abbrev bLe : Code := cL aFl
noncomputable abbrev bYe : Code := cL aEt
noncomputable abbrev bIj : Code := cL nO
noncomputable abbrev bJh : Code := cL aMx
noncomputable abbrev bPp : Code := cL aYo
noncomputable abbrev bWt : Code := cL c77
noncomputable abbrev r77 : K := aR CF Tryz.f77
noncomputable def D77 (r : RT) (n : Nat) (c : Code) (X : Nat → K) (k : K) : K := aM CF r 59 n c X r77 k
theorem dAf : D77 r n dMe x0 r77 = (K1 (cD r n) 5) :=
 (by kernel_rfl)
theorem cVd (kk5 : dN) : D77 r n dGo (xs x0 0 (K1 (cD r n) 5)) (K4 kk5 0 1 5 6) = (K4 (cV r n kk5) 0 1 5 6) :=
 (by kernel_rfl)
theorem cKz (kk5 : dN) : D77 r n cXx (xs (xs x0 0 (K1 (cD r n) 5)) 1 (K4 (cV r n kk5) 0 1 5 6)) (K4 (cV r n kk5) 0 1 5 6) = (K5 (eF r n kk5) 0 1 5 6 7) :=
 (by kernel_rfl)
theorem bYt (kk5 : dN) (kk12 : TT8) (q0 : TT1) (q1 : dN) (q2 : cH) : D77 r n mC (xs (xs (xs x0 0 (K1 q0 5)) 1 (K4 q1 0 1 5 6)) 2 (K5 q2 0 1 5 6 7)) (K8 kk12 0 1 5 6 7 8 34 35) = fun (env : aV) (h : Hp) =>
 bnd (aD .lss (env 35) (env 34) h) fun v1 h1 =>
 aT v1 (
 bnd (r 51 [(env 0), (env 8), (env 35)] h1) fun v2 h2 =>
 bnd (r 33 [(env 0), v2] h2) fun v3 h3 =>
 bnd (aC 0 v3 h3) fun v4 h4 =>
 bnd (aC 1 v3 h4) fun v5 h5 =>
 bnd (aL [(.s [])] 1 [(0, 1, v4)] h5) fun v6 h6 =>
 bnd (bA 1 16 (env 7) v6 h6) fun v7 h7 =>
 bnd (aD .add (env 35) (aE 1) h7) fun v8 h8 =>
      kk12 (env 0) (env 1) (env 5) (env 6) v7 (env 8) (env 34) v8 h8) (
      q2 (env 0) (env 1) (env 5) (env 6) (env 7) h1) := by kernel_rfl
theorem bGn (kk5 : dN) (kk12 : TT8) : (fun (env : aV) (h : Hp) =>
 bnd (aD .lss (env 35) (env 34) h) fun v1 h1 =>
 aT v1 (
 bnd (r 51 [(env 0), (env 8), (env 35)] h1) fun v2 h2 =>
 bnd (r 33 [(env 0), v2] h2) fun v3 h3 =>
 bnd (aC 0 v3 h3) fun v4 h4 =>
 bnd (aC 1 v3 h4) fun v5 h5 =>
 bnd (aL [(.s [])] 1 [(0, 1, v4)] h5) fun v6 h6 =>
 bnd (bA 1 16 (env 7) v6 h6) fun v7 h7 =>
 bnd (aD .add (env 35) (aE 1) h7) fun v8 h8 =>
      kk12 (env 0) (env 1) (env 5) (env 6) v7 (env 8) (env 34) v8 h8) (
      eF r n kk5 (env 0) (env 1) (env 5) (env 6) (env 7) h1)) = (K8 (aJo r n kk5 kk12) 0 1 5 6 7 8 34 35) := by kernel_rfl
theorem bNo (kk5 : dN) (kk12 : TT8) : D77 r n mC (xs (xs (xs x0 0 (K1 (cD r n) 5)) 1 (K4 (cV r n kk5) 0 1 5 6)) 2 (K5 (eF r n kk5) 0 1 5 6 7)) (K8 kk12 0 1 5 6 7 8 34 35) = (K8 (aJo r n kk5 kk12) 0 1 5 6 7 8 34 35) :=
 (bYt r n kk5 kk12 (cD r n) (cV r n kk5) (eF r n kk5)).trans (bGn r n kk5 kk12)
theorem bWh (kk5 : dN) (m : Nat) : aO (fun kk => D77 r n mC (xs (xs (xs x0 0 (K1 (cD r n) 5)) 1 (K4 (cV r n kk5) 0 1 5 6)) 2 (K5 (eF r n kk5) 0 1 5 6 7)) kk) m = (K8 (vF r n kk5 m) 0 1 5 6 7 8 34 35) := by
 induction m with
 | zero => exact (by kernel_rfl : aO (fun kk => D77 r n mC (xs (xs (xs x0 0 (K1 (cD r n) 5)) 1 (K4 (cV r n kk5) 0 1 5 6)) 2 (K5 (eF r n kk5) 0 1 5 6 7)) kk) 0 = (K8 (vF r n kk5 0) 0 1 5 6 7 8 34 35))
 | succ m ih =>
  refine (by kernel_rfl : aO (fun kk => D77 r n mC (xs (xs (xs x0 0 (K1 (cD r n) 5)) 1 (K4 (cV r n kk5) 0 1 5 6)) 2 (K5 (eF r n kk5) 0 1 5 6 7)) kk) (m + 1) = D77 r n mC (xs (xs (xs x0 0 (K1 (cD r n) 5)) 1 (K4 (cV r n kk5) 0 1 5 6)) 2 (K5 (eF r n kk5) 0 1 5 6 7)) (aO (fun kk => D77 r n mC (xs (xs (xs x0 0 (K1 (cD r n) 5)) 1 (K4 (cV r n kk5) 0 1 5 6)) 2 (K5 (eF r n kk5) 0 1 5 6 7)) kk) m)).trans ?_
  rw [ih]
  exact (bNo r n kk5 (vF r n kk5 m)).trans (by kernel_rfl)
theorem cQt (kk5 : dN) : D77 r n aGy (xs (xs (xs x0 0 (K1 (cD r n) 5)) 1 (K4 (cV r n kk5) 0 1 5 6)) 2 (K5 (eF r n kk5) 0 1 5 6 7)) (K5 (eF r n kk5) 0 1 5 6 7) = (K8 (bHd r n kk5) 0 1 5 6 7 8 34 35) :=
 (by kernel_rfl : D77 r n aGy (xs (xs (xs x0 0 (K1 (cD r n) 5)) 1 (K4 (cV r n kk5) 0 1 5 6)) 2 (K5 (eF r n kk5) 0 1 5 6 7)) (K5 (eF r n kk5) 0 1 5 6 7) = aO (fun kk => D77 r n mC (xs (xs (xs x0 0 (K1 (cD r n) 5)) 1 (K4 (cV r n kk5) 0 1 5 6)) 2 (K5 (eF r n kk5) 0 1 5 6 7)) kk) n).trans ((bWh r n kk5 n).trans (by kernel_rfl))
theorem cOm (kk5 : dN) : D77 r n aOe (xs (xs x0 0 (K1 (cD r n) 5)) 1 (K4 (cV r n kk5) 0 1 5 6)) (K5 (eF r n kk5) 0 1 5 6 7) = (K8 (aNz r n kk5) 0 1 5 6 7 8 34 35) :=
 (by kernel_rfl : D77 r n aOe (xs (xs x0 0 (K1 (cD r n) 5)) 1 (K4 (cV r n kk5) 0 1 5 6)) (K5 (eF r n kk5) 0 1 5 6 7) = D77 r n aGy (xs (xs (xs x0 0 (K1 (cD r n) 5)) 1 (K4 (cV r n kk5) 0 1 5 6)) 2 (K5 (eF r n kk5) 0 1 5 6 7)) (K5 (eF r n kk5) 0 1 5 6 7)).trans
 ((cQt r n kk5).trans (by kernel_rfl))
theorem cPj (kk5 : dN) : D77 r n aJh (xs (xs x0 0 (K1 (cD r n) 5)) 1 (K4 (cV r n kk5) 0 1 5 6)) (K4 (cV r n kk5) 0 1 5 6) = D77 r n yS (xs (xs x0 0 (K1 (cD r n) 5)) 1 (K4 (cV r n kk5) 0 1 5 6)) (K5 (eF r n kk5) 0 1 5 6 7) :=
 congrArg (fun k => D77 r n yS (xs (xs x0 0 (K1 (cD r n) 5)) 1 (K4 (cV r n kk5) 0 1 5 6)) k) (cKz r n kk5)
theorem cPq (kk5 : dN) : D77 r n yS (xs (xs x0 0 (K1 (cD r n) 5)) 1 (K4 (cV r n kk5) 0 1 5 6)) (K5 (eF r n kk5) 0 1 5 6 7) = D77 r n bLl (xs (xs x0 0 (K1 (cD r n) 5)) 1 (K4 (cV r n kk5) 0 1 5 6)) (K8 (aNz r n kk5) 0 1 5 6 7 8 34 35) :=
 congrArg (fun k => D77 r n bLl (xs (xs x0 0 (K1 (cD r n) 5)) 1 (K4 (cV r n kk5) 0 1 5 6)) k) (cOm r n kk5)
theorem dCy (kk5 : dN) : D77 r n aJh (xs (xs x0 0 (K1 (cD r n) 5)) 1 (K4 (cV r n kk5) 0 1 5 6)) (K4 (cV r n kk5) 0 1 5 6) = (K6 (bPh r n kk5) 0 1 5 6 7 8) :=
 (cPj r n kk5).trans
 ((cPq r n kk5).trans
 ((by kernel_rfl)))
theorem cHl (kk5 : dN) : D77 r n aFl (xs (xs x0 0 (K1 (cD r n) 5)) 1 (K4 (cV r n kk5) 0 1 5 6)) (K4 (cV r n kk5) 0 1 5 6) = D77 r n bLe (xs (xs x0 0 (K1 (cD r n) 5)) 1 (K4 (cV r n kk5) 0 1 5 6)) (K6 (bPh r n kk5) 0 1 5 6 7 8) :=
 congrArg (fun k => D77 r n bLe (xs (xs x0 0 (K1 (cD r n) 5)) 1 (K4 (cV r n kk5) 0 1 5 6)) k) (dCy r n kk5)
theorem dAe (kk5 : dN) : D77 r n aFl (xs (xs x0 0 (K1 (cD r n) 5)) 1 (K4 (cV r n kk5) 0 1 5 6)) (K4 (cV r n kk5) 0 1 5 6) = (K5 (bVp r n kk5) 0 1 5 6 7) :=
 (cHl r n kk5).trans
 ((by kernel_rfl))
theorem cBn (kk5 : dN) : D77 r n bAl (xs x0 0 (K1 (cD r n) 5)) (K4 kk5 0 1 5 6) = D77 r n aEw (xs x0 0 (K1 (cD r n) 5)) (K4 (cV r n kk5) 0 1 5 6) :=
 congrArg (fun k => D77 r n aEw (xs x0 0 (K1 (cD r n) 5)) k) (cVd r n kk5)
theorem cMu (kk5 : dN) : D77 r n aEt (xs (xs x0 0 (K1 (cD r n) 5)) 1 (K4 (cV r n kk5) 0 1 5 6)) (K4 (cV r n kk5) 0 1 5 6) = D77 r n bYe (xs (xs x0 0 (K1 (cD r n) 5)) 1 (K4 (cV r n kk5) 0 1 5 6)) (K5 (bVp r n kk5) 0 1 5 6 7) :=
 congrArg (fun k => D77 r n bYe (xs (xs x0 0 (K1 (cD r n) 5)) 1 (K4 (cV r n kk5) 0 1 5 6)) k) (dAe r n kk5)
theorem cWl (kk5 : dN) : D77 r n bAl (xs x0 0 (K1 (cD r n) 5)) (K4 kk5 0 1 5 6) = (K4 (bWm r n kk5) 0 1 5 6) :=
 (cBn r n kk5).trans
 ((by kernel_rfl : D77 r n aEw (xs x0 0 (K1 (cD r n) 5)) (K4 (cV r n kk5) 0 1 5 6) = D77 r n aEt (xs (xs x0 0 (K1 (cD r n) 5)) 1 (K4 (cV r n kk5) 0 1 5 6)) (K4 (cV r n kk5) 0 1 5 6)).trans
 ((cMu r n kk5).trans
 ((by kernel_rfl))))
theorem cNy (kk5 : dN) : D77 r n nO (xs x0 0 (K1 (cD r n) 5)) (K4 kk5 0 1 5 6) = D77 r n bIj (xs x0 0 (K1 (cD r n) 5)) (K4 (bWm r n kk5) 0 1 5 6) :=
 congrArg (fun k => D77 r n bIj (xs x0 0 (K1 (cD r n) 5)) k) (cWl r n kk5)
theorem cDr (kk5 : dN) : D77 r n nO (xs x0 0 (K1 (cD r n) 5)) (K4 kk5 0 1 5 6) = (K4 (bMs r n kk5) 0 1 5 6) :=
 (cNy r n kk5).trans
 ((by kernel_rfl))
theorem cDb (m : Nat) : aO (fun kk => D77 r n nO (xs x0 0 (K1 (cD r n) 5)) kk) m = (K4 (aCe r n m) 0 1 5 6) := by
 induction m with
 | zero => exact (by kernel_rfl : aO (fun kk => D77 r n nO (xs x0 0 (K1 (cD r n) 5)) kk) 0 = (K4 (aCe r n 0) 0 1 5 6))
 | succ m ih =>
  refine (by kernel_rfl : aO (fun kk => D77 r n nO (xs x0 0 (K1 (cD r n) 5)) kk) (m + 1) = D77 r n nO (xs x0 0 (K1 (cD r n) 5)) (aO (fun kk => D77 r n nO (xs x0 0 (K1 (cD r n) 5)) kk) m)).trans ?_
  rw [ih]
  exact (cDr r n (aCe r n m)).trans (by kernel_rfl)
theorem cWp : D77 r n aXj (xs x0 0 (K1 (cD r n) 5)) (K1 (cD r n) 5) = (K4 (cRu r n) 0 1 5 6) :=
 (by kernel_rfl : D77 r n aXj (xs x0 0 (K1 (cD r n) 5)) (K1 (cD r n) 5) = aO (fun kk => D77 r n nO (xs x0 0 (K1 (cD r n) 5)) kk) n).trans ((cDb r n n).trans (by kernel_rfl))
theorem dEk : D77 r n bTt x0 (K1 (cD r n) 5) = (K4 (bJo r n) 0 1 5 6) :=
 (by kernel_rfl : D77 r n bTt x0 (K1 (cD r n) 5) = D77 r n aXj (xs x0 0 (K1 (cD r n) 5)) (K1 (cD r n) 5)).trans
 ((cWp r n).trans (by kernel_rfl))
theorem cKt : D77 r n aVj x0 r77 = D77 r n aMx x0 (K1 (cD r n) 5) :=
 congrArg (fun k => D77 r n aMx x0 k) (dAf r n)
theorem cJy : D77 r n aMx x0 (K1 (cD r n) 5) = D77 r n bJh x0 (K4 (bJo r n) 0 1 5 6) :=
 congrArg (fun k => D77 r n bJh x0 k) (dEk r n)
theorem cZi : D77 r n aVj x0 r77 = (K3 (bSf r n) 0 1 5) :=
 (cKt r n).trans
 ((cJy r n).trans
 ((by kernel_rfl)))
theorem bZc : D77 r n aYo x0 r77 = D77 r n bPp x0 (K3 (bSf r n) 0 1 5) :=
 congrArg (fun k => D77 r n bPp x0 k) (cZi r n)
theorem dDz : D77 r n aYo x0 r77 = (K2 (cAk r n) 0 1) :=
 (bZc r n).trans
 ((by kernel_rfl))
theorem dEg : D77 r n c77 x0 r77 = D77 r n bWt x0 (K2 (cAk r n) 0 1) :=
 congrArg (fun k => D77 r n bWt x0 k) (dDz r n)
theorem dQy : D77 r n c77 x0 r77 = (K2 (s77 r n) 0 1) :=
 (dEg r n).trans
 ((by kernel_rfl))
theorem dKf : aF CF r n 77 args h = s77 r n (aU args 0) (aU args 1) h :=
 (by kernel_rfl : aF CF r n 77 args h = D77 r n c77 x0 r77 (aI args) h).trans ((congrFun (congrFun (dQy r n) (aI args)) h).trans (by kernel_rfl))
noncomputable def gY (r : RT) (n : Nat) (x10 : DV) (h0 : Hp) : aH :=
 some (.t [x10, (aE 0)], h0)
noncomputable def qW (r : RT) (n : Nat) (kk6 : cH) (x0 x10 x29 x30 x31 : DV) (h0 : Hp) : aH :=
 bnd (aD .lss x31 x30 h0) fun v1 h1 =>
 aT v1 (
 bnd (aJ 1 x29 x31 h1) fun v2 h2 =>
 bnd (aA v2 h2) fun v3 h3 =>
 bnd (aN x0 h3) fun v4 h4 =>
 bnd (aB 0 v4 h4) fun v5 h5 =>
 bnd (aA v5 h5) fun v6 h6 =>
 bnd (nL [v6, x10, x31, v3] h6) fun v7 h7 =>
 bnd (aD .add x31 (aE 1) h7) fun v8 h8 =>
      kk6 x0 x10 x29 x30 v8 h8) (
      gY r n x10 h1)
noncomputable def nY (r : RT) (n : Nat) (m : Nat) : cH :=
 Nat.rec (motive := fun _ => cH) (fun _ _ _ _ _ _ => none) (fun _ ih => qW r n ih) m
noncomputable def bLt (r : RT) (n : Nat) : cH := nY r n n
noncomputable def bBj (r : RT) (n : Nat) (x0 x10 x29 x30 x31 : DV) (h0 : Hp) : aH :=
 bLt r n x0 x10 x29 x30 x31 h0
noncomputable def aYx (r : RT) (n : Nat) (x0 x3 x10 : DV) (h0 : Hp) : aH :=
 bnd (cA x3 h0) fun v1 h1 =>
  bBj r n x0 x10 x3 v1 (aE 0) h1
noncomputable def bBz (r : RT) (n : Nat) (x0 x3 x10 x11 : DV) (h0 : Hp) : aH :=
 bnd (aD .neq x11 (aE 0) h0) fun v1 h1 =>
 aT v1 (
 some (.t [(aE 0), x11], h1)) (
  aYx r n x0 x3 x10 h1)
noncomputable def aZk (r : RT) (n : Nat) (x0 x1 x2 x3 : DV) (h0 : Hp) : aH :=
 bnd (aN x0 h0) fun v1 h1 =>
 bnd (aB 0 v1 h1) fun v2 h2 =>
 bnd (aA v2 h2) fun v3 h3 =>
 bnd (cA x3 h3) fun v4 h4 =>
 bnd (iZ [v3, x1, x2, v4] h4) fun v5 h5 =>
 bnd (aC 0 v5 h5) fun v6 h6 =>
 bnd (aC 1 v5 h6) fun v7 h7 =>
  bBz r n x0 x3 v6 v7 h7
noncomputable def s82 (r : RT) (n : Nat) (x0 x1 x2 x3 : DV) (h0 : Hp) : aH :=
 aZk r n x0 x1 x2 x3 h0
noncomputable abbrev c82 : Code := cf Tryz.f82
noncomputable abbrev aVa : Code := cR c82
noncomputable abbrev aZd : Code := cR aVa
noncomputable abbrev aWn : Code := cR aZd
noncomputable abbrev dLd : Code := cR aWn
noncomputable abbrev aMa : Code := cL aWn
noncomputable abbrev bZl : Code := cR aMa
noncomputable abbrev aYi : Code := cL bZl
noncomputable abbrev yQ : Code := cL aYi
noncomputable abbrev cRd : Code := cL aMa
noncomputable abbrev bHz : Code := cL aZd
noncomputable abbrev bYo : Code := cL aVa
noncomputable abbrev bTe : Code := cL c82
noncomputable abbrev r82 : K := aR CF Tryz.f82
noncomputable def D82 (r : RT) (n : Nat) (c : Code) (X : Nat → K) (k : K) : K := aM CF r 46 n c X r82 k
theorem dEs : D82 r n dLd x0 r82 = (K1 (gY r n) 10) :=
 (by kernel_rfl)
theorem cNg (kk6 : cH) : D82 r n yQ (xs x0 0 (K1 (gY r n) 10)) (K5 kk6 0 10 29 30 31) = (K5 (qW r n kk6) 0 10 29 30 31) :=
 (by kernel_rfl)
theorem cHw (m : Nat) : aO (fun kk => D82 r n yQ (xs x0 0 (K1 (gY r n) 10)) kk) m = (K5 (nY r n m) 0 10 29 30 31) := by
 induction m with
 | zero => exact (by kernel_rfl : aO (fun kk => D82 r n yQ (xs x0 0 (K1 (gY r n) 10)) kk) 0 = (K5 (nY r n 0) 0 10 29 30 31))
 | succ m ih =>
  refine (by kernel_rfl : aO (fun kk => D82 r n yQ (xs x0 0 (K1 (gY r n) 10)) kk) (m + 1) = D82 r n yQ (xs x0 0 (K1 (gY r n) 10)) (aO (fun kk => D82 r n yQ (xs x0 0 (K1 (gY r n) 10)) kk) m)).trans ?_
  rw [ih]
  exact (cNg r n (nY r n m)).trans (by kernel_rfl)
theorem cYl : D82 r n aYi (xs x0 0 (K1 (gY r n) 10)) (K1 (gY r n) 10) = (K5 (bLt r n) 0 10 29 30 31) :=
 (by kernel_rfl : D82 r n aYi (xs x0 0 (K1 (gY r n) 10)) (K1 (gY r n) 10) = aO (fun kk => D82 r n yQ (xs x0 0 (K1 (gY r n) 10)) kk) n).trans ((cHw r n n).trans (by kernel_rfl))
theorem dCk : D82 r n bZl x0 (K1 (gY r n) 10) = (K5 (bBj r n) 0 10 29 30 31) :=
 (by kernel_rfl : D82 r n bZl x0 (K1 (gY r n) 10) = D82 r n aYi (xs x0 0 (K1 (gY r n) 10)) (K1 (gY r n) 10)).trans
 ((cYl r n).trans (by kernel_rfl))
theorem cCb : D82 r n aWn x0 r82 = D82 r n aMa x0 (K1 (gY r n) 10) :=
 congrArg (fun k => D82 r n aMa x0 k) (dEs r n)
theorem cKs : D82 r n aMa x0 (K1 (gY r n) 10) = D82 r n cRd x0 (K5 (bBj r n) 0 10 29 30 31) :=
 congrArg (fun k => D82 r n cRd x0 k) (dCk r n)
theorem dEw : D82 r n aWn x0 r82 = (K3 (aYx r n) 0 3 10) :=
 (cCb r n).trans
 ((cKs r n).trans
 ((by kernel_rfl)))
theorem cOr : D82 r n aZd x0 r82 = D82 r n bHz x0 (K3 (aYx r n) 0 3 10) :=
 congrArg (fun k => D82 r n bHz x0 k) (dEw r n)
theorem cYn : D82 r n aZd x0 r82 = (K4 (bBz r n) 0 3 10 11) :=
 (cOr r n).trans
 ((by kernel_rfl))
theorem cPd : D82 r n aVa x0 r82 = D82 r n bYo x0 (K4 (bBz r n) 0 3 10 11) :=
 congrArg (fun k => D82 r n bYo x0 k) (cYn r n)
theorem cZg : D82 r n aVa x0 r82 = (K4 (aZk r n) 0 1 2 3) :=
 (cPd r n).trans
 ((by kernel_rfl))
theorem dLp : D82 r n c82 x0 r82 = D82 r n bTe x0 (K4 (aZk r n) 0 1 2 3) :=
 congrArg (fun k => D82 r n bTe x0 k) (cZg r n)
theorem dOd : D82 r n c82 x0 r82 = (K4 (s82 r n) 0 1 2 3) :=
 (dLp r n).trans
 ((by kernel_rfl))
theorem cRs : aF CF r n 82 args h = s82 r n (aU args 0) (aU args 1) (aU args 2) (aU args 3) h :=
 (by kernel_rfl : aF CF r n 82 args h = D82 r n c82 x0 r82 (aI args) h).trans ((congrFun (congrFun (dOd r n) (aI args)) h).trans (by kernel_rfl))
noncomputable def fS (r : RT) (n : Nat) (x0 x1 x8 : DV) (h0 : Hp) : aH :=
 bnd (r 82 [x0, x1, (aE 2), x8] h0) fun v1 h1 =>
 bnd (aC 0 v1 h1) fun v2 h2 =>
 bnd (aC 1 v1 h2) fun v3 h3 =>
 some (.t [v2, v3], h3)
noncomputable def oK (r : RT) (n : Nat) (kk5 : fI) (x0 x1 x2 x8 x11 x12 : DV) (h0 : Hp) : aH :=
 bnd (aD .lss x12 x11 h0) fun v1 h1 =>
 aT v1 (
 bnd (fK x2 x12 h1) fun v2 h2 =>
 bnd (eG .i64 v2 h2) fun v3 h3 =>
 bnd (aL [(aE 0)] 1 [(0, 1, v3)] h3) fun v4 h4 =>
 bnd (bA 1 8 x8 v4 h4) fun v5 h5 =>
 bnd (aD .add x12 (aE 1) h5) fun v6 h6 =>
      kk5 x0 x1 x2 v5 x11 v6 h6) (
      fS r n x0 x1 x8 h1)
noncomputable def oX (r : RT) (n : Nat) (m : Nat) : fI :=
 Nat.rec (motive := fun _ => fI) (fun _ _ _ _ _ _ _ => none) (fun _ ih => oK r n ih) m
noncomputable def bVr (r : RT) (n : Nat) : fI := oX r n n
noncomputable def aXo (r : RT) (n : Nat) (x0 x1 x2 x8 x11 x12 : DV) (h0 : Hp) : aH :=
 bVr r n x0 x1 x2 x8 x11 x12 h0
noncomputable def bAz (r : RT) (n : Nat) (x0 x1 x2 x8 : DV) (h0 : Hp) : aH :=
 bnd (dW x2 h0) fun v1 h1 =>
  aXo r n x0 x1 x2 x8 v1 (aE 0) h1
noncomputable def aYs (r : RT) (n : Nat) (x0 x1 x2 : DV) (h0 : Hp) : aH :=
 bAz r n x0 x1 x2 .l0 h0
noncomputable def s83 (r : RT) (n : Nat) (x0 x1 x2 : DV) (h0 : Hp) : aH :=
 aYs r n x0 x1 x2 h0
noncomputable abbrev c83 : Code := cf Tryz.f83
noncomputable abbrev bAj : Code := cR c83
noncomputable abbrev aWu : Code := cR bAj
noncomputable abbrev dHt : Code := cR aWu
noncomputable abbrev aLo : Code := cL aWu
noncomputable abbrev bJg : Code := cR aLo
noncomputable abbrev aXu : Code := cL bJg
noncomputable abbrev sR : Code := cL aXu
noncomputable abbrev cSq : Code := cL aLo
noncomputable abbrev cRi : Code := cL bAj
noncomputable abbrev bTb : Code := cL c83
noncomputable abbrev r83 : K := aR CF Tryz.f83
noncomputable def D83 (r : RT) (n : Nat) (c : Code) (X : Nat → K) (k : K) : K := aM CF r 29 n c X r83 k
theorem dAt : D83 r n dHt x0 r83 = (K3 (fS r n) 0 1 8) :=
 (by kernel_rfl)
theorem cQx (kk5 : fI) (q0 : mF) : D83 r n sR (xs x0 0 (K3 q0 0 1 8)) (K6 kk5 0 1 2 8 11 12) = fun (env : aV) (h : Hp) =>
 bnd (aD .lss (env 12) (env 11) h) fun v1 h1 =>
 aT v1 (
 bnd (fK (env 2) (env 12) h1) fun v2 h2 =>
 bnd (eG .i64 v2 h2) fun v3 h3 =>
 bnd (aL [(aE 0)] 1 [(0, 1, v3)] h3) fun v4 h4 =>
 bnd (bA 1 8 (env 8) v4 h4) fun v5 h5 =>
 bnd (aD .add (env 12) (aE 1) h5) fun v6 h6 =>
      kk5 (env 0) (env 1) (env 2) v5 (env 11) v6 h6) (
      q0 (env 0) (env 1) (env 8) h1) := by kernel_rfl
theorem bJn (kk5 : fI) : (fun (env : aV) (h : Hp) =>
 bnd (aD .lss (env 12) (env 11) h) fun v1 h1 =>
 aT v1 (
 bnd (fK (env 2) (env 12) h1) fun v2 h2 =>
 bnd (eG .i64 v2 h2) fun v3 h3 =>
 bnd (aL [(aE 0)] 1 [(0, 1, v3)] h3) fun v4 h4 =>
 bnd (bA 1 8 (env 8) v4 h4) fun v5 h5 =>
 bnd (aD .add (env 12) (aE 1) h5) fun v6 h6 =>
      kk5 (env 0) (env 1) (env 2) v5 (env 11) v6 h6) (
      fS r n (env 0) (env 1) (env 8) h1)) = (K6 (oK r n kk5) 0 1 2 8 11 12) := by kernel_rfl
theorem cJf (kk5 : fI) : D83 r n sR (xs x0 0 (K3 (fS r n) 0 1 8)) (K6 kk5 0 1 2 8 11 12) = (K6 (oK r n kk5) 0 1 2 8 11 12) :=
 (cQx r n kk5 (fS r n)).trans (bJn r n kk5)
theorem cBw (m : Nat) : aO (fun kk => D83 r n sR (xs x0 0 (K3 (fS r n) 0 1 8)) kk) m = (K6 (oX r n m) 0 1 2 8 11 12) := by
 induction m with
 | zero => exact (by kernel_rfl : aO (fun kk => D83 r n sR (xs x0 0 (K3 (fS r n) 0 1 8)) kk) 0 = (K6 (oX r n 0) 0 1 2 8 11 12))
 | succ m ih =>
  refine (by kernel_rfl : aO (fun kk => D83 r n sR (xs x0 0 (K3 (fS r n) 0 1 8)) kk) (m + 1) = D83 r n sR (xs x0 0 (K3 (fS r n) 0 1 8)) (aO (fun kk => D83 r n sR (xs x0 0 (K3 (fS r n) 0 1 8)) kk) m)).trans ?_
  rw [ih]
  exact (cJf r n (oX r n m)).trans (by kernel_rfl)
theorem dAi : D83 r n aXu (xs x0 0 (K3 (fS r n) 0 1 8)) (K3 (fS r n) 0 1 8) = (K6 (bVr r n) 0 1 2 8 11 12) :=
 (by kernel_rfl : D83 r n aXu (xs x0 0 (K3 (fS r n) 0 1 8)) (K3 (fS r n) 0 1 8) = aO (fun kk => D83 r n sR (xs x0 0 (K3 (fS r n) 0 1 8)) kk) n).trans ((cBw r n n).trans (by kernel_rfl))
theorem dBj : D83 r n bJg x0 (K3 (fS r n) 0 1 8) = (K6 (aXo r n) 0 1 2 8 11 12) :=
 (by kernel_rfl : D83 r n bJg x0 (K3 (fS r n) 0 1 8) = D83 r n aXu (xs x0 0 (K3 (fS r n) 0 1 8)) (K3 (fS r n) 0 1 8)).trans
 ((dAi r n).trans (by kernel_rfl))
theorem cOs : D83 r n aWu x0 r83 = D83 r n aLo x0 (K3 (fS r n) 0 1 8) :=
 congrArg (fun k => D83 r n aLo x0 k) (dAt r n)
theorem cKd : D83 r n aLo x0 (K3 (fS r n) 0 1 8) = D83 r n cSq x0 (K6 (aXo r n) 0 1 2 8 11 12) :=
 congrArg (fun k => D83 r n cSq x0 k) (dBj r n)
theorem cWe : D83 r n aWu x0 r83 = (K4 (bAz r n) 0 1 2 8) :=
 (cOs r n).trans
 ((cKd r n).trans
 ((by kernel_rfl)))
theorem cIw : D83 r n bAj x0 r83 = D83 r n cRi x0 (K4 (bAz r n) 0 1 2 8) :=
 congrArg (fun k => D83 r n cRi x0 k) (cWe r n)
theorem cVw : D83 r n bAj x0 r83 = (K3 (aYs r n) 0 1 2) :=
 (cIw r n).trans
 ((by kernel_rfl))
theorem dIw : D83 r n c83 x0 r83 = D83 r n bTb x0 (K3 (aYs r n) 0 1 2) :=
 congrArg (fun k => D83 r n bTb x0 k) (cVw r n)
theorem dQc : D83 r n c83 x0 r83 = (K3 (s83 r n) 0 1 2) :=
 (dIw r n).trans
 ((by kernel_rfl))
theorem cSc : aF CF r n 83 args h = s83 r n (aU args 0) (aU args 1) (aU args 2) h :=
 (by kernel_rfl : aF CF r n 83 args h = D83 r n c83 x0 r83 (aI args) h).trans ((congrFun (congrFun (dQc r n) (aI args)) h).trans (by kernel_rfl))
noncomputable def s84 (r : RT) (n : Nat) (x0 x1 : DV) (h0 : Hp) : aH :=
 bnd (aA x1 h0) fun v1 h1 =>
 bnd (aN v1 h1) fun v2 h2 =>
 bnd (aB 0 v2 h2) fun v3 h3 =>
 bnd (aA v3 h3) fun v4 h4 =>
 bnd (aAg [v4, x0] h4) fun v5 h5 =>
 bnd (gQ .not v5 h5) fun v6 h6 =>
 some (v6, h6)
noncomputable abbrev c84 : Code := cf Tryz.f84
noncomputable abbrev r84 : K := aR CF Tryz.f84
noncomputable def D84 (r : RT) (n : Nat) (c : Code) (X : Nat → K) (k : K) : K := aM CF r 11 n c X r84 k
theorem dPr : D84 r n c84 x0 r84 = (K2 (s84 r n) 0 1) :=
 (by kernel_rfl)
theorem cRw : aF CF r n 84 args h = s84 r n (aU args 0) (aU args 1) h :=
 (by kernel_rfl : aF CF r n 84 args h = D84 r n c84 x0 r84 (aI args) h).trans ((congrFun (congrFun (dPr r n) (aI args)) h).trans (by kernel_rfl))
noncomputable def gX (r : RT) (n : Nat) (h0 : Hp) : aH :=
 some ((.i .i64 (Int.negSucc 0)), h0)
noncomputable def gS (r : RT) (n : Nat) (kk4 : dN) (x0 x1 x7 x8 : DV) (h0 : Hp) : aH :=
 bnd (aD .lss x8 x7 h0) fun v1 h1 =>
 aT v1 (
 bnd (aJ 1 x0 x8 h1) fun v2 h2 =>
 bnd (aA v2 h2) fun v3 h3 =>
 bnd (cX CF r x1 [v3] h3) fun v4 h4 =>
 aT v4 (
 some (x8, h4)) (
 bnd (aD .add x8 (aE 1) h4) fun v5 h5 =>
    kk4 x0 x1 x7 v5 h5)) (
      gX r n h1)
noncomputable def iW (r : RT) (n : Nat) (m : Nat) : dN :=
 Nat.rec (motive := fun _ => dN) (fun _ _ _ _ _ => none) (fun _ ih => gS r n ih) m
noncomputable def bBp (r : RT) (n : Nat) : dN := iW r n n
noncomputable def aLr (r : RT) (n : Nat) (x0 x1 x7 x8 : DV) (h0 : Hp) : aH :=
 bBp r n x0 x1 x7 x8 h0
noncomputable def aMv (r : RT) (n : Nat) (x0 x1 : DV) (h0 : Hp) : aH :=
 bnd (cA x0 h0) fun v1 h1 =>
  aLr r n x0 x1 v1 (aE 0) h1
noncomputable def s89 (r : RT) (n : Nat) (x0 x1 : DV) (h0 : Hp) : aH :=
 aMv r n x0 x1 h0
noncomputable abbrev c89 : Code := cf Tryz.f89
noncomputable abbrev aXr : Code := cR c89
noncomputable abbrev dJd : Code := cR aXr
noncomputable abbrev aNe : Code := cL aXr
noncomputable abbrev bHc : Code := cR aNe
noncomputable abbrev aVb : Code := cL bHc
noncomputable abbrev zC : Code := cL aVb
noncomputable abbrev cSt : Code := cL aNe
noncomputable abbrev cSd : Code := cL c89
noncomputable abbrev r89 : K := aR CF Tryz.f89
noncomputable def D89 (r : RT) (n : Nat) (c : Code) (X : Nat → K) (k : K) : K := aM CF r 19 n c X r89 k
theorem cWn : D89 r n dJd x0 r89 = (K0 (gX r n)) :=
 (by kernel_rfl)
theorem cPw (kk4 : dN) : D89 r n zC (xs x0 0 (K0 (gX r n))) (K4 kk4 0 1 7 8) = (K4 (gS r n kk4) 0 1 7 8) :=
 (by kernel_rfl)
theorem cEf (m : Nat) : aO (fun kk => D89 r n zC (xs x0 0 (K0 (gX r n))) kk) m = (K4 (iW r n m) 0 1 7 8) := by
 induction m with
 | zero => exact (by kernel_rfl : aO (fun kk => D89 r n zC (xs x0 0 (K0 (gX r n))) kk) 0 = (K4 (iW r n 0) 0 1 7 8))
 | succ m ih =>
  refine (by kernel_rfl : aO (fun kk => D89 r n zC (xs x0 0 (K0 (gX r n))) kk) (m + 1) = D89 r n zC (xs x0 0 (K0 (gX r n))) (aO (fun kk => D89 r n zC (xs x0 0 (K0 (gX r n))) kk) m)).trans ?_
  rw [ih]
  exact (cPw r n (iW r n m)).trans (by kernel_rfl)
theorem dAo : D89 r n aVb (xs x0 0 (K0 (gX r n))) (K0 (gX r n)) = (K4 (bBp r n) 0 1 7 8) :=
 (by kernel_rfl : D89 r n aVb (xs x0 0 (K0 (gX r n))) (K0 (gX r n)) = aO (fun kk => D89 r n zC (xs x0 0 (K0 (gX r n))) kk) n).trans ((cEf r n n).trans (by kernel_rfl))
theorem dCv : D89 r n bHc x0 (K0 (gX r n)) = (K4 (aLr r n) 0 1 7 8) :=
 (by kernel_rfl : D89 r n bHc x0 (K0 (gX r n)) = D89 r n aVb (xs x0 0 (K0 (gX r n))) (K0 (gX r n))).trans
 ((dAo r n).trans (by kernel_rfl))
theorem cLw : D89 r n aXr x0 r89 = D89 r n aNe x0 (K0 (gX r n)) :=
 congrArg (fun k => D89 r n aNe x0 k) (cWn r n)
theorem cMi : D89 r n aNe x0 (K0 (gX r n)) = D89 r n cSt x0 (K4 (aLr r n) 0 1 7 8) :=
 congrArg (fun k => D89 r n cSt x0 k) (dCv r n)
theorem cUl : D89 r n aXr x0 r89 = (K2 (aMv r n) 0 1) :=
 (cLw r n).trans
 ((cMi r n).trans
 ((by kernel_rfl)))
theorem dHb : D89 r n c89 x0 r89 = D89 r n cSd x0 (K2 (aMv r n) 0 1) :=
 congrArg (fun k => D89 r n cSd x0 k) (cUl r n)
theorem dPt : D89 r n c89 x0 r89 = (K2 (s89 r n) 0 1) :=
 (dHb r n).trans
 ((by kernel_rfl))
theorem bOe : aF CF r n 89 args h = s89 r n (aU args 0) (aU args 1) h :=
 (by kernel_rfl : aF CF r n 89 args h = D89 r n c89 x0 r89 (aI args) h).trans ((congrFun (congrFun (dPt r n) (aI args)) h).trans (by kernel_rfl))
end Go.Dd

