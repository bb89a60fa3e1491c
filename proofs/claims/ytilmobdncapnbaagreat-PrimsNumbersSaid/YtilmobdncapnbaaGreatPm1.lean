/- A part of the proof: N O CH RF1 RF2 RF3 RF4 RF5 RF6 RF7 SM SN RS RG MF Qh Q0 Q1: each text has a comment of its own. -/
import Derived.Test.YtilmobdncapnbaaGreatPm0
import Derived.LoopN
import Derived.Scope
import Derived.OrdersIn
import Derived.LoopNIn
import Derived.LoopIn
import Derived.RangeFuncIn
import Derived.RangeFuncCalls
import Derived.RangeFuncLeaves
import Derived.Test.YtilmobdncapnbaaGreatProg
import Derived.KernelRfl
set_option linter.unusedVariables false
set_option linter.unusedSimpArgs false
set_option linter.constructorNameAsVariable false
set_option maxRecDepth 100000
namespace Go.Dd
open Go.RowKit (Below)
section
variable {C : Cfg} {G : Gd} {rec : FuncId → List DV → Hp → aI} {ops : Array Oper} {nt : Nat} {p0 : Pos}
theorem pZ {listed : Array Bool} {i : Nat} : i ∈ Region.ready .any ops listed ↔ i < ops.size ∧ listed.getD i true = false ∧ ∃ o, ops[i]? = some o ∧ ∀ e ∈ o.after, Region.binds .any e = true → listed.getD e.on false = true := by
 unfold Region.ready
 rw [List.mem_filter]
 simp only [List.mem_range, Bool.and_eq_true, Bool.not_eq_eq_eq_not, Bool.not_true]
 constructor
 ·rintro ⟨h1, h2, h3⟩
  refine ⟨h1, h2, ops[i], by simp [h1], fun e he hb => ?_⟩
  simp only [h1, getElem?_pos, Option.map_some, Option.getD_some] at h3
  have := (Array.all_eq_true_iff_forall_mem.1 h3) e he
  simpa [hb] using this
 ·rintro ⟨h1, h2, o, ho, h3⟩
  refine ⟨h1, h2, ?_⟩
  simp only [ho, Option.map_some, Option.getD_some]
  refine Array.all_eq_true_iff_forall_mem.2 fun e he => ?_
  cases hb : Region.binds .any e with
  | false => simp
  | true => simp [h3 e he hb]
noncomputable def idp (C : Cfg) (ops : Array Oper) (p0 : Pos) (p : Nat) : Pos := bW (cD C.P (ops.toList.take p)) p0
structure Tr1 (C : Cfg) (rec : FuncId → List DV → Hp → aI) (ops : Array Oper) (nt : Nat) (p0 : Pos) (E : Nat → aW) (Hh : Nat → Hp) (V : Nat → DV) : Prop where
 ok : fE C.P ops = true
 st : ∀ p o, ops[p]? = some o → StepT C rec ops (Region.before ops) nt (idp C ops p0 p) E Hh V 0 [(none, Hh 0)] p o
theorem Tr1.same {E : Nat → aW} {Hh : Nat → Hp} {V : Nat → DV} (T : Tr1 C rec ops nt p0 E Hh V) {p : Nat} {o : Oper} (ho : ops[p]? = some o) (hc : bU C.P o.op ≠ .acts) (hm : bU C.P o.op ≠ .makes) : Hh (p + 1) = Hh p := by
 have hs := (T.st p o ho).step hm
 cases hcl : bU C.P o.op with
 | pure => exact (qL hcl _ _ _ hs).1
 | reads => exact oA hcl hs
 | makes => exact absurd hcl hm
 | acts => exact absurd hcl hc
def dCr (C : Cfg) (ops : Array Oper) (q : Nat) : Prop := q = 0 ∨ ∃ j oj, ops[j]? = some oj ∧ bU C.P oj.op = .acts ∧ q = j + 1
theorem oF {m : Array Nat} {i q : Nat} {Pv : Hp → Prop} {Hh : Nat → Hp} {tl : List (Option Nat × Hp)} : ∀ d, q ≤ d → qZ m i Pv (iE C ops Hh 0 d ++ tl) →
  (∀ j oj, ops[j]? = some oj → bU C.P oj.op = .acts → q ≤ j → j < d → ¬ gB m j i = true) → qZ m i Pv (iE C ops Hh 0 q ++ tl)
 | 0, hq, hc, _ => by have : q = 0 := by omega
                      subst this; exact hc
 | d + 1, hq, hc, hno => by
  by_cases e : q = d + 1
  ·subst e; exact hc
  ·have hq' : q ≤ d := by omega
   simp only [iE, Nat.zero_add] at hc
   cases ha : jK C ops d with
   | false =>
    rw [ha] at hc
    simp only [Bool.false_eq_true, if_false, List.nil_append] at hc
    exact oF d hq' hc fun j oj h1 h2 h3 h4 => hno j oj h1 h2 h3 (by omega)
   | true =>
    rw [ha] at hc
    simp only [if_true, List.cons_append, List.nil_append] at hc
    obtain ⟨_, h2⟩ := hc
    have ⟨oj, hoj, hcj⟩ : ∃ oj, ops[d]? = some oj ∧ bU C.P oj.op = .acts := by
     unfold jK at ha
     split at ha
     ·rename_i o ho; exact ⟨o, ho, by simpa using ha⟩
     ·cases ha
    rcases h2 with h2 | h2
    ·exact absurd h2 (hno d oj hoj hcj hq' (by omega))
    ·exact oF d hq' h2 fun j oj h1 h2 h3 h4 => hno j oj h1 h2 h3 (by omega)
theorem Tr1.value {E : Nat → aW} {Hh : Nat → Hp} {V : Nat → DV} (T : Tr1 C rec ops nt p0 E Hh V) {listed : Array Bool} {i q : Nat} {o : Oper} (ho : ops[i]? = some o) (hc : bU C.P o.op ≠ .acts) (hm : bU C.P o.op ≠ .makes)
  (hq : dCr C ops q) (hgap : ∀ j oj, ops[j]? = some oj → bU C.P oj.op = .acts → (j < q ↔ S listed j))
  (hni : ¬ S listed i) (hdown : ∀ j x, gB (Region.before ops) j x = true → S listed x → S listed j) (hpre : ∀ j, gB (Region.before ops) j i = true → S listed j) :
  bM C rec ops o (E i) (Hh q) = some (V i, Hh q) := by
 have hst := T.st i o ho
 cases hcl : bU C.P o.op with
 | acts => exact absurd hcl hc
 | makes => exact absurd hcl hm
 | pure => exact (qL hcl _ _ _ (hst.step hm)).2 _
 | reads =>
  rcases Nat.lt_or_ge i q with h | h
  ·rcases hq with rfl | ⟨j, oj, hj, haj, rfl⟩
   ·omega
   ·have hSj : S listed j := (hgap j oj hj haj).1 (by omega)
    have hij : i ≠ j := fun e => by subst e; exact hni hSj
    rcases (T.st j oj hj).acts haj i o (Nat.zero_le _) (by omega) ho hcl with h3 | h3
    ·exact absurd (hdown i j h3 hSj) hni
    ·exact rW hcl h3
  ·have h1 := hst.reads hcl
   rw [Nat.sub_zero] at h1
   have h2 := oF (q := q) i h h1 fun j oj hj haj hqj hji hord => by
    have := (hgap j oj hj haj).2 (hpre j hord)
    omega
   rcases hq with rfl | ⟨j, oj, hj, haj, rfl⟩
   ·exact h2.1
   ·simp only [iE, Nat.zero_add, (bEx hj).2 haj, if_true, List.cons_append, List.nil_append] at h2
    exact h2.1
theorem cQx {listed : Array Bool} {i j : Nat} (hi : i < listed.size) : S (listed.setIfInBounds i true) j ↔ (j = i ∨ S listed j) := by
 unfold S
 by_cases e : j = i
 ·subst e; simp [hi]
 ·simp [Array.getElem?_setIfInBounds_ne (Ne.symm e), e]
theorem pW {listed : Array Bool} {i : Nat} (hi : i < listed.size) : listed.getD i true = listed.getD i false := by
 simp [hi]
theorem dBf {V : Nat → DV} {env : aW} {listed : Array Bool} {i : Nat} {o : Oper} (ho : ops[i]? = some o) (hi : i < listed.size) (hni : ¬ S listed i) (t : Nat)
  (hlast : ∀ j oj, i < j → ops[j]? = some oj → oj.dst = some t → o.dst = some t → ¬ S listed j) :
  ∀ p, i < p → TS ops V env (listed.setIfInBounds i true) p t = if o.dst = some t then V i else TS ops V env listed p t := by
 have hbefore : ∀ p, p ≤ i → TS ops V env (listed.setIfInBounds i true) p = TS ops V env listed p := by
  intro p
  induction p with
  | zero => intro _; rfl
  | succ p ih =>
   intro h
   have e : (listed.setIfInBounds i true).getD p false = listed.getD p false := by simp [Array.getElem?_setIfInBounds_ne (show i ≠ p by omega)]
   simp only [TS, ih (by omega), e]
 intro p
 induction p with
 | zero => intro h; omega
 | succ p ih =>
  intro h
  by_cases hpi : p = i
  ·subst hpi
   have e1 : (listed.setIfInBounds p true).getD p false = true := by simp [hi]
   have e2 : ¬ listed.getD p false = true := hni
   simp only [TS, ho, hbefore p (Nat.le_refl _), e1, if_true, lN]
   rw [if_neg e2]
  ·have ih' := ih (by omega)
   have e : (listed.setIfInBounds i true).getD p false = listed.getD p false := by simp [Array.getElem?_setIfInBounds_ne (Ne.symm hpi)]
   cases hop : ops[p]? with
   | none => simp only [TS, hop]; exact ih'
   | some op =>
    simp only [TS, hop, e]
    split
    ·rename_i hl
     rw [lN, lN, ih']
     by_cases hd : op.dst = some t
     ·rw [if_pos hd, if_pos hd]
      by_cases hod : o.dst = some t
      ·exact absurd hl (hlast p op (by omega) hop hd hod)
      ·rw [if_neg hod]
     ·rw [if_neg hd, if_neg hd]
    ·exact ih'
def iG (C : Cfg) (ops : Array Oper) (listed : Array Bool) (q i : Nat) : Prop := ∃ o, ops[i]? = some o ∧ bU C.P o.op = .makes ∧ S listed i ∧ q ≤ i
def GX (G : Gd) (N : Nat) (C : Cfg) (ops : Array Oper) (listed : Array Bool) (R : Nat → Nat) (q : Nat) : Gd := ⟨G.B, fun k => G.X k ∨ ∃ i, iG C ops listed q i ∧ R i = k, N, G.W, G.ok⟩
structure Made (G : Gd) (C : Cfg) (ops : Array Oper) (p0 : Pos) (Hh : Nat → Hp) (ρ : dB) (w : World) (R : Nat → Nat) (i : Nat) : Prop where
 name : ρ (idp C ops p0 i) = some ⟨R i, 0, 0, none⟩
 low : G.B ≤ R i
 ex : ¬ G.X (R i)
 row : ∃ (arr : Array Value) (t : TypeId) (cs : List DV), w.heap[R i]? = some (.cells arr t (0, 0)) ∧ VRs ρ cs arr.toList ∧ Hh (i + 1) = ⟨(Hh i).next, Tr.set (.row .ex cs) (idp C ops p0 i) (Hh i).bl⟩
theorem aKb {E : Nat → aW} {Hh : Nat → Hp} {V : Nat → DV} (T : Tr1 C rec ops nt p0 E Hh V) {listed : Array Bool} {R : Nat → Nat} {N q : Nat} {ρ : dB} {w : World}
  (hmade : ∀ i, iG C ops listed q i → Made G C ops p0 Hh ρ w R i) (hdist : ∀ i i', iG C ops listed q i → iG C ops listed q i' → R i = R i' → i = i') :
  ∀ p, q ≤ p → p ≤ ops.size → (∀ j oj, ops[j]? = some oj → q ≤ j → j < p → bU C.P oj.op ≠ .acts ∧ (bU C.P oj.op = .makes → S listed j)) →
  HR (GX G N C ops listed R q) ρ (Hh q) w → HR (GX G N C ops listed R p) ρ (Hh p) w := by
 intro p
 induction p with
 | zero => intro h1 _ _ H; have : q = 0 := by omega
           subst this; exact H
 | succ p ih =>
  intro h1 h2 hr H
  by_cases e : q = p + 1
  ·subst e; exact H
  ·have H' := ih (by omega) (by omega) (fun j oj hj hq hjp => hr j oj hj hq (by omega)) H
   obtain ⟨o, ho⟩ : ∃ o, ops[p]? = some o := ⟨ops[p], by simp [show p < ops.size by omega]⟩
   obtain ⟨ha, hm⟩ := hr p o ho (by omega) (by omega)
   have hsub : ∀ k, (GX G N C ops listed R (p + 1)).X k → (GX G N C ops listed R p).X k := by
    rintro k (hk | ⟨i, ⟨oi, h3, h4, h5, h6⟩, h7⟩)
    ·exact .inl hk
    ·exact .inr ⟨i, ⟨oi, h3, h4, h5, by omega⟩, h7⟩
   by_cases hmk : bU C.P o.op = .makes
   ·have hE : iG C ops listed q p := ⟨o, ho, hmk, hm hmk, by omega⟩
    have hM := hmade p hE
    obtain ⟨arr, t, cs, r1, r2, r3⟩ := hM.row
    rw [r3]
    refine dVx (G := GX G N C ops listed R (p + 1)) H' rfl hsub (Nat.le_refl _) rfl hM.name r1 r2 hM.low ?_ (.inr ⟨p, ⟨o, ho, hmk, hm hmk, Nat.le_refl _⟩, rfl⟩)
    rintro (hk | ⟨i, ⟨oi, h3, h4, h5, h6⟩, h7⟩)
    ·exact hM.ex hk
    ·have := hdist i p ⟨oi, h3, h4, h5, by omega⟩ hE h7
     omega
   ·rw [T.same ho ha hmk]
    exact H'.weak rfl hsub (Nat.le_refl _) rfl
def Inv (DD : List Deferred) (C : Cfg) (G : Gd) (ops : Array Oper) (nt : Nat) (p0 : Pos) (N : Nat) (E : Nat → aW) (Hh : Nat → Hp) (V : Nat → DV) (ρ : dB) (w0 : World) (listed : Array Bool) (a : Act) (w : World) : Prop :=
 listed.size = ops.size ∧ (∀ j x, gB (Region.before ops) j x = true → S listed x → S listed j) ∧
 ∃ q, q ≤ ops.size ∧ dCr C ops q ∧ (∀ j oj, ops[j]? = some oj → bU C.P oj.op = .acts → (j < q ↔ S listed j)) ∧
 ∃ (ρ' : dB) (R : Nat → Nat), Ex G ρ ρ' ∧ HR (GX G N C ops listed R q) ρ' (Hh q) w ∧ EnvR ρ' (TS ops V (E 0) listed ops.size) a ∧ Kp G w0 w ∧ nt ≤ a.tmps.size ∧ a.defers = DD ∧
  (∀ i o, ops[i]? = some o → bU C.P o.op = .makes → ¬ S listed i → ρ' (idp C ops p0 i) = none) ∧
  (∀ i, iG C ops listed q i → Made G C ops p0 Hh ρ' w R i) ∧ (∀ i i', iG C ops listed q i → iG C ops listed q i' → R i = R i' → i = i')
theorem bUc {i : Nat} {o : Oper} (ho : ops[i]? = some o) (hm : bU C.P o.op = .makes) : (idp C ops p0 i).toNat < p0.toNat + cD C.P ops.toList := by
 unfold idp
 rw [dZ]
 have hlt : i < ops.toList.length := by
  rcases Nat.lt_or_ge i ops.toList.length with h | h
  ·exact h
  ·simp at h; simp [Array.getElem?_eq_none h] at ho
 have key : ∀ (l : List Oper) (i : Nat), l[i]? = some o → cD C.P (l.take i) < cD C.P l := by
  intro l
  induction l with
  | nil => intro i h; simp at h
  | cons x l ih =>
   intro i h
   cases i with
   | zero => simp at h; subst h; simp [cD, hm]; omega
   | succ i => simp at h; have := ih i h; simp only [List.take_succ_cons, cD]; omega
 have := key ops.toList i (by simpa using ho)
 omega
theorem dCw {i i' : Nat} {o o' : Oper} (ho : ops[i]? = some o) (hm : bU C.P o.op = .makes) (ho' : ops[i']? = some o') (hm' : bU C.P o'.op = .makes) (hne : i ≠ i') : idp C ops p0 i ≠ idp C ops p0 i' := by
 have key : ∀ (l : List Oper) (i j : Nat) (o : Oper), l[i]? = some o → bU C.P o.op = .makes → i < j → cD C.P (l.take i) < cD C.P (l.take j) := by
  intro l
  induction l with
  | nil => intro i j o h; simp at h
  | cons x l ih =>
   intro i j o h hm hij
   cases j with
   | zero => omega
   | succ j =>
    cases i with
    | zero => simp at h; subst h; simp only [List.take_succ_cons, cD, hm, List.take_zero]; omega
    | succ i => simp at h; have := ih i j o h hm (by omega); simp only [List.take_succ_cons, cD]; omega
 intro e
 have e' := congrArg Pos.toNat e
 unfold idp at e'
 rw [dZ, dZ] at e'
 rcases Nat.lt_or_ge i i' with h | h
 ·have := key ops.toList i i' o (by simpa using ho) hm h; omega
 ·have := key ops.toList i' i o' (by simpa using ho') hm' (by omega); omega
theorem bJe {DD : List Deferred} (K : OkC C rec) {N : Nat} {E : Nat → aW} {Hh : Nat → Hp} {V : Nat → DV} (T : Tr1 C rec ops nt p0 E Hh V) (hN : N = p0.toNat + cD C.P ops.toList) (hGN : G.N ≤ p0.toNat) {ρ : dB} {w0 : World} {Q : Exit → Act → World → Prop}
  (hQ : ∀ ρ' a' w', Ex G ρ ρ' → HR G ρ' (Hh ops.size) w' → EnvR ρ' (E ops.size) a' → Kp G w0 w' → nt ≤ a'.tmps.size → a'.defers = DD → Q .normal a' w') :
  ∀ (fuel : Nat) (listed : Array Bool) (a : Act) (w : World), Inv DD C G ops nt p0 N E Hh V ρ w0 listed a w → ((List.range ops.size).filter fun i => !listed.getD i false).length ≤ fuel → wpAny C.P .any ops Q fuel listed a w := by
 have hlt : ∀ p, p < ops.size → ∃ o, ops[p]? = some o := fun p hp => ⟨ops[p], by simp [hp]⟩
 have hin : ∀ (j : Nat) oj, ops[j]? = some oj → j < ops.size := fun j oj hj => by
  rcases Nat.lt_or_ge j ops.size with h | h
  ·exact h
  ·simp [Array.getElem?_eq_none h] at hj
 have hend : ∀ listed a w, Inv DD C G ops nt p0 N E Hh V ρ w0 listed a w → (∀ i, i < ops.size → S listed i) → Q .normal a w := by
  rintro listed a w ⟨hsz, hdown, q, hq, hcand, hgap, ρ', R, h1, h2, h3, h4, h5, h6, h7, h8, h9⟩ hall
  have hH := aKb (G := G) T h8 h9 ops.size hq (Nat.le_refl _) (fun j oj hj hqj hjn => ⟨fun ha => by
   have := (hgap j oj hj ha).2 (hall j hjn)
   omega, fun _ => hall j hjn⟩) h2
  have hE : ∀ t, TS ops V (E 0) listed ops.size t = E ops.size t := fun t =>
   bJz (E := E) rfl (fun p o hp ho => (T.st p o ho).env) (fun p hp => hlt p hp) (fun j o hj _ _ => hall j hj) ops.size (Nat.le_refl _)
  refine hQ ρ' a w h1 (hH.weak rfl (fun k hk => .inl hk) (by show G.N ≤ N; omega) rfl) (fun t => ?_) h4 h5 h6
  rw [← hE t]
  exact h3 t
 have hready : ∀ listed, listed.size = ops.size → Region.ready .any ops listed = [] → ∀ i, i < ops.size → S listed i := by
  intro listed hsz hr i
  induction i using Nat.strongRecOn with
  | _ i ih =>
   intro hi
   obtain ⟨o, ho⟩ := hlt i hi
   by_cases hs : S listed i
   ·exact hs
   ·exfalso
    have hmem : i ∈ Region.ready .any ops listed := by
     rw [pZ]
     refine ⟨hi, ?_, o, ho, fun e he hb => ?_⟩
     ·rw [pW (by omega)]
      unfold S at hs
      simpa using hs
     ·have := (dP T.ok ho).1 e he hb
      exact ih e.on this (by omega)
    rw [hr] at hmem
    cases hmem
 intro fuel
 induction fuel with
 | zero =>
  intro listed a w hI hfuel
  have hall : ∀ i, i < ops.size → S listed i := by
   intro i hi
   by_cases hs : S listed i
   ·exact hs
   ·exfalso
    have : i ∈ (List.range ops.size).filter fun i => !listed.getD i false := by
     rw [List.mem_filter]
     refine ⟨by simpa using hi, ?_⟩
     unfold S at hs
     simpa using hs
    have := List.length_pos_of_mem this
    omega
  refine ⟨?_, hend listed a w hI hall⟩
  cases hr : Region.ready .any ops listed with
  | nil => rfl
  | cons x xs =>
   have hx : x ∈ Region.ready .any ops listed := by rw [hr]; simp
   rw [pZ] at hx
   have := hall x hx.1
   rw [pW (by rw [hI.1]; exact hx.1)] at hx
   unfold S at this
   rw [this] at hx
   cases hx.2.1
 | succ fuel ih =>
  intro listed a w hI hfuel
  refine ⟨fun hr => hend listed a w hI (hready listed hI.1 hr), fun i hi => ?_⟩
  obtain ⟨hsz, hdown, q, hq, hcand, hgap, ρ', R, h1, h2, h3, h4, h5, h6, h7, h8, h9⟩ := hI
  rw [pZ] at hi
  obtain ⟨hisz, hni, o, ho, hpre0⟩ := hi
  rw [pW (by omega)] at hni
  have hnS : ¬ S listed i := by unfold S; rw [hni]; simp
  have hpre : ∀ j, gB (Region.before ops) j i = true → S listed j := by
   intro j hj
   obtain ⟨e, he, hb, h | h⟩ := aKf ho hj
   ·rw [← h]; exact hpre0 e he hb
   ·exact hdown j e.on h (hpre0 e he hb)
  have hst := T.st i o ho
  have hlook : ∀ t ∈ o.looksAt ops, TS ops V (E 0) listed ops.size t = E i t := by
   intro t ht
   rw [cHn (i := i) (fun j oj hij hj hd hS => ?_) ops.size (by omega)]
   ·exact bJz (E := E) rfl (fun p op hp hop => (T.st p op hop).env) (fun p hp => hlt p (by omega)) (fun j oj hj hoj hd => by
     rcases (dP T.ok ho).2.2 j oj hj hoj with h | ⟨h, _⟩
     ·exact hpre j h
     ·exact absurd ht ((Oper.apart_spec h).1 t hd)) i (Nat.le_refl _)
   ·rcases Nat.eq_or_lt_of_le hij with e | e
    ·subst e; exact hnS hS
    ·rcases (dP T.ok hj).2.2 i o e ho with h | ⟨h, _⟩
     ·exact hnS (hdown i j h hS)
     ·exact absurd ht ((Oper.apart_spec h).2.2 t hd)
  have hmkq : ∀ j oj, ops[j]? = some oj → bU C.P oj.op = .makes → j < q → S listed j := by
   intro j oj hj hmj hjq
   rcases hcand with rfl | ⟨l, ol, hl, hal, rfl⟩
   ·omega
   ·have hSl : S listed l := (hgap l ol hl hal).1 (by omega)
    have hjl : j ≠ l := fun e => by subst e; rw [hl] at hj; cases hj; rw [hal] at hmj; cases hmj
    rcases (dP T.ok hl).2.2 j oj (by omega) hj with h | ⟨_, h⟩
    ·exact hdown j l h hSl
    ·exact absurd ⟨.inr hmj, hal⟩ h
  have hdown' : ∀ j x, gB (Region.before ops) j x = true → S (listed.setIfInBounds i true) x → S (listed.setIfInBounds i true) j := by
   intro j x hjx hx
   rw [cQx (by omega)] at hx ⊢
   rcases hx with rfl | hx
   ·exact .inr (hpre j hjx)
   ·exact .inr (hdown j x hjx hx)
  have hTS : ∀ (ρ2 : dB) (v2 : Value), Ext ρ' ρ2 → VR ρ2 (V i) v2 → EnvR ρ2 (TS ops V (E 0) (listed.setIfInBounds i true) ops.size) (a.put o.dst v2) := by
   intro ρ2 v2 e1 e2 t
   rw [dBf ho (by omega) hnS t (fun j oj hij hj hd hod hS => by
    rcases (dP T.ok hj).2.2 i o hij ho with h | ⟨h, _⟩
    ·exact hnS (hdown i j h hS)
    ·exact (Oper.apart_spec h).2.1 t hod hd) ops.size (by omega)]
   have := EnvR.put h3 e1 e2 hst.fits h5 t
   rwa [lN] at this
  have hcount : ((List.range ops.size).filter fun j => !(listed.setIfInBounds i true).getD j false).length ≤ fuel := by
   have hmem : i ∈ (List.range ops.size).filter fun i => !listed.getD i false := by
    rw [List.mem_filter]
    exact ⟨by simpa using hisz, by simp [hni]⟩
   have hle : ((List.range ops.size).filter fun j => !(listed.setIfInBounds i true).getD j false).length < ((List.range ops.size).filter fun j => !listed.getD j false).length := by
    have hsub : ((List.range ops.size).filter fun j => !(listed.setIfInBounds i true).getD j false) = ((List.range ops.size).filter fun j => !listed.getD j false).filter (fun j => j != i) := by
     rw [List.filter_filter]
     apply List.filter_congr
     intro j hj
     by_cases e : j = i
     ·subst e; simp [show j < listed.size by omega]
     ·simp [Array.getElem?_setIfInBounds_ne (Ne.symm e), e]
    rw [hsub]
    exact List.length_filter_lt_length_iff_exists.2 ⟨i, hmem, by simp⟩
   omega
  have hS' : ∀ j, S (listed.setIfInBounds i true) j ↔ (j = i ∨ S listed j) := fun j => cQx (by omega)
  by_cases hmk : bU C.P o.op = .makes
  ·
   have hqi : q ≤ i := by
    rcases Nat.lt_or_ge i q with h | h
    ·exact absurd (hmkq i o ho hmk h) hnS
    ·exact h
   have hg := (dP T.ok ho).2.1 hmk
   have hbn := h7 i o ho hmk hnS
   have hst1 := hst.made hmk
   have hext : Ext ρ' (nF ρ' (idp C ops p0 i) ⟨w.heap.size, 0, 0, none⟩) := by
    intro x L hx
    by_cases e : x = idp C ops p0 i
    ·subst e; rw [hbn] at hx; cases hx
    ·rw [aZ _ _ e]; exact hx
   have hE0 : dU C o (idp C ops p0 i) (TS ops V (E 0) listed ops.size) (Hh i) = some (V i, Hh (i + 1)) := by
    rw [← hst1]
    refine zO fun x hx => zZ fun t ht => hlook t ?_
    unfold Oper.looksAt
    refine List.mem_append_left _ (List.mem_filterMap.2 ⟨x, by simpa using hx, ?_⟩)
    rw [ht]
   obtain ⟨cs, arr, t, v', m1, m2, m3, m4⟩ := dAk (w := w) h3 hE0 hbn
   have hidlt := bUc (p0 := p0) ho hmk
   have H2 := h2.early hbn (by have := h2.nx; simp only [GX] at this; omega) arr t
   unfold wpOp
   simp only [ho]
   rw [if_pos (by simp [Region.wanted, hg])]
   refine .inl ?_
   unfold Oper.wp
   rw [m1]
   show wpAny C.P .any ops Q fuel (listed.setIfInBounds i true) (a.put o.dst v') (w.alloc (.cells arr t))
   have hEarly : ∀ j, iG C ops (listed.setIfInBounds i true) q j → j = i ∨ iG C ops listed q j := by
    rintro j ⟨oj, e1, e2, e3, e4⟩
    rcases (hS' j).1 e3 with e | e
    ·exact .inl e
    ·exact .inr ⟨oj, e1, e2, e, e4⟩
   have hRlt : ∀ j, iG C ops listed q j → R j < w.heap.size := fun j hj => h2.sz.2 _ (.inr ⟨j, hj, rfl⟩)
   have hjne : ∀ j, iG C ops listed q j → j ≠ i := by
    rintro j ⟨oj, e1, e2, e3, e4⟩ e
    subst e; exact hnS e3
   refine ih _ _ _ ⟨by simpa using hsz, hdown', q, hq, hcand, fun j oj hj haj => ?_, nF ρ' (idp C ops p0 i) ⟨w.heap.size, 0, 0, none⟩, fun j => if j = i then w.heap.size else R j, ?_, ?_, hTS _ _ hext m4, ?_, by rw [oZ]; exact h5, by rw [lF]; exact h6, ?_, ?_, ?_⟩ hcount
   ·rw [hS' j, hgap j oj hj haj]
    constructor
    ·exact .inr
    ·rintro (h | h)
     ·subst h; rw [ho] at hj; cases hj; rw [hmk] at haj; cases haj
     ·exact h
   ·refine h1.trans ⟨hext, fun b L hb => ?_⟩
    by_cases e : b = idp C ops p0 i
    ·right
     rw [e]
     unfold idp
     rw [dZ]
     omega
    ·rw [aZ _ _ e] at hb; exact .inl hb
   ·refine H2.weak rfl ?_ (Nat.le_refl _) rfl
    rintro k (hk | ⟨j, hj, hjk⟩)
    ·exact .inl (.inl hk)
    ·rcases hEarly j hj with rfl | hj'
     ·right; simpa using hjk.symm
     ·left; right
      refine ⟨j, hj', ?_⟩
      simpa [hjne j hj'] using hjk
   ·exact h4.trans (fM (G := G) ⟨h2.sz.1, fun k hk => h2.sz.2 k (.inl hk)⟩ _)
   ·intro j oj hj hmj hSj
    have hji : j ≠ i := fun e => hSj ((hS' j).2 (.inl e))
    rw [aZ _ _ (dCw hj hmj ho hmk hji)]
    exact h7 j oj hj hmj fun h => hSj ((hS' j).2 (.inr h))
   ·intro j hj
    rcases hEarly j hj with rfl | hj'
    ·refine ⟨by simp [cG], by simp; exact h2.sz.1, ?_, arr, t, cs, ?_, m2.mono hext, m3⟩
     ·simp only [if_true]
      intro hx
      have := h2.sz.2 _ (.inl hx)
      omega
     ·simp only [if_true]
      show (w.heap.push _)[w.heap.size]? = _
      simp
    ·have hM := h8 j hj'
     obtain ⟨arr', t', cs', r1, r2, r3⟩ := hM.row
     have hji := hjne j hj'
     refine ⟨?_, by simp [hji]; exact hM.low, by simp [hji]; exact hM.ex, arr', t', cs', ?_, r2.mono hext, r3⟩
     ·simp only [hji, if_false]; exact hext _ _ hM.name
     ·simp only [hji, if_false]
      rw [Below.heap_alloc _ _ _ (hRlt j hj')]
      exact r1
   ·intro j j' hj hj' he
    rcases hEarly j hj with rfl | hj1
    ·rcases hEarly j' hj' with rfl | hj1'
     ·rfl
     ·simp only [if_true, hjne j' hj1', if_false] at he
      have := hRlt j' hj1'
      omega
    ·rcases hEarly j' hj' with rfl | hj1'
     ·simp only [if_true, hjne j hj1, if_false] at he
      have := hRlt j hj1
      omega
     ·simp only [hjne j hj1, hjne j' hj1', if_false] at he
      exact h9 j j' hj1 hj1' he
  ·
   have hstep : ∃ q1 q2, q ≤ q1 ∧ q1 ≤ ops.size ∧ q2 ≤ ops.size ∧ q1 ≤ q2 ∧ dCr C ops q2 ∧ HR (GX G N C ops listed R q1) ρ' (Hh q1) w ∧
     bM C rec ops o (TS ops V (E 0) listed ops.size) (Hh q1) = some (V i, Hh q2) ∧
     (∀ j oj, ops[j]? = some oj → bU C.P oj.op = .acts → (j < q2 ↔ S (listed.setIfInBounds i true) j)) ∧
     (∀ j, iG C ops (listed.setIfInBounds i true) q2 j → iG C ops listed q1 j) := by
    rw [show bM C rec ops o (TS ops V (E 0) listed ops.size) = bM C rec ops o (E i) from funext fun h => aLe hlook]
    by_cases ha : bU C.P o.op = .acts
    ·have hqi : q ≤ i := by
      rcases Nat.lt_or_ge i q with h | h
      ·exact absurd ((hgap i o ho ha).1 h) hnS
      ·exact h
     refine ⟨i, i + 1, hqi, by omega, by omega, by omega, .inr ⟨i, o, ho, ha, rfl⟩, ?_, hst.step hmk, fun j oj hj haj => ?_, ?_⟩
     ·refine aKb (G := G) T h8 h9 i hqi (by omega) (fun j oj hj hqj hji => ⟨fun haj => ?_, fun hmj => ?_⟩) h2
      ·rcases (dP T.ok ho).2.2 j oj hji hj with h | ⟨_, h⟩
       ·have := (hgap j oj hj haj).2 (hpre j h); omega
       ·exact absurd ⟨.inl haj, ha⟩ h
      ·rcases (dP T.ok ho).2.2 j oj hji hj with h | ⟨_, h⟩
       ·exact hpre j h
       ·exact absurd ⟨.inr hmj, ha⟩ h
     ·rw [hS' j]
      constructor
      ·intro hlt'
       by_cases e : j = i
       ·exact .inl e
       ·right
        rcases (dP T.ok ho).2.2 j oj (by omega) hj with h | ⟨_, h⟩
        ·exact hpre j h
        ·exact absurd ⟨.inl haj, ha⟩ h
      ·rintro (h | h)
       ·omega
       ·rcases Nat.lt_or_ge i j with hij | hij
        ·rcases (dP T.ok hj).2.2 i o hij ho with h' | ⟨_, h'⟩
         ·exact absurd (hdown i j h' h) hnS
         ·exact absurd ⟨.inl ha, haj⟩ h'
        ·omega
     ·rintro j ⟨oj, e1, e2, e3, e4⟩
      rcases (hS' j).1 e3 with e | e
      ·omega
      ·exact ⟨oj, e1, e2, e, by omega⟩
    ·refine ⟨q, q, Nat.le_refl _, hq, hq, Nat.le_refl _, hcand, h2, T.value ho ha hmk hcand hgap hnS hdown hpre, fun j oj hj haj => ?_, ?_⟩
     ·rw [hS' j, hgap j oj hj haj]
      constructor
      ·exact .inr
      ·rintro (h | h)
       ·subst h; rw [ho] at hj; cases hj; exact absurd haj ha
       ·exact h
     ·rintro j ⟨oj, e1, e2, e3, e4⟩
      rcases (hS' j).1 e3 with e | e
      ·subst e; rw [ho] at e1; cases e1; exact absurd e2 hmk
      ·exact ⟨oj, e1, e2, e, e4⟩
   obtain ⟨q1, q2, k1, k2, k2', k12, k3, k4, k5, k6, k7⟩ := hstep
   refine aHg (aDs K k4 h3 k5) rfl ho k4 fun ρ2 w2 v2 e1 e2 e3 e4 => ?_
   have hEq : ∀ j, iG C ops listed q1 j → iG C ops listed q j := by
    rintro j ⟨oj, f1, f2, f3, f4⟩
    exact ⟨oj, f1, f2, f3, by omega⟩
   refine ih _ _ _ ⟨by simpa using hsz, hdown', q2, k2', k3, k6, ρ2, R, ?_, ?_, hTS _ _ e1.ext e2, ?_, by rw [oZ]; exact h5, by rw [lF]; exact h6, ?_, ?_, ?_⟩ hcount
   ·refine h1.trans ⟨e1.ext, fun b L hb => (e1.new b L hb).imp id fun h => ?_⟩
    simp only [GX] at h
    omega
   ·refine e3.weak rfl ?_ (Nat.le_refl _) rfl
    rintro k (hk | ⟨j, hj, hjk⟩)
    ·exact .inl hk
    ·exact .inr ⟨j, k7 j hj, hjk⟩
   ·exact h4.trans ⟨e4.low, fun k hk => e4.ex k (.inl hk)⟩
   ·intro j oj hj hmj hSj
    have hn := h7 j oj hj hmj fun h => hSj ((hS' j).2 (.inr h))
    cases hr : ρ2 (idp C ops p0 j) with
    | none => rfl
    | some L =>
     rcases e1.new _ _ hr with h | h
     ·rw [hn] at h; cases h
     ·have := bUc (p0 := p0) hj hmj
      simp only [GX] at h
      omega
   ·intro j hj
    have hj1 := k7 j hj
    have hM := h8 j (hEq j hj1)
    obtain ⟨arr', t', cs', r1, r2, r3⟩ := hM.row
    exact ⟨e1.ext _ _ hM.name, hM.low, hM.ex, arr', t', cs', by rw [e4.ex _ (.inr ⟨j, hj1, rfl⟩)]; exact r1, r2.mono e1.ext, r3⟩
   ·intro j j' hj hj' he
    exact h9 j j' (hEq j (k7 j hj)) (hEq j' (k7 j' hj')) he
theorem bIa {DD : List Deferred} (K : OkC C rec) {k : Dd.K} {r : DV × Hp} {env : aW} {h : Hp} {ρ : dB} {a : Act} {w : World} {Q : Exit → Act → World → Prop}
  (hok : fE C.P ops = true) (hp : iH C rec nt ops k env h = some r) (H : HR G ρ h w) (he : EnvR ρ env a) (hnt : nt ≤ a.tmps.size) (hd : a.defers = DD)
  (hQ : ∀ ρ' env' h' a' w', Ex G ρ ρ' → HR G ρ' h' w' → EnvR ρ' env' a' → Kp G w w' → nt ≤ a'.tmps.size → a'.defers = DD → k env' h' = some r → Q .normal a' w') :
  wpAny C.P .any ops Q ops.size (Array.replicate ops.size false) a { w with drawn := w.drawn + 1 } := by
 obtain ⟨E, Hh, V, e1, e2, e3, e4⟩ := rM (p0 := h.next) ops.toList 0 0 false [] _ env _ r hp (by simp) (fun _ => ⟨_, _, rfl⟩)
 simp only [Nat.zero_add, Array.length_toList, Nat.sub_zero] at e3 e4
 have T : Tr1 C rec ops nt h.next E Hh V := ⟨hok, fun p o ho => by
  have := (e4 p o (Nat.zero_le _) (by
   rcases Nat.lt_or_ge p ops.size with h | h
   ·exact h
   ·simp [Array.getElem?_eq_none h] at ho) ho).1
  rw [← e2] at this
  exact this⟩
 obtain ⟨n1, n2⟩ := aAi (cD C.P ops.toList) h
 have hNN : (resv (cD C.P ops.toList) h).next.toNat = h.next.toNat + cD C.P ops.toList := by rw [n1, dZ]
 refine (bJe (G := G) K T rfl H.nx (ρ := ρ) (w0 := w) (fun ρ' a' w' h1 h2 h3 h4 h5 h6 => hQ ρ' _ _ a' w' h1 h2 h3 h4 h5 h6 e3) ops.size _ a _ ?_ ?_)
 ·have hno : ∀ j, ¬ S (Array.replicate ops.size false) j := by
   intro j hj
   unfold S at hj
   simp [Array.getElem?_replicate] at hj
   split at hj <;> simp at hj
  have hnoE : ∀ j, ¬ iG C ops (Array.replicate ops.size false) 0 j := by
   rintro j ⟨oj, _, _, h3, _⟩
   exact hno j h3
  refine ⟨by simp, fun j x _ hx => absurd hx (hno x), 0, Nat.zero_le _, .inl rfl, fun j oj hj ha => ⟨fun h => by omega, fun h => absurd h (hno j)⟩, ρ, fun _ => 0, Ex.refl G ρ, ?_, ?_, ?_, hnt, hd, ?_, fun j hj => absurd hj (hnoE j), fun j j' hj => absurd hj (hnoE j)⟩
  ·rw [e2]
   have := (H.reserve (cD C.P ops.toList)).congr (w' := { w with drawn := w.drawn + 1 }) rfl
   rw [hNN] at this
   refine this.weak rfl ?_ (Nat.le_refl _) rfl
   rintro k (hk | ⟨j, hj, _⟩)
   ·exact hk
   ·exact absurd hj (hnoE j)
  ·have hT : ∀ p, TS ops V (E 0) (Array.replicate ops.size false) p = E 0 := by
    intro p
    induction p with
    | zero => rfl
    | succ p ih =>
     simp only [TS, ih]
     split
     ·rename_i o ho
      rw [if_neg (show ¬ (Array.replicate ops.size false).getD p false = true from hno p)]
     ·rfl
   intro t
   rw [hT, e1]
   exact he t
  ·exact (Kp.refl G w).drew
  ·intro j oj hj hmj _
   cases hr : ρ (idp C ops h.next j) with
   | none => rfl
   | some L =>
    have h1 := H.lt _ _ hr
    unfold idp at h1
    rw [dZ] at h1
    omega
 ·have := List.length_filter_le (fun i => !(Array.replicate ops.size false).getD i false) (List.range ops.size)
  simpa using this
theorem aZq {DD : List Deferred} (K : OkC C rec) (hm : C.P.follows .mixedOrders = true) {id : Nat} {k : Dd.K} {r : DV × Hp} {env : aW} {h : Hp} {ρ : dB} {a : Act} {w : World} {Q : Exit → Act → World → Prop}
  (hok : fE C.P ops = true) (hp : iH C rec nt ops k env h = some r) (H : HR G ρ h w) (he : EnvR ρ env a) (hnt : nt ≤ a.tmps.size) (hd : a.defers = DD)
  (hQ : ∀ ρ' env' h' a' w', Ex G ρ ρ' → HR G ρ' h' w' → EnvR ρ' env' a' → Kp G w w' → nt ≤ a'.tmps.size → a'.defers = DD → k env' h' = some r → Q .normal a' w') :
  (Code.region id ops true).wp C.P Q a w :=
 wp_region_any hm (bIa K hok hp H he hnt hd hQ)
end
end Go.Dd

namespace Go.Dd
open Go.RowKit (Below)
section
variable {C : Cfg} {G : Gd} {rec : FuncId → List DV → Hp → aI} {nt n : Nat}
def St (DD : List Deferred) (G : Gd) (nt : Nat) (ρ : dB) (w0 : World) (k : K) (r : DV × Hp) (a : Act) (w : World) : Prop :=
 ∃ ρ' env h, Ex G ρ ρ' ∧ HR G ρ' h w ∧ EnvR ρ' env a ∧ Kp G w0 w ∧ nt ≤ a.tmps.size ∧ a.defers = DD ∧ k env h = some r
def QQ (DD : List Deferred) (G : Gd) (nt : Nat) (ρ : dB) (w0 : World) (X : Nat → K) (kr k : K) (r : DV × Hp) : Exit → Act → World → Prop
 | .normal, a, w => St DD G nt ρ w0 k r a w
 | .exit id, a, w => St DD G nt ρ w0 (X id) r a w
 | .ret, a, w => St DD G nt ρ w0 kr r a w
 | _, _, _ => False
theorem cNh {DD : List Deferred} (K : OkC C rec) (hm : C.P.follows .mixedOrders = true) {ρ : dB} {w0 : World} {r : DV × Hp} : ∀ (c : Code) (X : Nat → Dd.K) (kr k : Dd.K) (a : Act) (w : World),
  St DD G nt ρ w0 (aM C rec nt n c X kr k) r a w → c.wp C.P (QQ DD G nt ρ w0 X kr k r) a w := by
 intro c
 induction c with
 | skip => intro X kr k a w h; exact wp_skip h
 | region id ops dr =>
  intro X kr k a w h
  obtain ⟨ρ', env, hp, h1, h2, h3, h4, h5, h6, h7⟩ := h
  change (Bool.rec (motive := fun _ => Dd.K) (iT C rec nt ops ops.toList k) (Bool.rec (motive := fun _ => Dd.K) dL (iH C rec nt ops k) (fE C.P ops)) dr) env hp = some r at h7
  cases dr with
  | true =>
   dsimp only at h7
   cases hok : fE C.P ops with
   | false => rw [hok] at h7; cases h7
   | true =>
    rw [hok] at h7
    exact aZq K hm hok h7 h2 h3 h5 h6 fun ρ2 env2 h2' a2 w2 e1 e2 e3 e4 e5 e6 e7 => ⟨ρ2, env2, h2', h1.trans e1, e2, e3, h4.trans e4, e5, e6, e7⟩
  | false =>
   simp only [cond_false] at h7
   obtain ⟨env', h', hr, hk⟩ := vU ops.toList k env hp r h7
   refine wp_region ?_
   have := aNb (Q := QQ DD G nt ρ w0 X kr k r) K ops.toList 0 ρ' env hp a w (by simp) hr h2 h3 h5 h6 fun ρ2 a2 w2 e1 e2 e3 e4 e5 e6 => ⟨ρ2, env', h', h1.trans e1, e2, e3, h4.trans e4, e5, e6, hk⟩
   rw [List.range_eq_range']
   simpa using this
 | seq x y ihx ihy =>
  intro X kr k a w h
  refine wp_seq (wp_mono (ihx X kr (aM C rec nt n y X kr k) a w h) fun e a' w' hq => ?_)
  cases e with
  | normal => exact ihy X kr k a' w' hq
  | exit id => exact hq
  | ret => exact hq
  | goto l => exact hq
  | panic ch => exact hq
  | outgrown => exact hq
 | cond c x y ihx ihy =>
  intro X kr k a w h
  obtain ⟨ρ', env, hp, h1, h2, h3, h4, h5, h6, h7⟩ := h
  change aT (opr env c) (aM C rec nt n x X kr k env hp) (aM C rec nt n y X kr k env hp) = some r at h7
  have hc := bI h3 c
  unfold aT at h7
  split at h7 <;> (try (cases h7; done))
  ·rename_i hcb
   rw [hcb] at hc
   generalize hcv : a.eval c = cv at hc
   cases hc
   exact wp_cond_true hcv (ihx X kr k a w ⟨ρ', env, hp, h1, h2, h3, h4, h5, h6, h7⟩)
  ·rename_i hcb
   rw [hcb] at hc
   generalize hcv : a.eval c = cv at hc
   cases hc
   exact wp_cond_false hcv (ihy X kr k a w ⟨ρ', env, hp, h1, h2, h3, h4, h5, h6, h7⟩)
 | block id x ih =>
  intro X kr k a w h
  refine wp_block (wp_mono (ih (fun j => bif Nat.beq j id then k else X j) kr k a w h) fun e a' w' hq => ?_)
  cases e with
  | normal => exact hq
  | exit id' =>
   simp only [QQ] at hq
   simp only [Exit.inBlock, QQ]
   split
   ·rename_i e
    subst e
    have hb : Nat.beq id' id' = true := Nat.beq_refl id'
    rw [hb] at hq
    exact hq
   ·rename_i e
    have : Nat.beq id' id = false := by
     cases hb : Nat.beq id' id with
     | false => rfl
     | true => exact absurd (Nat.eq_of_beq_eq_true hb) e
    rw [this] at hq
    exact hq
  | ret => exact hq
  | goto l => exact hq
  | panic ch => exact hq
  | outgrown => exact hq
 | loop x ih =>
  intro X kr k a w h
  have key : ∀ (m : Nat) (a : Act) (w : World), St DD G nt ρ w0 (aR (fun kk => aM C rec nt n x X kr kk) m) r a w → Code.rounds C.P x (QQ DD G nt ρ w0 X kr k r) m a w := by
   intro m
   induction m with
   | zero =>
    rintro a w ⟨ρ', env, hp, h1, h2, h3, h4, h5, h6, h7⟩
    cases h7
   | succ m ihm =>
    intro a w hs
    rw [rounds_succ]
    refine wp_mono (ih X kr (aR (fun kk => aM C rec nt n x X kr kk) m) a w hs) fun e a' w' hq => ?_
    cases e with
    | normal => exact ihm a' w' hq
    | exit id => exact hq
    | ret => exact hq
    | goto l => exact hq
    | panic ch => exact hq
    | outgrown => exact hq
  exact wp_loop_rounds n (key n a w h)
 | rangeFunc f ps x y ihx ihy =>
  rintro X kr k a w ⟨ρ', env, hp, h1, h2, h3, h4, h5, h6, h7⟩
  cases h7
 | exit id => intro X kr k a w h; exact wp_exit h
 | scope x ih =>
  intro X kr k a w h
  refine wp_scope_straight (wp_mono (ih X kr k a w h) fun e a' w' hq => ?_)
  cases e with
  | goto l => exact hq
  | normal => exact hq
  | exit id => exact hq
  | ret => exact hq
  | panic ch => exact hq
  | outgrown => exact hq
 | label l => intro X kr k a w h; exact wp_label h
 | goto l =>
  rintro X kr k a w ⟨ρ', env, hp, h1, h2, h3, h4, h5, h6, h7⟩
  cases h7
 | ret => intro X kr k a w h; exact wp_ret h
 | refuse why =>
  rintro X kr k a w ⟨ρ', env, hp, h1, h2, h3, h4, h5, h6, h7⟩
  cases h7
def aGm (tmps : Array Value) (rv : ResultVar) : Sem Value :=
 match rv with
 | .tmp t => pure (tmps.getD t undef)
 | .cell q t => do loadVar t (← asAddr (tmps.getD q undef))
theorem xY (fn : Func) (tmps : Array Value) : results fn tmps = (do
  let vs ← fn.results.mapM (aGm tmps)
  pure (if h : vs.size = 1 then vs[0] else .tuple vs)) := by
 unfold results
 congr 2
theorem bLl {ρ : dB} {w : World} {h : Hp} {x : DV} {x' : Value} {t : TypeId} {k : DV → aI} {r : DV × Hp} (H : HR G ρ h w) (hx : VR ρ x x') (hr : aAo C t x h k = some r) :
  ∃ v v', (do loadVar t (← asAddr x') : Sem Value).run C.P w = .ok v' w ∧ VR ρ v v' ∧ k v = some r := by
 unfold aAo at hr
 split at hr <;> (try (cases hr; done))
 rename_i d i ht hi
 obtain ⟨v, h', hl, hk⟩ := dK hr
 have hconv : ∀ b o, x = .p b o → (Instr.loadAt t x') = (do loadVar t (← asAddr x')) := by
  rintro b o rfl
  cases hx
  simp [Instr.loadAt, Instr.sureAddr, asAddr]
 cases hd : iM d with
 | true =>
  rw [hd] at hl
  simp only [cond_true] at hl
  unfold aK at hl
  split at hl <;> (try (cases hl; done))
  rename_i b o
  split at hl <;> (try (cases hl; done))
  rename_i cs hc
  simp only [bG, bQ] at hl
  obtain ⟨rfl, _⟩ := hl
  cases hx with
  | p _ _ L hL =>
   obtain ⟨c1, c2, _, vs, c4, c5, c6⟩ := eX H hc hL
   have hrun := dD (P := C.P) vs rfl c6
   rw [c5] at hrun
   refine ⟨_, .agg vs.toArray, ?_, .a cs vs.toArray (by simpa using c4), hk⟩
   simp only [asAddr, Sem.run_bind, Sem.run_pure, Result.andThen_ok, loadVar, rA ht, hd, if_true, rS hi, hrun]
 | false =>
  rw [hd] at hl
  simp only [cond_false] at hl
  unfold aA at hl
  split at hl <;> (try (cases hl; done))
  rename_i b o
  split at hl <;> (try (cases hl; done))
  rename_i u' hc
  simp only [bG, bQ] at hl
  obtain ⟨rfl, _⟩ := hl
  cases hx with
  | p _ _ L hL =>
   unfold cellD rowOf at hc
   split at hc <;> (try (cases hc; done))
   rename_i l hl
   split at hl <;> (try (cases hl; done))
   rename_i kd l0 hb
   simp only [bG] at hl
   subst hl
   split at hc <;> (try (cases hc; done))
   rename_i u0 hu
   split at hc <;> (try (cases hc; done))
   rename_i ho
   simp only [bG] at hc
   subst hc
   obtain ⟨v', h5, h6⟩ := H.cell b kd l0 L o u0 hb hL hu ho
   refine ⟨_, v', ?_, h6, hk⟩
   simp only [asAddr, Sem.run_bind, Sem.run_pure, Result.andThen_ok, loadVar, rA ht, hd, Bool.false_eq_true, if_false, run_load, h5]
theorem zK {ρ : dB} {w : World} {h : Hp} {env : aW} {a : Act} (H : HR G ρ h w) (he : EnvR ρ env a) {r : DV × Hp} : ∀ (l : List ResultVar) (k : List DV → aI), bAt C env h l k = some r →
  ∃ vs vs', (l.mapM (aGm a.tmps)).run C.P w = .ok vs' w ∧ VRs ρ vs vs' ∧ k vs = some r
 | [], k, hr => ⟨[], [], by simp, .nil, hr⟩
 | .tmp t :: l, k, hr => by
  obtain ⟨vs, vs', h1, h2, h3⟩ := zK H he l (fun vs => k (env t :: vs)) hr
  refine ⟨env t :: vs, a.tmps.getD t undef :: vs', ?_, .cons _ _ _ _ (he t) h2, h3⟩
  simp only [List.mapM_cons, Sem.run_bind, aGm, Result.andThen_ok, h1, Sem.run_pure]
 | .cell q t :: l, k, hr => by
  obtain ⟨v, v', h1, h2, h3⟩ := bLl (x' := a.tmps.getD q undef) H (he q) hr
  obtain ⟨vs, vs', h4, h5, h6⟩ := zK H he l (fun vs => k (v :: vs)) h3
  refine ⟨v :: vs, v' :: vs', ?_, .cons _ _ _ _ h2 h5, h6⟩
  simp only [List.mapM_cons, Sem.run_bind, aGm] at h1 ⊢
  simp only [h1, Result.andThen_ok, h4, Sem.run_pure]
theorem aVe {ρ : dB} {w : World} {h h1 : Hp} {env : aW} {a : Act} (H : HR G ρ h w) (he : EnvR ρ env a) {fn : Func} {v : DV} (hr : aP C fn env h = some (v, h1)) :
  h1 = h ∧ ∃ v', (results fn a.tmps).run C.P w = .ok v' w ∧ VR ρ v v' := by
 obtain ⟨us, vs', h2, h3, hk⟩ := zK H he _ _ hr
 unfold bOq at hk
 split at hk
 ·rename_i u
  simp only [bG, bQ] at hk
  obtain ⟨rfl, rfl⟩ := hk
  cases h3 with
  | cons _ v' _ l' hv hn =>
   cases hn
   refine ⟨rfl, v', ?_, hv⟩
   rw [xY, Array.mapM_eq_mapM_toList]
   simp only [Sem.run_bind, Sem.run_map, h2, Result.andThen_ok, Sem.run_pure]
   simp
 ·rename_i hne
  simp only [bG, bQ] at hk
  obtain ⟨rfl, rfl⟩ := hk
  have hl := h3.length
  have hne1 : vs'.length ≠ 1 := by
   intro e
   rw [e] at hl
   match us, hl with
   | [x], _ => exact hne x rfl
  refine ⟨rfl, .tuple vs'.toArray, ?_, .t _ _ (by simpa using h3)⟩
  rw [xY, Array.mapM_eq_mapM_toList]
  simp only [Sem.run_bind, Sem.run_map, h2, Result.andThen_ok, Sem.run_pure]
  rw [dif_neg (by simpa using hne1)]
structure POk (P : Program) : Prop where
 mixed : P.follows .mixedOrders = true
 names : ∀ (f : Nat) (fn : Func), P.funcs[f]? = some fn → (fn.name == "runtime.NumGoroutine") = false
theorem oM (K : OkC C rec) (hP : POk C.P) (n : Nat) (f : FuncId) : mL C.P G f (aE C rec n f) := by
 intro args h v h1 hr ρ w args' H hargs
 unfold aE at hr
 split at hr <;> (try (cases hr; done))
 rename_i fn hf
 split at hr <;> (try (cases hr; done))
 rename_i c hb
 refine .inl ⟨?_, ?_⟩
 ·unfold callFunc
  have hn : ¬ fn.name = "runtime.NumGoroutine" := by simpa using hP.names f fn hf
  simp [hf, hn, hb]
 ·refine calls_of_wp hf hb ?_
  have he : EnvR ρ (aG args) { tmps := args' ++ Array.replicate (fn.ntmps - args'.size) undef, defers := [] } := by
   intro t
   unfold aG
   have hlen := hargs.length
   simp only [Array.length_toList] at hlen
   by_cases ht : t < args.length
   ·have hg : args[t]? = some args[t] := by simp [ht]
    obtain ⟨v', h2, h3⟩ := hargs.get t _ hg
    simp only [Array.getElem?_toList] at h2
    rw [show args.getD t aV = args[t] by simp [List.getD, hg]]
    have : (args' ++ Array.replicate (fn.ntmps - args'.size) undef).getD t undef = v' := by
     simp [Array.getElem?_append_left (show t < args'.size by omega), h2]
    rw [this]
    exact h3
   ·have hg : args.getD t aV = aV := by simp [List.getD, List.getElem?_eq_none (Nat.le_of_not_lt ht)]
    rw [hg]
    have : (args' ++ Array.replicate (fn.ntmps - args'.size) undef).getD t undef = undef := by
     rw [Array.getD_eq_getD_getElem?, Array.getElem?_append_right (by omega)]
     simp only [Array.getElem?_replicate]
     split <;> rfl
    rw [this]
    exact .t [] #[] .nil
  have hst : St [] G fn.ntmps ρ w (aM C rec fn.ntmps n c (fun _ => dL) (aP C fn) (aP C fn)) (v, h1) { tmps := args' ++ Array.replicate (fn.ntmps - args'.size) undef, defers := [] } w :=
   ⟨ρ, aG args, h, Ex.refl G ρ, H, he, Kp.refl G w, by simp; omega, rfl, hr⟩
  refine wp_mono (cNh K hP.mixed c _ _ _ _ _ hst) fun e a' w' hq => ?_
  have hfin : St [] G fn.ntmps ρ w (aP C fn) (v, h1) a' w' → a'.defers = [] ∧ ∃ v', (results fn a'.tmps).run C.P w' = .ok v' w' ∧ lQ G ρ w v h1 (.returned v') w' := by
   rintro ⟨ρ', env, h', e1, e2, e3, e4, e5, e6, e7⟩
   obtain ⟨rfl, v', r1, r2⟩ := aVe e2 e3 e7
   exact ⟨e6, v', r1, ρ', v', rfl, e1, r2, e2, e4⟩
  cases e with
  | normal => exact hfin hq
  | ret => exact hfin hq
  | exit id =>
   obtain ⟨ρ', env, h', e1, e2, e3, e4, e5, e6, e7⟩ := hq
   cases e7
  | goto l => exact hq.elim
  | panic ch => exact hq.elim
  | outgrown => exact hq.elim
theorem bWd (hP : POk C.P) (hI : ∀ G g F, C.I g = some F → mL C.P G g F) : ∀ (n : Nat) (G : Gd) (f : FuncId), mL C.P G f (fnD C n f)
 | 0, G, f => fun args h v h1 hr => by cases hr
 | n + 1, G, f => oM (rec := fnD C n) ⟨hI, fun G g => bWd hP hI n G g⟩ hP n f
end
end Go.Dd

namespace Go.Dd
open Go.RowKit (Below)
section
variable {C : Cfg} {G : Gd} {rec : FuncId → List DV → Hp → aI} {nt : Nat}
def nD (h : Hp) : Prop := ∀ b o, h.bl.get b = some o → b.toNat < h.next.toNat
theorem HR.isFresh {ρ : dB} {h : Hp} {w : World} (H : HR G ρ h w) : nD h := fun b o hb => by
 obtain ⟨L, hL⟩ := H.dom b o hb
 exact H.lt b L hL
def aKx (C : Cfg) (rec : FuncId → List DV → Hp → aI) (nt : Nat) (ops : Array Oper) (lQ : aW → Hp → Prop) : Nat → Array Bool → aW → Hp → Prop
 | 0, listed, env, h => Region.ready .any ops listed = [] ∧ lQ env h
 | f + 1, listed, env, h => (Region.ready .any ops listed = [] → lQ env h) ∧
   ∀ i ∈ Region.ready .any ops listed, ∃ o v h', ops[i]? = some o ∧ cZ nt o.dst = true ∧ bM C rec ops o env h = some (v, h') ∧
    aKx C rec nt ops lQ f (listed.setIfInBounds i true) (bN env o.dst v) h'
theorem bMn (K : OkC C rec) {ops : Array Oper} {lQ : aW → Hp → Prop} {Q : Exit → Act → World → Prop} : ∀ (fuel : Nat) (listed : Array Bool) (ρ : dB) (env : aW) (h : Hp) (a : Act) (w : World),
  aKx C rec nt ops lQ fuel listed env h → HR G ρ h w → EnvR ρ env a → nt ≤ a.tmps.size → a.defers = [] →
  (∀ ρ' env' h' a' w', lQ env' h' → Ex G ρ ρ' → HR G ρ' h' w' → EnvR ρ' env' a' → Kp G w w' → nt ≤ a'.tmps.size → a'.defers = [] → Q .normal a' w') →
  wpAny C.P .any ops Q fuel listed a w
 | 0, listed, ρ, env, h, a, w, hp, H, he, hnt, hd, hQ => ⟨hp.1, hQ ρ env h a w hp.2 (Ex.refl G ρ) H he (Kp.refl G w) hnt hd⟩
 | f + 1, listed, ρ, env, h, a, w, hp, H, he, hnt, hd, hQ => by
  refine ⟨fun hr => hQ ρ env h a w (hp.1 hr) (Ex.refl G ρ) H he (Kp.refl G w) hnt hd, fun i hi => ?_⟩
  obtain ⟨o, v, h', ho, hf, hs, hn⟩ := hp.2 i hi
  refine aHg (aDs K H he hs) rfl ho H fun ρ' w' v' h2 h3 h4 h5 => ?_
  exact bMn K f _ ρ' _ h' _ w' hn h4 (he.put h2.ext h3 hf hnt) (by rw [oZ]; exact hnt) (by rw [lF]; exact hd)
   fun ρ2 env2 hh a2 w2 e0 e1 e2 e3 e4 e5 e6 => hQ ρ2 env2 hh a2 w2 e0 (h2.trans e1) e2 e3 (h5.trans e4) e5 e6
def qO (C : Cfg) (rec : FuncId → List DV → Hp → aI) (nt : Nat) : Code → (Nat → aW → Hp → Prop) → (aW → Hp → Prop) → (aW → Hp → Prop) → aW → Hp → Prop
 | .skip, _, _, N => N
 | .region _ ops dr, _, _, N => fun env h => if dr then (aKx C rec nt ops (fun e h => nD h → N e h) ops.size (Array.replicate ops.size false) env h ∨
    (fE C.P ops = true ∧ ∃ k r, iH C rec nt ops k env h = some r ∧ ∀ env' h', k env' h' = some r → nD h' → N env' h'))
   else ∃ env' h', aIb C rec nt ops ops.toList env h env' h' ∧ (nD h' → N env' h')
 | .seq a b, X, R, N => qO C rec nt a X R (qO C rec nt b X R N)
 | .cond c a b, X, R, N => fun env h => (opr env c = .b true ∧ qO C rec nt a X R N env h) ∨ (opr env c = .b false ∧ qO C rec nt b X R N env h)
 | .block id a, X, R, N => qO C rec nt a (fun j => if j = id then N else X j) R N
 | .exit id, X, _, _ => X id
 | .scope a, X, R, N => qO C rec nt a X R N
 | .ret, _, R, _ => R
 | _, _, _, _ => fun _ _ => False
def StP (G : Gd) (nt : Nat) (ρ : dB) (w0 : World) (N : aW → Hp → Prop) (a : Act) (w : World) : Prop :=
 ∃ ρ' env h, Ex G ρ ρ' ∧ HR G ρ' h w ∧ EnvR ρ' env a ∧ Kp G w0 w ∧ nt ≤ a.tmps.size ∧ a.defers = [] ∧ N env h
def QP (G : Gd) (nt : Nat) (ρ : dB) (w0 : World) (X : Nat → aW → Hp → Prop) (R N : aW → Hp → Prop) : Exit → Act → World → Prop
 | .normal, a, w => StP G nt ρ w0 N a w
 | .exit id, a, w => StP G nt ρ w0 (X id) a w
 | .ret, a, w => StP G nt ρ w0 R a w
 | _, _, _ => False
theorem bJa (K : OkC C rec) (hm : C.P.follows .mixedOrders = true) {ρ : dB} {w0 : World} : ∀ (c : Code) (X : Nat → aW → Hp → Prop) (R N : aW → Hp → Prop) (a : Act) (w : World),
  StP G nt ρ w0 (qO C rec nt c X R N) a w → c.wp C.P (QP G nt ρ w0 X R N) a w := by
 intro c
 induction c with
 | skip => intro X R N a w h; exact wp_skip h
 | region id ops dr =>
  intro X R N a w h
  obtain ⟨ρ', env, hp, h1, h2, h3, h4, h5, h6, h7⟩ := h
  cases dr with
  | true =>
   simp only [qO, if_true] at h7
   rcases h7 with h7 | ⟨hok, k, r, h7, h8⟩
   ·refine wp_region_any hm (bMn K ops.size _ ρ' env hp a _ h7 (h2.congr rfl) h3 h5 h6 fun ρ2 env2 h2' a2 w2 e0 e1 e2 e3 e4 e5 e6 => ?_)
    exact ⟨ρ2, env2, h2', h1.trans e1, e2, e3, (h4.trans ((Kp.refl G w).drew)).trans e4, e5, e6, e0 e2.isFresh⟩
   ·exact aZq K hm hok h7 h2 h3 h5 h6 fun ρ2 env2 h2' a2 w2 e1 e2 e3 e4 e5 e6 e7 => ⟨ρ2, env2, h2', h1.trans e1, e2, e3, h4.trans e4, e5, e6, h8 _ _ e7 e2.isFresh⟩
  | false =>
   simp only [qO, Bool.false_eq_true, if_false] at h7
   obtain ⟨env', h', hr, hk⟩ := h7
   refine wp_region ?_
   have := aNb (Q := QP G nt ρ w0 X R N) K ops.toList 0 ρ' env hp a w (by simp) hr h2 h3 h5 h6 fun ρ2 a2 w2 e1 e2 e3 e4 e5 e6 => ⟨ρ2, env', h', h1.trans e1, e2, e3, h4.trans e4, e5, e6, hk e2.isFresh⟩
   rw [List.range_eq_range']
   simpa using this
 | seq x y ihx ihy =>
  intro X R N a w h
  refine wp_seq (wp_mono (ihx X R (qO C rec nt y X R N) a w h) fun e a' w' hq => ?_)
  cases e with
  | normal => exact ihy X R N a' w' hq
  | exit id => exact hq
  | ret => exact hq
  | goto l => exact hq
  | panic ch => exact hq
  | outgrown => exact hq
 | cond c x y ihx ihy =>
  intro X R N a w h
  obtain ⟨ρ', env, hp, h1, h2, h3, h4, h5, h6, h7⟩ := h
  have hc := bI h3 c
  rcases h7 with ⟨hcb, h7⟩ | ⟨hcb, h7⟩
  ·rw [hcb] at hc
   generalize hcv : a.eval c = cv at hc
   cases hc
   exact wp_cond_true hcv (ihx X R N a w ⟨ρ', env, hp, h1, h2, h3, h4, h5, h6, h7⟩)
  ·rw [hcb] at hc
   generalize hcv : a.eval c = cv at hc
   cases hc
   exact wp_cond_false hcv (ihy X R N a w ⟨ρ', env, hp, h1, h2, h3, h4, h5, h6, h7⟩)
 | block id x ih =>
  intro X R N a w h
  refine wp_block (wp_mono (ih (fun j => if j = id then N else X j) R N a w h) fun e a' w' hq => ?_)
  cases e with
  | normal => exact hq
  | exit id' =>
   simp only [QP] at hq
   simp only [Exit.inBlock]
   split
   ·rename_i e
    rw [if_pos e] at hq
    exact hq
   ·rename_i e
    rw [if_neg e] at hq
    exact hq
  | ret => exact hq
  | goto l => exact hq
  | panic ch => exact hq
  | outgrown => exact hq
 | loop x ih => rintro X R N a w ⟨ρ', env, hp, h1, h2, h3, h4, h5, h6, h7⟩; exact h7.elim
 | rangeFunc f ps x y ihx ihy => rintro X R N a w ⟨ρ', env, hp, h1, h2, h3, h4, h5, h6, h7⟩; exact h7.elim
 | exit id => intro X R N a w h; exact wp_exit h
 | scope x ih =>
  intro X R N a w h
  refine wp_scope_straight (wp_mono (ih X R N a w h) fun e a' w' hq => ?_)
  cases e with
  | goto l => exact hq
  | normal => exact hq
  | exit id => exact hq
  | ret => exact hq
  | panic ch => exact hq
  | outgrown => exact hq
 | label l => rintro X R N a w ⟨ρ', env, hp, h1, h2, h3, h4, h5, h6, h7⟩; exact h7.elim
 | goto l => rintro X R N a w ⟨ρ', env, hp, h1, h2, h3, h4, h5, h6, h7⟩; exact h7.elim
 | ret => intro X R N a w h; exact wp_ret h
 | refuse why => rintro X R N a w ⟨ρ', env, hp, h1, h2, h3, h4, h5, h6, h7⟩; exact h7.elim
def Le (h2 h1 : Hp) : Prop := ∀ G ρ w, HR G ρ h2 w → HR G ρ h1 w
theorem cXm (K : OkC C rec) (hP : POk C.P) {f : FuncId} {fn : Func} {c : Code} (hf : C.P.funcs[f]? = some fn) (hb : fn.body = some c) {F : List DV → Hp → aI}
  (hF : ∀ args h v h1, F args h = some (v, h1) → nD h → qO C rec fn.ntmps c (fun _ _ _ => False) (fun env h' => ∃ h2, aP C fn env h' = some (v, h2) ∧ Le h2 h1)
   (fun env h' => ∃ h2, aP C fn env h' = some (v, h2) ∧ Le h2 h1) (aG args) h) : mL C.P G f F := by
 intro args h v h1 hr ρ w args' H hargs
 refine .inl ⟨?_, ?_⟩
 ·unfold callFunc
  have hn : ¬ fn.name = "runtime.NumGoroutine" := by simpa using hP.names f fn hf
  simp [hf, hn, hb]
 ·refine calls_of_wp hf hb ?_
  have he : EnvR ρ (aG args) { tmps := args' ++ Array.replicate (fn.ntmps - args'.size) undef, defers := [] } := by
   intro t
   unfold aG
   have hlen := hargs.length
   simp only [Array.length_toList] at hlen
   by_cases ht : t < args.length
   ·have hg : args[t]? = some args[t] := by simp [ht]
    obtain ⟨v', h2, h3⟩ := hargs.get t _ hg
    simp only [Array.getElem?_toList] at h2
    rw [show args.getD t aV = args[t] by simp [List.getD, hg]]
    have : (args' ++ Array.replicate (fn.ntmps - args'.size) undef).getD t undef = v' := by
     simp [Array.getElem?_append_left (show t < args'.size by omega), h2]
    rw [this]
    exact h3
   ·have hg : args.getD t aV = aV := by simp [List.getD, List.getElem?_eq_none (Nat.le_of_not_lt ht)]
    rw [hg]
    have : (args' ++ Array.replicate (fn.ntmps - args'.size) undef).getD t undef = undef := by
     rw [Array.getD_eq_getD_getElem?, Array.getElem?_append_right (by omega)]
     simp only [Array.getElem?_replicate]
     split <;> rfl
    rw [this]
    exact .t [] #[] .nil
  have hst : StP G fn.ntmps ρ w _ { tmps := args' ++ Array.replicate (fn.ntmps - args'.size) undef, defers := [] } w :=
   ⟨ρ, aG args, h, Ex.refl G ρ, H, he, Kp.refl G w, by simp; omega, rfl, hF args h v h1 hr H.isFresh⟩
  refine wp_mono (bJa K hP.mixed c _ _ _ _ _ hst) fun e a' w' hq => ?_
  have hfin : StP G fn.ntmps ρ w (fun env h' => ∃ h2, aP C fn env h' = some (v, h2) ∧ Le h2 h1) a' w' → a'.defers = [] ∧ ∃ v', (results fn a'.tmps).run C.P w' = .ok v' w' ∧ lQ G ρ w v h1 (.returned v') w' := by
   rintro ⟨ρ', env, h', e1, e2, e3, e4, e5, e6, h2, e7, e8⟩
   obtain ⟨rfl, v', r1, r2⟩ := aVe e2 e3 e7
   exact ⟨e6, v', r1, ρ', v', rfl, e1, r2, e8 _ _ _ e2, e4⟩
  cases e with
  | normal => exact hfin hq
  | ret => exact hfin hq
  | exit id => obtain ⟨ρ', env, h', e1, e2, e3, e4, e5, e6, e7⟩ := hq; exact e7.elim
  | goto l => exact hq.elim
  | panic ch => exact hq.elim
  | outgrown => exact hq.elim
end
end Go.Dd

namespace Go.Dd
open Go.RowKit (Below)
section
variable {ro : Option Nat} {n : Nat} {P : Program} {Q : Exit → Act → World → Prop}
end
section
variable {C : Cfg} {G : Gd} {rec : FuncId → List DV → Hp → aI} {nt n : Nat}
end
end Go.Dd

namespace Go.Dd
open Go.RowKit (Below)
section
variable {G G' : Gd} {ρ : dB} {h : Hp} {w : World}
end
end Go.Dd

namespace Go.Dd
open Go.RowKit (Below)
structure ItC where
 gf : FuncId
 nt : Nat
 pre : Code
 b0 : Nat
 test : Code
 b1 : Nat
 rid : Nat
 front : List Oper
 y : Oper
 back : List Oper
 after : Code
 post : Code
 step : Code
 yd : Tmp
 yt : Tmp
 yx : Tmp
def ItC.ops (I : ItC) : Array Oper := (I.front ++ I.y :: I.back).toArray
def aLi : Nat → K := fun _ => dL
def ylB (v : DV) (b : Pos) : Bool := match v with
 | .yl b' => b' == b
 | _ => false
section
variable (C : Cfg) (rec : FuncId → List DV → Hp → aI) (n : Nat) (I : ItC)
noncomputable def aLr (b : Bool) (kr k : K) (e1 : aW) : Hp → aI := fun h =>
 cnd (cZ I.nt (some I.yd)) (iT C rec I.nt I.ops I.back (aM C rec I.nt n I.after aLi kr k) (bN e1 (some I.yd) (.b b)) h)
noncomputable def aPe (nt : Nat) (p : Tmp) (x y : Code) (env : aW) (X : Nat → K) (kr kk : K) : K := fun e1 h1 =>
 cnd (cZ nt (some p)) (aM C rec nt n x aLi dL (aM C rec nt n y
   (fun i _ h2 => aLr C rec n I false (fun _ h3 => X i env h3) dL e1 h2)
   (fun _ h2 => aLr C rec n I false (fun _ h3 => kr env h3) dL e1 h2)
   (fun _ h2 => aLr C rec n I true dL (aM C rec I.nt n I.post aLi dL (aM C rec I.nt n I.step aLi dL kk)) e1 h2))
  (bN env (some p) (e1 I.yx)) h1)
noncomputable def aCo (nt : Nat) (g : Operand) (p : Tmp) (x y : Code) (X : Nat → K) (kr k : K) : K := fun env h =>
 match opr env g with
 | .f gf [] cap => cnd (Nat.beq gf I.gf) (aM C rec I.nt n I.pre aLi dL
   (aR (fun kk => aM C rec I.nt n I.test (fun j => bif Nat.beq j I.b0 then (fun _ h => k env h) else dL) dL
    (iT C rec I.nt I.ops I.front (fun e1 h1 => cnd (ylB (e1 I.yt) h.next) (aPe C rec n I nt p x y env X kr kk e1 h1)))) n)
   (aG (.yl h.next :: cap)) (resv 2 h))
 | _ => none
end
section
variable {C : Cfg} {G : Gd} {rec : FuncId → List DV → Hp → aI} {n : Nat} {I : ItC} {N : Nat}
end
end Go.Dd

namespace Go.Dd
open Go.RowKit (Below)
section
variable {C : Cfg} {G : Gd} {rec : FuncId → List DV → Hp → aI} {n : Nat} {I : ItC} {N : Nat}
section
variable {ρ : dB} {w0 : World} {D l : Nat} {nt : Nat} {p : Tmp} {x y : Code} {f0 : FuncId} {a0 : Act} {env : aW} {X : Nat → Dd.K} {kr k : Dd.K} {r : DV × Hp} {b : Pos}
end
end
end Go.Dd

namespace Go.Dd
open Go.RowKit (Below)
section
variable {C : Cfg} {G : Gd} {rec : FuncId → List DV → Hp → aI} {n : Nat} {I : ItC} {N : Nat}
variable {ρ : dB} {w0 : World} {D l : Nat} {nt : Nat} {p : Tmp} {x y : Code} {f0 : FuncId} {a0 : Act} {env : aW} {X : Nat → Dd.K} {kr k : Dd.K} {r : DV × Hp} {b : Pos}
end
end Go.Dd

namespace Go.Dd
open Go.RowKit (Below)
section
variable {C : Cfg} {G : Gd} {rec : FuncId → List DV → Hp → aI} {n : Nat} {I : ItC} {N : Nat}
end
end Go.Dd

namespace Go.Dd
open Go.RowKit (Below)
noncomputable def dSb (ps : Array Tmp) (k : Tmp → K) : K := match ps.toList with
 | [p] => k p
 | _ => dL
section
variable (C : Cfg) (rec : FuncId → List DV → Hp → aI) (nt n : Nat) (I : ItC)
noncomputable def bVs (c : Code) : (Nat → K) → K → K → K :=
 Code.rec (motive := fun _ => (Nat → K) → K → K → K)
  (fun _ _ k => k)
  (fun _ ops dr _ _ k => Bool.rec (motive := fun _ => K) (iT C rec nt ops ops.toList k) (Bool.rec (motive := fun _ => K) dL (iH C rec nt ops k) (fE C.P ops)) dr)
  (fun _ _ iha ihb X kr k => iha X kr (ihb X kr k))
  (fun c _ _ iha ihb X kr k => fun env h => aT (opr env c) (iha X kr k env h) (ihb X kr k env h))
  (fun id _ ih X kr k => ih (fun j => bif Nat.beq j id then k else X j) kr k)
  (fun _ ih X kr _ => aR (fun kk => ih X kr kk) n)
  (fun g ps x y _ _ X kr k => dSb ps fun p => aCo C rec n I nt g p x y X kr k)
  (fun id X _ _ => X id)
  (fun _ _ _ _ _ => dL)
  (fun _ _ _ _ => dL)
  (fun _ _ _ _ => dL)
  (fun _ kr _ => kr)
  (fun _ _ _ _ => dL) c
noncomputable def mD (f : FuncId) (args : List DV) (h : Hp) : aI :=
 match C.P.funcs[f]? with
 | some fn => match fn.body with
  | some c => bVs C rec fn.ntmps n I c (fun _ => dL) (aP C fn) (aP C fn) (aG args) h
  | none => none
 | none => none
end
section
variable {C : Cfg} {G : Gd} {rec : FuncId → List DV → Hp → aI} {nt n : Nat} {I : ItC}
end
end Go.Dd

namespace Go.Dd
noncomputable section
def WT.get (t : WT) : Nat → Int :=
 WT.rec (motive := fun _ => Nat → Int) (fun _ => .ofNat 0)
  (fun _ v _ ihl ihr k => bif Nat.beq k 0 then v else bif Nat.beq (Nat.mod k 2) 1 then ihl (Nat.div k 2) else ihr (Nat.div (Nat.sub k 1) 2)) t
def dVh (x : Int) (fuel : Nat) : Nat → WT → WT :=
 Nat.rec (motive := fun _ => Nat → WT → WT) (fun _ t => t)
  (fun _ ih k t => WT.rec (motive := fun _ => WT)
   (bif Nat.beq k 0 then .n .e x .e else bif Nat.beq (Nat.mod k 2) 1 then .n (ih (Nat.div k 2) .e) (.ofNat 0) .e else .n .e (.ofNat 0) (ih (Nat.div (Nat.sub k 1) 2) .e))
   (fun l v r _ _ => bif Nat.beq k 0 then .n l x r else bif Nat.beq (Nat.mod k 2) 1 then .n (ih (Nat.div k 2) l) v r else .n l v (ih (Nat.div (Nat.sub k 1) 2) r)) t) fuel
def WT.set (t : WT) (k : Nat) (x : Int) : WT := dVh x 24 k t
theorem WT.get_e (k : Nat) : WT.e.get k = 0 := rfl
theorem dVe (l : WT) (v : Int) (r : WT) (k : Nat) : (WT.n l v r).get k = if k = 0 then v else if k % 2 = 1 then l.get (k / 2) else r.get ((k - 1) / 2) := by
 show (bif Nat.beq k 0 then v else bif Nat.beq (Nat.mod k 2) 1 then l.get (Nat.div k 2) else r.get (Nat.div (Nat.sub k 1) 2)) = _
 cases h0 : Nat.beq k 0 with
 | true => have := Nat.eq_of_beq_eq_true h0; subst this; rfl
 | false =>
  have n0 : k ≠ 0 := by intro e; subst e; cases h0
  rw [if_neg n0]
  cases h1 : Nat.beq (Nat.mod k 2) 1 with
  | true => have : k % 2 = 1 := Nat.eq_of_beq_eq_true h1; rw [if_pos this]; rfl
  | false =>
   have n1 : k % 2 ≠ 1 := by intro e; have e' : Nat.mod k 2 = 1 := e; rw [e'] at h1; cases h1
   rw [if_neg n1]; rfl
theorem dVq (x : Int) (f k : Nat) (t : WT) : dVh x (f + 1) k t = match t with
  | .e => if k = 0 then .n .e x .e else if k % 2 = 1 then .n (dVh x f (k / 2) .e) 0 .e else .n .e 0 (dVh x f ((k - 1) / 2) .e)
  | .n l v r => if k = 0 then .n l x r else if k % 2 = 1 then .n (dVh x f (k / 2) l) v r else .n l v (dVh x f ((k - 1) / 2) r) := by
 have hb : ∀ {α : Type} (a b c : α), (bif Nat.beq k 0 then a else bif Nat.beq (Nat.mod k 2) 1 then b else c) = if k = 0 then a else if k % 2 = 1 then b else c := by
  intro α a b c
  cases h0 : Nat.beq k 0 with
  | true => have := Nat.eq_of_beq_eq_true h0; subst this; rfl
  | false =>
   have n0 : k ≠ 0 := by intro e; subst e; cases h0
   rw [if_neg n0]
   cases h1 : Nat.beq (Nat.mod k 2) 1 with
   | true => have : k % 2 = 1 := Nat.eq_of_beq_eq_true h1; rw [if_pos this]; rfl
   | false =>
    have n1 : k % 2 ≠ 1 := by intro e; have e' : Nat.mod k 2 = 1 := e; rw [e'] at h1; cases h1
    rw [if_neg n1]; rfl
 cases t with
 | e => exact hb _ _ _
 | n l v r => exact hb _ _ _
theorem dVk (x : Int) : ∀ (f k : Nat) (t : WT) (j : Nat), k + 1 < 2 ^ f → (dVh x f k t).get j = if j = k then x else t.get j
 | 0, k, t, j, h => by simp at h
 | f + 1, k, t, j, h => by
  have h2 : 2 ^ (f + 1) = 2 * 2 ^ f := by rw [Nat.pow_succ]; omega
  have ih := fun k t j (h : k + 1 < 2 ^ f) => dVk x f k t j h
  rw [dVq]
  cases t with
  | e =>
   simp only
   split
   ·subst_vars
    rw [dVe]
    split
    ·rfl
    ·simp [WT.get_e]
   ·split
    ·rw [dVe]
     split
     ·subst_vars; rw [if_neg (by omega)]; rfl
     ·split
      ·rw [ih _ _ _ (by omega), WT.get_e, WT.get_e]
       by_cases hj : j = k
       ·rw [if_pos hj, if_pos (by omega)]
       ·rw [if_neg hj, if_neg (by omega)]
      ·rw [WT.get_e, if_neg (by omega)]; rfl
    ·rw [dVe]
     split
     ·subst_vars; rw [if_neg (by omega)]; rfl
     ·split
      ·rw [WT.get_e, if_neg (by omega)]; rfl
      ·rw [ih _ _ _ (by omega), WT.get_e, WT.get_e]
       by_cases hj : j = k
       ·rw [if_pos hj, if_pos (by omega)]
       ·rw [if_neg hj, if_neg (by omega)]
  | n l v r =>
   simp only
   split
   ·subst_vars
    rw [dVe, dVe]
    split
    ·rfl
    ·rfl
   ·split
    ·rw [dVe, dVe]
     split
     ·subst_vars; rw [if_neg (by omega)]
     ·split
      ·rw [ih _ _ _ (by omega)]
       by_cases hj : j = k
       ·rw [if_pos hj, if_pos (by omega)]
       ·rw [if_neg hj, if_neg (by omega)]
      ·rw [if_neg (by omega)]
    ·rw [dVe, dVe]
     split
     ·subst_vars; rw [if_neg (by omega)]
     ·split
      ·rw [if_neg (by omega)]
      ·rw [ih _ _ _ (by omega)]
       by_cases hj : j = k
       ·rw [if_pos hj, if_pos (by omega)]
       ·rw [if_neg hj, if_neg (by omega)]
theorem WT.get_set (t : WT) (k : Nat) (x : Int) (j : Nat) (h : k < 16000000) : (t.set k x).get j = if j = k then x else t.get j :=
 dVk x 24 k t j (by omega)
def gY (n : Nat) (t : WT) : List DV := (List.range n).map fun i => .i .i64 (t.get i)
def tB (g : Bool) : Ob → Ob → Prop
 | .big n t, o => if g then o = .big n t else o = .row .ex (gY n t)
 | .mi t, o => if g then o = .mi t else ∃ es, o = .mp es ∧ ∀ a : Int, dI (.int .i64) (.i .i64 a) es = some (if 0 ≤ a ∧ t.get a.toNat ≠ 0 then some (.b true) else none)
 | o, o' => o' = o
structure Sim (g : Bool) (h h' : Hp) : Prop where
 next : h'.next = h.next
 get : ∀ b o, h.bl.get b = some o → ∃ o', h'.bl.get b = some o' ∧ tB g o o'
def SimR (g : Bool) (r r' : aI) : Prop := ∀ v h, r = some (v, h) → ∃ h', r' = some (v, h') ∧ Sim g h h'
def SimP (g : Bool) (p p' : Hp → aI) : Prop := ∀ h h', Sim g h h' → SimR g (p h) (p' h')
variable {h h' : Hp} {g : Bool}
theorem Sim.row (S : Sim g h h') {b : Pos} {k : Kind} {l : List DV} (hb : h.bl.get b = some (.row k l)) : h'.bl.get b = some (.row k l) := by
 obtain ⟨o', h1, h2⟩ := S.get b _ hb
 rw [h1, show o' = .row k l from h2]
theorem Sim.it (S : Sim g h h') {b : Pos} {s : List Nat} {p : Nat} (hb : h.bl.get b = some (.it s p)) : h'.bl.get b = some (.it s p) := by
 obtain ⟨o', h1, h2⟩ := S.get b _ hb
 rw [h1, show o' = .it s p from h2]
theorem Sim.mp (S : Sim g h h') {b : Pos} {es : List (DV × DV)} (hb : h.bl.get b = some (.mp es)) : h'.bl.get b = some (.mp es) := by
 obtain ⟨o', h1, h2⟩ := S.get b _ hb
 rw [h1, show o' = .mp es from h2]
theorem Sim.set (S : Sim g h h') {o o' : Ob} (hr : tB g o o') (b n : Pos) : Sim g ⟨n, Tr.set o b h.bl⟩ ⟨n, Tr.set o' b h'.bl⟩ := by
 refine ⟨rfl, fun x ob hx => ?_⟩
 by_cases e : x = b
 ·subst e
  simp only [dUm, bG] at hx ⊢
  subst hx
  exact ⟨o', rfl, hr⟩
 ·simp only [dUl _ _ _ _ e] at hx ⊢
  exact S.get x ob hx
theorem Sim.setR (S : Sim g h h') (k : Kind) (l : List DV) (b n : Pos) : Sim g ⟨n, Tr.set (.row k l) b h.bl⟩ ⟨n, Tr.set (.row k l) b h'.bl⟩ := S.set (show tB g (.row k l) (.row k l) from rfl) b n
theorem Sim.setM (S : Sim g h h') (es : List (DV × DV)) (b n : Pos) : Sim g ⟨n, Tr.set (.mp es) b h.bl⟩ ⟨n, Tr.set (.mp es) b h'.bl⟩ := S.set (show tB g (.mp es) (.mp es) from rfl) b n
theorem Sim.setI (S : Sim g h h') (s : List Nat) (p : Nat) (b n : Pos) : Sim g ⟨n, Tr.set (.it s p) b h.bl⟩ ⟨n, Tr.set (.it s p) b h'.bl⟩ := S.set (show tB g (.it s p) (.it s p) from rfl) b n
theorem Sim.new (S : Sim g h h') {o o' : Ob} (hr : tB g o o') : Sim g ⟨h.next.succ, Tr.set o h.next h.bl⟩ ⟨h'.next.succ, Tr.set o' h'.next h'.bl⟩ := by
 rw [S.next]; exact S.set hr _ _
theorem SimR.none (r : aI) : SimR g none r := fun v h e => by cases e
theorem SimR.some (S : Sim g h h') (v : DV) : SimR g (some (v, h)) (some (v, h')) := fun u k e => by
 simp only [bG, bQ] at e
 obtain ⟨rfl, rfl⟩ := e
 exact ⟨h', rfl, S⟩
theorem dUp {F : Hp → aI} (hF : PureP F) : SimP g F F := fun h h' S v k e => by
 obtain ⟨rfl, h2⟩ := hF h v k e
 exact ⟨h', h2 h', S⟩
theorem Sim.rowOf (S : Sim g h h') {b : Pos} {l : List DV} (hb : rowOf b h = some l) : rowOf b h' = some l := by
 unfold Dd.rowOf at hb ⊢
 split at hb <;> (try (cases hb; done))
 rename_i k l0 h0
 rw [S.row h0]; exact hb
theorem Sim.cellsAt (S : Sim g h h') {b : Pos} {o n : Nat} {cs : List DV} (hb : cellsAt b o n h = some cs) : cellsAt b o n h' = some cs := by
 unfold Dd.cellsAt at hb ⊢
 split at hb <;> (try (cases hb; done))
 rename_i l h0
 rw [S.rowOf h0]; exact hb
theorem Sim.cellD (S : Sim g h h') {b : Pos} {o : Nat} {v : DV} (hb : cellD b o h = some v) : cellD b o h' = some v := by
 unfold Dd.cellD at hb ⊢
 split at hb <;> (try (cases hb; done))
 rename_i l h0
 rw [S.rowOf h0]; exact hb
theorem Sim.storeAt (S : Sim g h h') {b : Pos} {o : Nat} {vs : List DV} {k : Hp} (hb : cX b o vs h = some k) : ∃ k', cX b o vs h' = some k' ∧ Sim g k k' := by
 unfold cX at hb ⊢
 split at hb <;> (try (cases hb; done))
 rename_i kd l h0
 rw [S.row h0]
 dsimp only
 split at hb <;> (try (cases hb; done))
 rename_i hw
 rw [if_pos hw]
 split at hb <;> (try (cases hb; done))
 rename_i l' hp
 simp only [bG] at hb
 subst hb
 try simp only [hp]
 exact ⟨_, rfl, by rw [S.next]; exact S.set (show tB g (.row kd l') (.row kd l') from rfl) _ _⟩
theorem aGd (cs : List DV) : SimP g (bR cs) (bR cs) := fun h h' S v k e => by
 simp only [bR, bG, bQ] at e ⊢
 obtain ⟨rfl, rfl⟩ := e
 exact ⟨_, ⟨by rw [S.next], rfl⟩, S.new rfl⟩
theorem aAa (b : Pos) (cs : List DV) : SimP g (kC b cs) (kC b cs) := fun h h' S v k e => by
 simp only [kC, bG, bQ] at e ⊢
 obtain ⟨rfl, rfl⟩ := e
 exact ⟨_, ⟨rfl, rfl⟩, by rw [S.next]; first | exact S.setR _ _ _ _ | exact S.setM _ _ _ | exact S.setI _ _ _ _⟩
theorem cCb (x : DV) : SimP g (bX x) (bX x) := by
 unfold bX
 cases cY x with
 | none => exact fun h h' S => SimR.none _
 | some cs => exact aGd cs
theorem bFz (b : Pos) (x : DV) : SimP g (zD b x) (zD b x) := by
 unfold zD
 cases cY x with
 | none => exact fun h h' S => SimR.none _
 | some cs => exact aAa b cs
theorem kK (x : DV) : SimP g (aA x) (aA x) := fun h h' S v k e => by
 unfold aA at e ⊢
 split at e <;> (try (cases e; done))
 split at e <;> (try (cases e; done))
 rename_i hc
 simp only [bG, bQ] at e
 obtain ⟨rfl, rfl⟩ := e
 simp only [S.cellD hc]
 exact ⟨_, rfl, S⟩
theorem kM (n : Nat) (x : DV) : SimP g (aK n x) (aK n x) := fun h h' S v k e => by
 unfold aK at e ⊢
 split at e <;> (try (cases e; done))
 split at e <;> (try (cases e; done))
 rename_i hc
 simp only [bG, bQ] at e
 obtain ⟨rfl, rfl⟩ := e
 simp only [S.cellsAt hc]
 exact ⟨_, rfl, S⟩
theorem kS (n : Nat) (x y : DV) : SimP g (aH n x y) (aH n x y) := fun h h' S v k e => by
 unfold aH at e ⊢
 split at e <;> (try (cases e; done))
 rename_i b o cs hc
 try rw [hc]
 try dsimp only
 split at e <;> (try (cases e; done))
 rename_i hn
 rw [if_pos hn]
 split at e <;> (try (cases e; done))
 rename_i k0 hs
 simp only [bG, bQ] at e
 obtain ⟨rfl, rfl⟩ := e
 obtain ⟨k', h1, h2⟩ := S.storeAt hs
 try simp only [h1]
 exact ⟨_, rfl, h2⟩
theorem bDa (size : Nat) (x : DV) (lo hi : Option DV) : SimP g (cV size x lo hi) (cV size x lo hi) := fun h h' S v k e => by
 unfold cV at e ⊢
 split at e <;> (try (cases e; done))
 ·split at e <;> (try (cases e; done))
  rename_i en he
  try simp only [he]
  split at e <;> (try (cases e; done))
  rename_i s hs
  try simp only [hs]
  split at e <;> (try (cases e; done))
  ·rename_i l0 hb
   rw [S.row hb]
   simp only [bG, bQ] at e
   obtain ⟨rfl, rfl⟩ := e
   exact ⟨_, rfl, S⟩
  ·rename_i l0 hb
   rw [S.row hb]
   simp only [bG, bQ] at e
   obtain ⟨rfl, rfl⟩ := e
   exact ⟨_, rfl, S⟩
  ·rename_i k0 l0 n1 n2 hb
   rw [S.row hb]
   cases k0 with
   | ro => exact absurd rfl n1
   | ex => exact absurd rfl n2
   | gr es =>
    dsimp only
    split at e
    ·rename_i hcs
     simp only [bG, bQ] at e
     obtain ⟨rfl, rfl⟩ := e
     rw [if_pos hcs]
     exact ⟨_, rfl, S⟩
    ·rename_i hcs
     simp only [bG, bQ] at e
     obtain ⟨rfl, rfl⟩ := e
     rw [if_neg hcs]
     exact ⟨_, rfl, S⟩
   | sp =>
    dsimp only
    split at e
    ·rename_i hcs
     simp only [bG, bQ] at e
     obtain ⟨rfl, rfl⟩ := e
     rw [if_pos hcs]
     exact ⟨_, rfl, S⟩
    ·rename_i hcs
     simp only [bG, bQ] at e
     obtain ⟨rfl, rfl⟩ := e
     rw [if_neg hcs]
     exact ⟨_, rfl, S⟩
 all_goals
  split at e <;> (try (cases e; done))
  rename_i en he
  try simp only [he]
  split at e <;> (try (cases e; done))
  rename_i s hs
  try simp only [hs]
  simp only [bG, bQ] at e
  obtain ⟨rfl, rfl⟩ := e
  exact ⟨_, rfl, S⟩
theorem aQb (x : DV) (lo : Option DV) (hi mx : DV) : SimP g (mT x lo hi mx) (mT x lo hi mx) := fun h h' S v k e => by
 unfold mT at e ⊢
 split at e <;> (try (cases e; done))
 all_goals
  split at e <;> (try (cases e; done))
 ·rename_i m e1
  try simp only [e1]
  split at e <;> (try (cases e; done))
  rename_i n e2
  try simp only [e2]
  simp only [bG, bQ] at e
  obtain ⟨rfl, rfl⟩ := e
  exact ⟨_, rfl, S⟩
 ·rename_i m e1
  try simp only [e1]
  split at e <;> (try (cases e; done))
  rename_i n e2
  try simp only [e2]
  simp only [bG, bQ] at e
  obtain ⟨rfl, rfl⟩ := e
  exact ⟨_, rfl, S⟩
 ·rename_i n1 n2 e1 e2
  try simp only [e1, e2]
  simp only [bG, bQ] at e
  obtain ⟨rfl, rfl⟩ := e
  exact ⟨_, rfl, S⟩
 ·rename_i n1 n2 e1 e2
  try simp only [e1, e2]
  simp only [bG, bQ] at e
  obtain ⟨rfl, rfl⟩ := e
  exact ⟨_, rfl, S⟩
theorem bEg (x : DV) : SimP g (gM x) (gM x) := fun h h' S v k e => by
 unfold gM at e ⊢
 split at e <;> (try (cases e; done))
 ·simp only [bG, bQ] at e
  obtain ⟨rfl, rfl⟩ := e
  exact ⟨_, rfl, S⟩
 ·split at e <;> (try (cases e; done))
  rename_i cs hc
  simp only [S.cellsAt hc]
  split at e <;> (try (cases e; done))
  rename_i l hl
  try simp only [hl]
  simp only [bG, bQ] at e
  obtain ⟨rfl, rfl⟩ := e
  exact ⟨_, rfl, S⟩
theorem zB (z : List DV) (n : Nat) (ps : List (Nat × Nat × DV)) : SimP g (aL z n ps) (aL z n ps) := fun h h' S v k e => by
 unfold aL at e ⊢
 split at e <;> (try (cases e; done))
 rename_i cs hf
 try simp only [hf]
 simp only [bG, bQ] at e ⊢
 obtain ⟨rfl, rfl⟩ := e
 exact ⟨_, ⟨by rw [S.next], rfl⟩, S.new rfl⟩
theorem qP (b : Pos) (z : List DV) (n : Nat) (ps : List (Nat × Nat × DV)) : SimP g (bL b z n ps) (bL b z n ps) := fun h h' S v k e => by
 unfold bL at e ⊢
 split at e <;> (try (cases e; done))
 rename_i cs hf
 try simp only [hf]
 simp only [bG, bQ] at e ⊢
 obtain ⟨rfl, rfl⟩ := e
 exact ⟨_, ⟨rfl, rfl⟩, by rw [S.next]; first | exact S.setR _ _ _ _ | exact S.setM _ _ _ | exact S.setI _ _ _ _⟩
theorem aLv : SimP g dY dY := fun h h' S v k e => by
 simp only [dY, bG, bQ] at e ⊢
 obtain ⟨rfl, rfl⟩ := e
 exact ⟨_, ⟨by rw [S.next], rfl⟩, S.new rfl⟩
theorem Sim.entries (S : Sim g h h') {x : DV} {es : List (DV × DV)} (he : fL x h = some es) : fL x h' = some es := by
 unfold fL at he ⊢
 split at he <;> (try (cases he; done))
 ·exact he
 ·split at he <;> (try (cases he; done))
  rename_i hb
  rw [S.mp hb]; exact he
theorem aTe (d : TypeDesc) (z : DV) (ok : Bool) (x key : DV) : SimP g (dM d z ok x key) (dM d z ok x key) := fun h h' S v k e => by
 unfold dM at e ⊢
 split at e <;> (try (cases e; done))
 rename_i es he
 simp only [S.entries he]
 split at e <;> (try (cases e; done))
 all_goals
  rename_i hf
  try simp only [hf]
  simp only [bG, bQ] at e
  obtain ⟨rfl, rfl⟩ := e
  exact ⟨_, rfl, S⟩
theorem aPa (d : TypeDesc) (x key y : DV) : SimP g (fY d x key y) (fY d x key y) := fun h h' S v k e => by
 unfold fY at e ⊢
 split at e <;> (try (cases e; done))
 split at e <;> (try (cases e; done))
 rename_i b _ es hb
 rw [S.mp hb]
 dsimp only
 split at e <;> (try (cases e; done))
 rename_i hf
 try simp only [hf]
 simp only [bG, bQ] at e
 obtain ⟨rfl, rfl⟩ := e
 exact ⟨_, rfl, by rw [S.next]; first | exact S.setR _ _ _ _ | exact S.setM _ _ _ | exact S.setI _ _ _ _⟩
theorem aHf (d : TypeDesc) (z x key : DV) : SimP g (fR d z x key) (fR d z x key) := fun h h' S v k e => by
 unfold fR at e ⊢
 split at e <;> (try (cases e; done))
 split at e <;> (try (cases e; done))
 rename_i b _ es hb
 rw [S.mp hb]
 dsimp only
 split at e <;> (try (cases e; done))
 all_goals
  rename_i hf
  try simp only [hf]
  simp only [bG, bQ] at e
  obtain ⟨rfl, rfl⟩ := e
  exact ⟨_, rfl, by rw [S.next]; first | exact S.setR _ _ _ _ | exact S.setM _ _ _ | exact S.setI _ _ _ _⟩
theorem vR (x s y : DV) : SimP g (eB x s y) (eB x s y) := fun h h' S v k e => by
 unfold eB at e ⊢
 split at e <;> (try (cases e; done))
 split at e <;> (try (cases e; done))
 rename_i es hb
 rw [S.mp hb]
 dsimp only
 split at e <;> (try (cases e; done))
 rename_i hf
 try simp only [hf]
 simp only [bG, bQ] at e
 obtain ⟨rfl, rfl⟩ := e
 exact ⟨_, rfl, by rw [S.next]; first | exact S.setR _ _ _ _ | exact S.setM _ _ _ | exact S.setI _ _ _ _⟩
theorem zP (size bytes : Nat) (z : List DV) (n c : DV) : SimP g (cK size bytes z n c) (cK size bytes z n c) := fun h h' S v k e => by
 unfold cK at e ⊢
 split at e <;> (try (cases e; done))
 split at e <;> (try (cases e; done))
 rename_i hc
 rw [if_pos hc]
 simp only [bG, bQ] at e ⊢
 obtain ⟨rfl, rfl⟩ := e
 exact ⟨_, ⟨by rw [S.next], rfl⟩, S.new rfl⟩
theorem bEu (z : List DV) (x : DV) : SimP g (jG z x) (jG z x) := fun h h' S v k e => by
 unfold jG at e ⊢
 split at e <;> (try (cases e; done))
 ·simp only [bG, bQ] at e
  obtain ⟨rfl, rfl⟩ := e
  exact ⟨_, rfl, S⟩
 ·simp only [bG, bQ] at e
  obtain ⟨rfl, rfl⟩ := e
  exact ⟨_, rfl, S⟩
 ·split at e
  ·rename_i hn
   simp only [bG, bQ] at e
   obtain ⟨rfl, rfl⟩ := e
   simp only [hn, if_true]
   exact ⟨_, rfl, S⟩
  ·rename_i hn
   rw [if_neg hn]
   split at e <;> (try (cases e; done))
   rename_i k0 hs
   simp only [bG, bQ] at e
   obtain ⟨rfl, rfl⟩ := e
   obtain ⟨k', h1, h2⟩ := S.storeAt hs
   try simp only [h1]
   exact ⟨_, rfl, h2⟩
theorem Sim.src (S : Sim g h h') {size : Nat} {x : DV} {r : Nat × List DV} (hs : sI size x h = some r) : sI size x h' = some r := by
 unfold sI at hs ⊢
 split at hs <;> (try (cases hs; done))
 ·exact hs
 ·exact hs
 ·split at hs <;> (try (cases hs; done))
  rename_i hc
  simp only [S.cellsAt hc]; exact hs
 ·split at hs <;> (try (cases hs; done))
  rename_i hc
  simp only [S.cellsAt hc]; exact hs
 ·exact hs
theorem aPi (size bytes : Nat) (s x : DV) : SimP g (bB size bytes s x) (bB size bytes s x) := fun h h' S v k e => by
 unfold bB at e ⊢
 split at e <;> (try (cases e; done))
 rename_i n new hs
 simp only [S.src hs]
 split at e <;> (try (cases e; done))
 ·split at e
  ·rename_i hn
   rw [if_pos hn]
   simp only [bG, bQ] at e
   obtain ⟨rfl, rfl⟩ := e
   exact ⟨_, rfl, S⟩
  ·rename_i hn
   rw [if_neg hn]
   split at e <;> (try (cases e; done))
   rename_i hr
   rw [if_pos hr]
   simp only [bG, bQ] at e ⊢
   obtain ⟨rfl, rfl⟩ := e
   exact ⟨_, ⟨by rw [S.next], rfl⟩, S.new rfl⟩
 ·split at e <;> (try (cases e; done))
  rename_i hn
  rw [if_pos hn]
  simp only [bG, bQ] at e
  obtain ⟨rfl, rfl⟩ := e
  exact ⟨_, rfl, S⟩
 ·rename_i b o len cap
  split at e
  ·rename_i hle
   rw [if_pos hle]
   split at e <;> (try (cases e; done))
   rename_i k0 hst
   simp only [bG, bQ] at e
   obtain ⟨rfl, rfl⟩ := e
   obtain ⟨k', h1, h2⟩ := S.storeAt hst
   try simp only [h1]
   exact ⟨_, rfl, h2⟩
  ·rename_i hle
   rw [if_neg hle]
   split at e <;> (try (cases e; done))
   rename_i k0 l old hb hold
   rw [S.row hb, S.cellsAt hold]
   dsimp only
   split at e <;> (try (cases e; done))
   rename_i hroom
   rw [if_pos hroom]
   split at e <;> (try (cases e; done))
   ·simp only [bG, bQ] at e ⊢
    obtain ⟨rfl, rfl⟩ := e
    exact ⟨_, ⟨by rw [S.next], rfl⟩, S.new rfl⟩
   ·simp only [bG, bQ] at e ⊢
    obtain ⟨rfl, rfl⟩ := e
    exact ⟨_, ⟨by rw [S.next], rfl⟩, S.new rfl⟩
   ·split at e <;> (try (cases e; done))
    rename_i hes
    rw [if_pos hes]
    simp only [bG, bQ] at e ⊢
    obtain ⟨rfl, rfl⟩ := e
    refine ⟨_, ⟨by rw [S.next], rfl⟩, ?_⟩
    have S1 : Sim g ⟨h.next, Tr.set (.row .sp (bT o l)) b h.bl⟩ ⟨h'.next, Tr.set (.row .sp (bT o l)) b h'.bl⟩ := by
     rw [S.next]; exact S.set (show tB g (.row .sp (bT o l)) (.row .sp (bT o l)) from rfl) _ _
    exact S1.new rfl
 ·rename_i b o len cap
  split at e
  ·rename_i hn
   rw [if_pos hn]
   split at e <;> (try (cases e; done))
   rename_i hc
   rw [if_pos hc]
   simp only [bG, bQ] at e
   obtain ⟨rfl, rfl⟩ := e
   exact ⟨_, rfl, S⟩
  ·rename_i hn
   rw [if_neg hn]
   split at e <;> (try (cases e; done))
   rename_i hc
   rw [if_neg hc]
   split at e <;> (try (cases e; done))
   rename_i old hold
   simp only [S.cellsAt hold]
   split at e <;> (try (cases e; done))
   rename_i hr
   rw [if_pos hr]
   simp only [bG, bQ] at e ⊢
   obtain ⟨rfl, rfl⟩ := e
   exact ⟨_, ⟨by rw [S.next], rfl⟩, S.new rfl⟩
theorem bEz (x : DV) : SimP g (oI x) (oI x) := fun h h' S v k e => by
 unfold oI at e ⊢
 split at e <;> (try (cases e; done))
 simp only [bG, bQ] at e ⊢
 obtain ⟨rfl, rfl⟩ := e
 exact ⟨_, ⟨by rw [S.next], rfl⟩, S.new rfl⟩
theorem bNr (x : DV) : SimP g (vJ x) (vJ x) := fun h h' S v k e => by
 unfold vJ at e ⊢
 split at e <;> (try (cases e; done))
 split at e <;> (try (cases e; done))
 rename_i b _ l pos hb
 rw [S.it hb]
 dsimp only
 split at e
 ·rename_i c hc
  try simp only [hc]
  split at e <;> (try (cases e; done))
  rename_i hlt
  rw [if_pos hlt]
  simp only [bG, bQ] at e ⊢
  obtain ⟨rfl, rfl⟩ := e
  exact ⟨_, ⟨rfl, rfl⟩, by rw [S.next]; first | exact S.setR _ _ _ _ | exact S.setM _ _ _ | exact S.setI _ _ _ _⟩
 ·rename_i hc
  try simp only [hc]
  simp only [bG, bQ] at e ⊢
  obtain ⟨rfl, rfl⟩ := e
  exact ⟨_, ⟨rfl, rfl⟩, S⟩
end
end Go.Dd

namespace Go.Dd
theorem SimP.none {gg : Bool} (p : Hp → aI) : SimP gg (fun _ => Option.none) p := fun h h' S => SimR.none _
theorem SimP.val {gg : Bool} (v : DV) : SimP gg (fun h => some (v, h)) (fun h => some (v, h)) := fun h h' S => SimR.some S v
section
variable {gg : Bool} {P : Program} {I2 I1 : FuncId → Option (List DV → Hp → aI)} {rec2 rec1 : FuncId → List DV → Hp → aI}
theorem aMj (b : Builtin) (ts : List TypeId) (args : List DV) : SimP gg (jE ⟨P, I2⟩ b ts args) (jE ⟨P, I1⟩ b ts args) := by
 unfold jE
 cases b <;> try exact SimP.none _
 case len =>
  match ts, args with
  | [t], [x] =>
   dsimp only
   cases P.underlying t with
   | none => exact SimP.none _
   | some d => cases d <;> first | exact SimP.none _ | exact dUp (aAh x) | exact dUp (lZ x)
  | [], _ => exact SimP.none _
  | [_], [] => exact SimP.none _
  | [_], _ :: _ :: _ => exact SimP.none _
  | _ :: _ :: _, _ => exact SimP.none _
 case min =>
  show SimP gg (qC args) (qC args)
  unfold qC
  match args with
  | [x, y] => exact dUp (aKv x y)
  | [] => exact SimP.none _
  | [_] => exact SimP.none _
  | _ :: _ :: _ :: _ => exact SimP.none _
 case max =>
  show SimP gg (qI args) (qI args)
  unfold qI
  match args with
  | [x, y] => exact dUp (aLh x y)
  | [] => exact SimP.none _
  | [_] => exact SimP.none _
  | _ :: _ :: _ :: _ => exact SimP.none _
 case clear =>
  match ts, args with
  | [t], [x] =>
   dsimp only
   cases P.underlying t with
   | none => exact SimP.none _
   | some d =>
    cases d <;> try exact SimP.none _
    rename_i e
    dsimp only
    cases P.info? e with
    | none => exact SimP.none _
    | some i =>
     dsimp only
     cases i.zero with
     | none => exact SimP.none _
     | some z =>
      dsimp only
      by_cases h0 : 0 < z.cells.size
      ·simp only [h0, if_true]; exact bEu _ _
      ·simp only [h0, if_false]; exact SimP.none _
  | [], _ => exact SimP.none _
  | [_], [] => exact SimP.none _
  | [_], _ :: _ :: _ => exact SimP.none _
  | _ :: _ :: _, _ => exact SimP.none _
 case append =>
  match ts, args with
  | [t, u], [s, x] =>
   dsimp only
   have hmain : ∀ e, SimP gg (fun h => match P.info? e with
     | some i => match i.zero with
      | some z => if 0 < i.size ∧ 0 < i.bytes ∧ z.cells.size = i.size then bB i.size i.bytes s x h else none
      | none => none
     | none => none) (fun h => match P.info? e with
     | some i => match i.zero with
      | some z => if 0 < i.size ∧ 0 < i.bytes ∧ z.cells.size = i.size then bB i.size i.bytes s x h else none
      | none => none
     | none => none) := by
    intro e
    cases P.info? e with
    | none => exact SimP.none _
    | some i =>
     dsimp only
     cases i.zero with
     | none => exact SimP.none _
     | some z =>
      dsimp only
      split
      ·exact aPi _ _ _ _
      ·exact SimP.none _
   cases P.underlying t with
   | none => exact SimP.none _
   | some d =>
    cases d <;> try exact SimP.none _
    rename_i e
    cases P.underlying u with
    | none => exact SimP.none _
    | some d2 => cases d2 <;> first | exact SimP.none _ | exact hmain e
  | [], _ => exact SimP.none _
  | [_], _ => exact SimP.none _
  | [_, _], [] => exact SimP.none _
  | [_, _], [_] => exact SimP.none _
  | [_, _], _ :: _ :: _ :: _ => exact SimP.none _
  | _ :: _ :: _ :: _, _ => exact SimP.none _
theorem aAd (HC : ∀ g args, SimP gg (bP ⟨P, I2⟩ rec2 g args) (bP ⟨P, I1⟩ rec1 g args)) (o : Oper) (env : aW) : SimP gg (iS ⟨P, I2⟩ rec2 o env) (iS ⟨P, I1⟩ rec1 o env) := by
 obtain ⟨dst, op, ty, pos, after, guard⟩ := o
 unfold iS
 cases op <;> (try dsimp only) <;> try exact SimP.none _
 case move x => exact SimP.val _
 case assign x => exact SimP.val _
 case pick c x y => exact dUp (aAm _ _ _)
 case alloc t =>
  cases P.info? t with
  | none => exact SimP.none _
  | some i =>
   try dsimp only
   cases i.zero with
   | none => exact SimP.none _
   | some z => exact aGd _
 case box t x => exact cCb _
 case build t ps =>
  cases P.underlying t with
  | none => exact SimP.none _
  | some d =>
   cases d <;> (try dsimp only) <;> try exact SimP.none _
   rename_i fs
   cases P.info? t with
   | none => exact SimP.none _
   | some i =>
    try dsimp only
    cases i.zero with
    | none => exact SimP.none _
    | some z =>
     try dsimp only
     generalize fs.toList.mapM (fun f => (P.info? f.type).map fun fi => (f.offset, fi.size)) = pl
     cases pl with
     | none => exact SimP.none _
     | some pl =>
      try dsimp only
      generalize ps.toList.mapM (fun (q : Nat × Operand) => (pl[q.1]?).map fun s => (s.1, s.2, opr env q.2)) = l
      cases l with
      | none => exact SimP.none _
      | some l => exact dUp (zH _ _)
 case buildSlice t n ps =>
  cases P.underlying t with
  | none => exact SimP.none _
  | some d =>
   cases d <;> (try dsimp only) <;> try exact SimP.none _
   rename_i e
   cases P.info? e with
   | none => exact SimP.none _
   | some i =>
    try dsimp only
    cases i.zero with
    | none => exact SimP.none _
    | some z =>
     try dsimp only
     split
     ·exact zB _ _ _
     ·exact SimP.none _
 case load t x =>
  cases P.underlying t with
  | none => exact SimP.none _
  | some d =>
   cases P.info? t with
   | none => exact SimP.none _
   | some i =>
    try dsimp only
    cases iM d with
    | true => exact kM _ _
    | false => exact kK _
 case store t x y =>
  cases P.info? t with
  | none => exact SimP.none _
  | some i => exact kS _ _ _
 case nilCheck x => exact dUp (aLw _)
 case binOp op t x y yt =>
  cases P.underlying t with
  | none => exact SimP.none _
  | some d => cases d <;> first | exact dUp (aKo _ _ _ _) | exact dUp (aMr _ _ _ _)
 case unOp op t x => exact dUp (bBp _ _)
 case convert src dst x =>
  cases P.underlying src with
  | none => exact SimP.none _
  | some d =>
   cases P.underlying dst with
   | none => cases d <;> exact SimP.none _
   | some d2 =>
    cases d2 <;> cases d <;> (try dsimp only) <;> first | exact SimP.none _ | exact dUp (nR _ _) | exact dUp (oG _) | skip
    all_goals
     rename_i e
     cases P.underlying e with
     | none => exact SimP.none _
     | some d3 =>
      cases d3 <;> (try dsimp only) <;> try exact SimP.none _
      rename_i k
      cases k <;> first | exact SimP.none _ | exact bEg _
 case makeFunc fn first cap =>
  cases fn <;> first | exact SimP.none _ | exact SimP.val _
 case slice t x lo hi mx =>
  cases P.underlying t with
  | none => exact SimP.none _
  | some d =>
   cases mx with
   | none =>
    cases d <;> (try dsimp only) <;> first | exact SimP.none _ | exact dUp (mJ _ _ _) | skip
    rename_i e
    cases P.info? e with
    | none => exact SimP.none _
    | some i => exact bDa _ _ _ _
   | some m =>
    cases d <;> (try dsimp only) <;> try exact SimP.none _
    rename_i e
    cases P.info? e with
    | none => exact SimP.none _
    | some i =>
     cases hi with
     | none => exact SimP.none _
     | some hv => exact aQb _ _ _ _
 case fieldAddr t x f =>
  cases P.underlying t with
  | none => exact SimP.none _
  | some d =>
   cases d <;> (try dsimp only) <;> try exact SimP.none _
   rename_i fs
   cases fs[f]? with
   | none => exact SimP.none _
   | some fl =>
    try dsimp only
    cases P.info? fl.type with
    | none => exact SimP.none _
    | some i =>
     try dsimp only
     split
     ·exact SimP.none _
     ·exact dUp (yV _ _)
 case field t x f =>
  cases P.underlying t with
  | none => exact SimP.none _
  | some d =>
   cases d <;> (try dsimp only) <;> try exact SimP.none _
   rename_i fs
   cases fs[f]? with
   | none => exact SimP.none _
   | some fl =>
    try dsimp only
    cases P.underlying fl.type with
    | none => exact SimP.none _
    | some d2 =>
     cases P.info? fl.type with
     | none => exact SimP.none _
     | some i =>
      try dsimp only
      cases iM d2 with
      | true => exact dUp (yP _ _ _)
      | false => exact dUp (xW _ _)
 case indexAddr t x ix =>
  cases P.underlying t with
  | none => exact SimP.none _
  | some d =>
   cases d <;> (try dsimp only) <;> try exact SimP.none _
   ·rename_i e
    cases P.info? e with
    | none => exact SimP.none _
    | some i => exact dUp (mK _ _ _)
   ·rename_i n e
    cases P.info? e with
    | none => exact SimP.none _
    | some i => exact dUp (nG _ _ _ _)
 case index t x ix =>
  cases P.underlying t with
  | none => exact SimP.none _
  | some d => cases d <;> first | exact SimP.none _ | exact dUp (sF _ _)
 case extract x i => exact dUp (pT _ _)
 case range t x =>
  cases P.underlying t with
  | none => exact SimP.none _
  | some d => cases d <;> first | exact SimP.none _ | exact bEz _
 case next x str =>
  cases str with
  | true => simp only [if_true]; exact bNr _
  | false => simp only [Bool.false_eq_true, if_false]; exact SimP.none _
 case makeMap t r => cases r <;> first | exact SimP.none _ | exact aLv
 case lookup t x k ok =>
  cases P.underlying t with
  | none => exact SimP.none _
  | some d =>
   cases d <;> (try dsimp only) <;> try exact SimP.none _
   rename_i kt et
   cases P.underlying kt with
   | none => exact SimP.none _
   | some d2 =>
    cases P.info? et with
    | none => exact SimP.none _
    | some i =>
     try dsimp only
     cases i.zero with
     | none => exact SimP.none _
     | some z =>
      try dsimp only
      cases jF d2 with
      | true => exact aTe _ _ _ _ _
      | false => exact SimP.none _
 case mapUpdate t m k x =>
  cases P.underlying t with
  | none => exact SimP.none _
  | some d =>
   cases d <;> (try dsimp only) <;> try exact SimP.none _
   rename_i kt et
   cases P.underlying kt with
   | none => exact SimP.none _
   | some d2 =>
    try dsimp only
    cases jF d2 with
    | true => exact aPa _ _ _ _
    | false => exact SimP.none _
 case mapEntry t m k =>
  cases P.underlying t with
  | none => exact SimP.none _
  | some d =>
   cases d <;> (try dsimp only) <;> try exact SimP.none _
   rename_i kt et
   cases P.underlying kt with
   | none => exact SimP.none _
   | some d2 =>
    cases P.info? et with
    | none => exact SimP.none _
    | some i =>
     try dsimp only
     cases i.zero with
     | none => exact SimP.none _
     | some z =>
      try dsimp only
      cases jF d2 with
      | true => exact aHf _ _ _ _
      | false => exact SimP.none _
 case entryStore t m s x => exact vR _ _ _
 case makeSlice t n c =>
  cases P.underlying t with
  | none => exact SimP.none _
  | some d =>
   cases d <;> (try dsimp only) <;> try exact SimP.none _
   rename_i e
   cases P.info? e with
   | none => exact SimP.none _
   | some i =>
    try dsimp only
    cases i.zero with
    | none => exact SimP.none _
    | some z =>
     try dsimp only
     split
     ·exact zP _ _ _ _ _
     ·exact SimP.none _
 case call c =>
  obtain ⟨callee, args, ats⟩ := c
  cases callee with
  | value f =>
   try dsimp only
   unfold fO
   cases opr env f <;> first | exact SimP.none _ | exact HC _ _
  | invoke r m => exact SimP.none _
  | builtin b => exact aMj _ _ _
theorem kU (HC : ∀ g args, SimP gg (bP ⟨P, I2⟩ rec2 g args) (bP ⟨P, I1⟩ rec1 g args)) (all : Array Oper) (o : Oper) (env : aW) :
  SimP gg (bM ⟨P, I2⟩ rec2 all o env) (bM ⟨P, I1⟩ rec1 all o env) := by
 unfold bM
 cases o.guard with
 | none => exact aAd HC o env
 | some g =>
  obtain ⟨j, want⟩ := g
  dsimp only
  unfold gD
  cases aZn all j env <;> try exact SimP.none _
  ·rename_i x
   dsimp only
   split
   ·exact aAd HC o env
   ·exact SimP.val _
  ·rename_i vs
   cases vs with
   | nil => exact SimP.val _
   | cons a b => exact SimP.none _
def SimK (gg : Bool) (k k' : K) : Prop := ∀ env, SimP gg (k env) (k' env)
theorem dUt {r r' : aI} {k k' : DV → Hp → aI} (h : SimR gg r r') (hk : ∀ v, SimP gg (k v) (k' v)) : SimR gg (bnd r k) (bnd r' k') := by
 intro v h1 e
 obtain ⟨u, h0, e1, e2⟩ := dK e
 obtain ⟨h0', f1, S⟩ := h u h0 e1
 obtain ⟨h1', g1, S1⟩ := hk u h0 h0' S v h1 e2
 exact ⟨h1', by rw [f1]; exact g1, S1⟩
theorem dVi {b b' : Bool} {r r' : aI} (hb : b = true → b' = true) (h : SimR gg r r') : SimR gg (cnd b r) (cnd b' r') := by
 cases b with
 | false => exact fun v k e => by cases e
 | true => rw [hb rfl]; exact h
theorem oO (HC : ∀ g args, SimP gg (bP ⟨P, I2⟩ rec2 g args) (bP ⟨P, I1⟩ rec1 g args)) (nt : Nat) (all : Array Oper) {k k' : K} (hk : SimK gg k k') :
  ∀ l : List Oper, SimK gg (iT ⟨P, I2⟩ rec2 nt all l k) (iT ⟨P, I1⟩ rec1 nt all l k')
 | [] => hk
 | o :: l => fun env h h' S => by
  change SimR gg (cnd (cZ nt o.dst) (bnd (bM ⟨P, I2⟩ rec2 all o env h) fun v h1 => iT ⟨P, I2⟩ rec2 nt all l k (bN env o.dst v) h1))
   (cnd (cZ nt o.dst) (bnd (bM ⟨P, I1⟩ rec1 all o env h') fun v h1 => iT ⟨P, I1⟩ rec1 nt all l k' (bN env o.dst v) h1))
  exact dVi id (dUt (kU HC all o env h h' S) fun v => oO HC nt all hk l _)
theorem dEv (o : Oper) (b : Pos) (env : aW) : SimP gg (dU ⟨P, I2⟩ o b env) (dU ⟨P, I1⟩ o b env) := by
 obtain ⟨dst, op, ty, pos, after, guard⟩ := o
 unfold dU
 cases op <;> (try dsimp only) <;> try exact SimP.none _
 case alloc t =>
  cases P.info? t with
  | none => exact SimP.none _
  | some i =>
   dsimp only
   cases i.zero with
   | none => exact SimP.none _
   | some z => exact aAa _ _
 case box t x => exact bFz _ _
 case buildSlice t n ps =>
  cases P.underlying t with
  | none => exact SimP.none _
  | some d =>
   cases d <;> (try dsimp only) <;> try exact SimP.none _
   rename_i e
   cases P.info? e with
   | none => exact SimP.none _
   | some i =>
    dsimp only
    cases i.zero with
    | none => exact SimP.none _
    | some z =>
     dsimp only
     split
     ·exact qP _ _ _ _
     ·exact SimP.none _
theorem SimR.same {r r' : aI} (h : SimR gg r r') {v : DV} (hs : bJ r v = true) : bJ r' v = true := by
 unfold bJ at hs ⊢
 split at hs
 ·rename_i x k
  obtain ⟨k', e, _⟩ := h x k rfl
  rw [e]; exact hs
 ·cases hs
inductive SimHs (gg : Bool) : List (Option Nat × Hp) → List (Option Nat × Hp) → Prop
 | nil : SimHs gg [] []
 | cons {j : Option Nat} {h h' : Hp} {l l' : List (Option Nat × Hp)} (S : Sim gg h h') (T : SimHs gg l l') : SimHs gg ((j, h) :: l) ((j, h') :: l')
theorem rY (m : Array Nat) (i : Nat) (v : DV) {look look' : Hp → aI} (hl : SimP gg look look') : ∀ (dirty : Bool) {hs hs' : List (Option Nat × Hp)}, SimHs gg hs hs' →
  eL m i v look dirty hs = true → eL m i v look' dirty hs' = true
 | dirty, _, _, .nil, h => h
 | dirty, _, _, .cons (j := j) S T, h => by
  unfold eL at h ⊢
  rw [Bool.and_eq_true] at h ⊢
  refine ⟨?_, ?_⟩
  ·have h1 := h.1
   cases dirty with
   | true => exact SimR.same (hl _ _ S) h1
   | false => exact h1
  ·have h2 := h.2
   cases j with
   | none => exact h2
   | some j =>
    dsimp only at h2 ⊢
    cases ho : gB m j i with
    | true => rfl
    | false =>
     rw [ho] at h2
     exact rY m i v hl true T h2
inductive SimSeen (gg : Bool) : List Seen → List Seen → Prop
 | nil : SimSeen gg [] []
 | cons {i : Nat} {look look' : Hp → aI} {v : DV} {l l' : List Seen} (S : SimP gg look look') (T : SimSeen gg l l') : SimSeen gg (⟨i, look, v⟩ :: l) (⟨i, look', v⟩ :: l')
theorem SimSeen.all {m : Array Nat} {i : Nat} {h h' : Hp} (S : Sim gg h h') : ∀ {l l' : List Seen}, SimSeen gg l l' →
  l.all (fun q => gB m q.at_ i || bJ (q.look h) q.v) = true → l'.all (fun q => gB m q.at_ i || bJ (q.look h') q.v) = true
 | _, _, .nil, e => e
 | _, _, .cons (i := i0) (v := v) S1 T, e => by
  rw [List.all_cons, Bool.and_eq_true] at e ⊢
  refine ⟨?_, SimSeen.all S T e.2⟩
  have h1 := e.1
  rw [Bool.or_eq_true] at h1 ⊢
  exact h1.imp id fun hs => SimR.same (S1 _ _ S) hs
theorem mN (HC : ∀ g args, SimP gg (bP ⟨P, I2⟩ rec2 g args) (bP ⟨P, I1⟩ rec1 g args)) (nt : Nat) (all : Array Oper) (m : Array Nat) (p0 : Pos) {k k' : K} (hk : SimK gg k k') :
  ∀ (l : List Oper) (i c : Nat) (dirty : Bool) {rd rd' : List Seen} {hs hs' : List (Option Nat × Hp)}, SimSeen gg rd rd' → SimHs gg hs hs' →
   SimK gg (eJ ⟨P, I2⟩ rec2 nt all m p0 l k i c dirty rd hs) (eJ ⟨P, I1⟩ rec1 nt all m p0 l k' i c dirty rd' hs')
 | [], i, c, dirty, rd, rd', hs, hs', R, T => hk
 | o :: l, i, c, dirty, rd, rd', hs, hs', R, T => fun env h h' S => by
  change SimR gg (cnd (cZ nt o.dst) (
   match bU P o.op with
   | .pure => bnd (bM ⟨P, I2⟩ rec2 all o env h) fun v h' => eJ ⟨P, I2⟩ rec2 nt all m p0 l k (i + 1) c dirty rd hs (bN env o.dst v) h'
   | .reads => bnd (bM ⟨P, I2⟩ rec2 all o env h) fun v h' =>
     cnd (eL m i v (bM ⟨P, I2⟩ rec2 all o env) dirty hs) (eJ ⟨P, I2⟩ rec2 nt all m p0 l k (i + 1) c dirty (⟨i, bM ⟨P, I2⟩ rec2 all o env, v⟩ :: rd) hs (bN env o.dst v) h')
   | .makes => bnd (dU ⟨P, I2⟩ o (bW c p0) env h) fun v h' => eJ ⟨P, I2⟩ rec2 nt all m p0 l k (i + 1) (c + 1) true rd hs (bN env o.dst v) h'
   | .acts => bnd (bM ⟨P, I2⟩ rec2 all o env h) fun v h' =>
     cnd (rd.all (fun q => gB m q.at_ i || bJ (q.look h') q.v)) (eJ ⟨P, I2⟩ rec2 nt all m p0 l k (i + 1) c false rd ((some i, h') :: hs) (bN env o.dst v) h')))
   (cnd (cZ nt o.dst) (
   match bU P o.op with
   | .pure => bnd (bM ⟨P, I1⟩ rec1 all o env h') fun v h' => eJ ⟨P, I1⟩ rec1 nt all m p0 l k' (i + 1) c dirty rd' hs' (bN env o.dst v) h'
   | .reads => bnd (bM ⟨P, I1⟩ rec1 all o env h') fun v h' =>
     cnd (eL m i v (bM ⟨P, I1⟩ rec1 all o env) dirty hs') (eJ ⟨P, I1⟩ rec1 nt all m p0 l k' (i + 1) c dirty (⟨i, bM ⟨P, I1⟩ rec1 all o env, v⟩ :: rd') hs' (bN env o.dst v) h')
   | .makes => bnd (dU ⟨P, I1⟩ o (bW c p0) env h') fun v h' => eJ ⟨P, I1⟩ rec1 nt all m p0 l k' (i + 1) (c + 1) true rd' hs' (bN env o.dst v) h'
   | .acts => bnd (bM ⟨P, I1⟩ rec1 all o env h') fun v h' =>
     cnd (rd'.all (fun q => gB m q.at_ i || bJ (q.look h') q.v)) (eJ ⟨P, I1⟩ rec1 nt all m p0 l k' (i + 1) c false rd' ((some i, h') :: hs') (bN env o.dst v) h')))
  refine dVi id ?_
  cases bU P o.op with
  | pure => exact dUt (kU HC all o env h h' S) fun v => mN HC nt all m p0 hk l _ _ _ R T _
  | reads =>
   exact dUt (kU HC all o env h h' S) fun v h1 h1' S1 => dVi (rY m i v (kU HC all o env) dirty T)
    (mN HC nt all m p0 hk l _ _ _ (.cons (kU HC all o env) R) T _ _ _ S1)
  | makes => exact dUt (dEv o _ env h h' S) fun v => mN HC nt all m p0 hk l _ _ _ R T _
  | acts =>
   exact dUt (kU HC all o env h h' S) fun v h1 h1' S1 => dVi (SimSeen.all S1 R)
    (mN HC nt all m p0 hk l _ _ _ R (.cons S1 T) _ _ _ S1)
theorem Sim.resv {gg : Bool} {h h' : Hp} (S : Sim gg h h') (k : Nat) : Sim gg (resv k h) (resv k h') := by
 cases k with
 | zero => exact S
 | succ k => exact ⟨by show bW (k + 1) h'.next = bW (k + 1) h.next; rw [S.next], S.get⟩
theorem bSw (HC : ∀ g args, SimP gg (bP ⟨P, I2⟩ rec2 g args) (bP ⟨P, I1⟩ rec1 g args)) (nt : Nat) (ops : Array Oper) {k k' : K} (hk : SimK gg k k') :
  SimK gg (iH ⟨P, I2⟩ rec2 nt ops k) (iH ⟨P, I1⟩ rec1 nt ops k') := fun env h h' S => by
 unfold iH
 rw [S.next]
 exact mN HC nt ops _ _ hk _ _ _ _ .nil (.cons (S.resv _) .nil) env _ _ (S.resv _)
theorem aCj {c : DV} {a b a' b' : aI} (ha : SimR gg a a') (hb : SimR gg b b') : SimR gg (aT c a b) (aT c a' b') := by
 unfold aT
 cases c <;> try exact SimR.none _
 rename_i x
 cases x
 ·exact hb
 ·exact ha
theorem pN {b b' : K → K} (hb : ∀ k k', SimK gg k k' → SimK gg (b k) (b' k')) : ∀ (n d : Nat), SimK gg (aR b n) (aR b' (n + d))
 | 0, d => fun env h h' S v k e => by cases e
 | n + 1, d => by
  rw [show n + 1 + d = (n + d) + 1 from by omega]
  exact hb _ _ (pN hb n d)
theorem fX (HC : ∀ g args, SimP gg (bP ⟨P, I2⟩ rec2 g args) (bP ⟨P, I1⟩ rec1 g args)) (nt n d : Nat) : ∀ (c : Code) (X X' : Nat → K) (kr kr' k k' : K), (∀ j, SimK gg (X j) (X' j)) → SimK gg kr kr' → SimK gg k k' →
  SimK gg (aM ⟨P, I2⟩ rec2 nt n c X kr k) (aM ⟨P, I1⟩ rec1 nt (n + d) c X' kr' k') := by
 intro c
 have hfail : ∀ k', SimK gg dL k' := fun k' env h h' S v k e => by cases e
 induction c with
 | skip => intro X X' kr kr' k k' hX hr hk; exact hk
 | region id ops dr =>
  intro X X' kr kr' k k' hX hr hk
  change SimK gg (Bool.rec (motive := fun _ => K) (iT ⟨P, I2⟩ rec2 nt ops ops.toList k) (Bool.rec (motive := fun _ => K) dL (iH ⟨P, I2⟩ rec2 nt ops k) (fE P ops)) dr)
   (Bool.rec (motive := fun _ => K) (iT ⟨P, I1⟩ rec1 nt ops ops.toList k') (Bool.rec (motive := fun _ => K) dL (iH ⟨P, I1⟩ rec1 nt ops k') (fE P ops)) dr)
  cases dr with
  | false => exact oO HC nt ops hk _
  | true =>
   cases fE P ops with
   | false => exact hfail _
   | true => exact bSw HC nt ops hk
 | seq x y ihx ihy => intro X X' kr kr' k k' hX hr hk; exact ihx _ _ _ _ _ _ hX hr (ihy _ _ _ _ _ _ hX hr hk)
 | cond c x y ihx ihy =>
  intro X X' kr kr' k k' hX hr hk env h h' S
  exact aCj (ihx _ _ _ _ _ _ hX hr hk env h h' S) (ihy _ _ _ _ _ _ hX hr hk env h h' S)
 | block id x ih =>
  intro X X' kr kr' k k' hX hr hk
  refine ih _ _ _ _ _ _ (fun j => ?_) hr hk
  cases hj : Nat.beq j id with
  | true => exact hk
  | false => exact hX j
 | loop x ih =>
  intro X X' kr kr' k k' hX hr hk
  exact pN (fun k k' hk => ih _ _ _ _ _ _ hX hr hk) n d
 | rangeFunc f ps x y ihx ihy => intro X X' kr kr' k k' hX hr hk; exact hfail _
 | exit id => intro X X' kr kr' k k' hX hr hk; exact hX id
 | scope x ih => intro X X' kr kr' k k' hX hr hk; exact ih _ _ _ _ _ _ hX hr hk
 | label l => intro X X' kr kr' k k' hX hr hk; exact hk
 | goto l => intro X X' kr kr' k k' hX hr hk; exact hfail _
 | ret => intro X X' kr kr' k k' hX hr hk; exact hr
 | refuse why => intro X X' kr kr' k k' hX hr hk; exact hfail _
theorem bGa {h h' : Hp} (S : Sim gg h h') (t : TypeId) (x : DV) {k k' : DV → aI} (hk : ∀ v, SimR gg (k v) (k' v)) : SimR gg (aAo ⟨P, I2⟩ t x h k) (aAo ⟨P, I1⟩ t x h' k') := by
 unfold aAo
 dsimp only
 cases P.underlying t with
 | none => exact SimR.none _
 | some d =>
  cases P.info? t with
  | none => exact SimR.none _
  | some i =>
   dsimp only
   refine dUt ?_ fun v _ _ _ => hk v
   cases iM d with
   | true => exact kM _ _ h h' S
   | false => exact kK _ h h' S
theorem rC {h h' : Hp} (S : Sim gg h h') (env : aW) : ∀ (l : List ResultVar) (k k' : List DV → aI), (∀ vs, SimR gg (k vs) (k' vs)) → SimR gg (bAt ⟨P, I2⟩ env h l k) (bAt ⟨P, I1⟩ env h' l k')
 | [], k, k', hk => hk []
 | .tmp t :: l, k, k', hk => rC S env l _ _ fun vs => hk _
 | .cell a t :: l, k, k', hk => bGa S t (env a) fun v => rC S env l _ _ fun vs => hk _
theorem pL (fn : Func) : SimK gg (aP ⟨P, I2⟩ fn) (aP ⟨P, I1⟩ fn) := fun env h h' S => by
 unfold aP
 refine rC S env _ _ _ fun vs => ?_
 unfold bOq
 match vs with
 | [v] => exact SimR.some S _
 | [] => exact SimR.some S _
 | _ :: _ :: _ => exact SimR.some S _
theorem mP (HC : ∀ g args, SimP gg (bP ⟨P, I2⟩ rec2 g args) (bP ⟨P, I1⟩ rec1 g args)) (n d : Nat) (f : FuncId) (args : List DV) :
  SimP gg (aE ⟨P, I2⟩ rec2 n f args) (aE ⟨P, I1⟩ rec1 (n + d) f args) := by
 intro h h' S
 unfold aE
 dsimp only
 cases P.funcs[f]? with
 | none => exact SimR.none _
 | some fn =>
  dsimp only
  cases fn.body with
  | none => exact SimR.none _
  | some c => exact fX HC fn.ntmps n d c _ _ _ _ _ _ (fun _ _ _ _ _ _ _ e => by cases e) (pL fn) (pL fn) _ h h' S
end
theorem bVh {gg : Bool} {P : Program} {I2 I1 : FuncId → Option (List DV → Hp → aI)} (d : Nat) (h0 : ∀ g, I2 g = none → I1 g = none)
  (hI : ∀ g F, I2 g = some F → ∀ n args, SimP gg (F args) (bP ⟨P, I1⟩ (fnD ⟨P, I1⟩ (n + d)) g args)) : ∀ (n : Nat) (f : FuncId) (args : List DV), SimP gg (fnD ⟨P, I2⟩ n f args) (fnD ⟨P, I1⟩ (n + d) f args)
 | 0, f, args => fun h h' S v k e => by cases e
 | n + 1, f, args => by
  rw [show n + 1 + d = (n + d) + 1 from by omega]
  refine mP (fun g az => ?_) n d f args
  unfold bP
  dsimp only
  cases hg : I2 g with
  | none =>
   rw [h0 g hg]
   exact bVh d h0 hI n g az
  | some F =>
   have := hI g F hg n az
   unfold bP at this
   exact this
end Go.Dd

namespace Go.Dd
section
variable {gg : Bool} {P : Program} {I2 I1 : FuncId → Option (List DV → Hp → aI)} {rec2 rec1 : FuncId → List DV → Hp → aI}
theorem mX {c : Bool} {q q' : aI} (h : SimR gg q q') : SimR gg (cnd c q) (cnd c q') := by
 cases c with
 | false => exact SimR.none _
 | true => exact h
theorem dUr (k' : K) : SimK gg dL k' := fun env h h' S v k e => by cases e
theorem zL (HC : ∀ g args, SimP gg (bP ⟨P, I2⟩ rec2 g args) (bP ⟨P, I1⟩ rec1 g args)) (n d : Nat) (I : ItC) (b : Bool) {kr kr' k k' : K} (hr : SimK gg kr kr') (hk : SimK gg k k') (e1 : aW) :
  SimP gg (aLr ⟨P, I2⟩ rec2 n I b kr k e1) (aLr ⟨P, I1⟩ rec1 (n + d) I b kr' k' e1) := fun h h' S =>
 mX (oO HC I.nt I.ops (fX HC I.nt n d I.after _ _ _ _ _ _ (fun _ => dUr _) hr hk) _ _ h h' S)
theorem bEi (HC : ∀ g args, SimP gg (bP ⟨P, I2⟩ rec2 g args) (bP ⟨P, I1⟩ rec1 g args)) (n d : Nat) (I : ItC) (nt : Nat) (p : Tmp) (x y : Code) (env : aW) {X X' : Nat → K} {kr kr' kk kk' : K} (hX : ∀ j, SimK gg (X j) (X' j)) (hr : SimK gg kr kr') (hk : SimK gg kk kk') :
  SimK gg (aPe ⟨P, I2⟩ rec2 n I nt p x y env X kr kk) (aPe ⟨P, I1⟩ rec1 (n + d) I nt p x y env X' kr' kk') := fun e1 h h' S =>
 mX (fX HC nt n d x _ _ _ _ _ _ (fun _ => dUr _) (dUr _)
  (fX HC nt n d y _ _ _ _ _ _ (fun i _ => zL HC n d I false (fun _ => hX i env) (dUr _) e1) (fun _ => zL HC n d I false (fun _ => hr env) (dUr _) e1)
   (fun _ => zL HC n d I true (dUr _) (fX HC I.nt n d I.post _ _ _ _ _ _ (fun _ => dUr _) (dUr _) (fX HC I.nt n d I.step _ _ _ _ _ _ (fun _ => dUr _) (dUr _) hk)) e1)) _ h h' S)
theorem aPj (HC : ∀ g args, SimP gg (bP ⟨P, I2⟩ rec2 g args) (bP ⟨P, I1⟩ rec1 g args)) (n d : Nat) (I : ItC) (nt : Nat) (g : Operand) (p : Tmp) (x y : Code) {X X' : Nat → K} {kr kr' k k' : K} (hX : ∀ j, SimK gg (X j) (X' j)) (hr : SimK gg kr kr') (hk : SimK gg k k') :
  SimK gg (aCo ⟨P, I2⟩ rec2 n I nt g p x y X kr k) (aCo ⟨P, I1⟩ rec1 (n + d) I nt g p x y X' kr' k') := by
 intro env h h' S
 unfold aCo
 cases opr env g with
 | f gf first cap =>
  cases first with
  | cons _ _ => exact SimR.none _
  | nil =>
   refine mX ?_
   rw [S.next]
   refine fX HC I.nt n d I.pre _ _ _ _ _ _ (fun _ => dUr _) (dUr _) (pN (fun kk kk' hkk => ?_) n d) _ _ _ (S.resv 2)
   refine fX HC I.nt n d I.test _ _ _ _ _ _ (fun j => ?_) (dUr _) (oO HC I.nt I.ops ?_ I.front)
   ·cases Nat.beq j I.b0 with
    | true => exact fun _ => hk env
    | false => exact dUr _
   ·intro e1 h1 h1' S1
    exact mX (c := ylB (e1 I.yt) h.next) (bEi HC n d I nt p x y env hX hr hkk e1 h1 h1' S1)
 | _ => exact SimR.none _
theorem bFx (HC : ∀ g args, SimP gg (bP ⟨P, I2⟩ rec2 g args) (bP ⟨P, I1⟩ rec1 g args)) (nt n d : Nat) (I : ItC) : ∀ (c : Code) (X X' : Nat → K) (kr kr' k k' : K), (∀ j, SimK gg (X j) (X' j)) → SimK gg kr kr' → SimK gg k k' →
  SimK gg (bVs ⟨P, I2⟩ rec2 nt n I c X kr k) (bVs ⟨P, I1⟩ rec1 nt (n + d) I c X' kr' k') := by
 intro c
 induction c with
 | skip => intro X X' kr kr' k k' hX hr hk; exact hk
 | region id ops dr => intro X X' kr kr' k k' hX hr hk; exact fX HC nt n d (.region id ops dr) _ _ _ _ _ _ hX hr hk
 | seq x y ihx ihy => intro X X' kr kr' k k' hX hr hk; exact ihx _ _ _ _ _ _ hX hr (ihy _ _ _ _ _ _ hX hr hk)
 | cond c x y ihx ihy =>
  intro X X' kr kr' k k' hX hr hk env h h' S
  exact aCj (ihx _ _ _ _ _ _ hX hr hk env h h' S) (ihy _ _ _ _ _ _ hX hr hk env h h' S)
 | block id x ih =>
  intro X X' kr kr' k k' hX hr hk
  refine ih _ _ _ _ _ _ (fun j => ?_) hr hk
  cases hj : Nat.beq j id with
  | true => exact hk
  | false => exact hX j
 | loop x ih =>
  intro X X' kr kr' k k' hX hr hk
  exact pN (fun k k' hk => ih _ _ _ _ _ _ hX hr hk) n d
 | rangeFunc g ps x y ihx ihy =>
  intro X X' kr kr' k k' hX hr hk
  obtain ⟨l⟩ := ps
  match l with
  | [p] => exact aPj HC n d I nt g p x y hX hr hk
  | [] => exact dUr _
  | _ :: _ :: _ => exact dUr _
 | exit id => intro X X' kr kr' k k' hX hr hk; exact hX id
 | ret => intro X X' kr kr' k k' hX hr hk; exact hr
 | _ => intros; exact dUr _
theorem bGd (HC : ∀ g args, SimP gg (bP ⟨P, I2⟩ rec2 g args) (bP ⟨P, I1⟩ rec1 g args)) (n d : Nat) (I : ItC) (f : FuncId) (args : List DV) :
  SimP gg (mD ⟨P, I2⟩ rec2 n I f args) (mD ⟨P, I1⟩ rec1 (n + d) I f args) := by
 intro h h' S
 unfold mD
 dsimp only
 cases P.funcs[f]? with
 | none => exact SimR.none _
 | some fn =>
  dsimp only
  cases fn.body with
  | none => exact SimR.none _
  | some c => exact bFx HC fn.ntmps n d I c _ _ _ _ _ _ (fun _ => dUr _) (pL fn) (pL fn) _ h h' S
end
end Go.Dd

namespace Go.Dd
noncomputable def fnR (C : Cfg) (I : ItC) (q : FuncId → Bool) (n : Nat) : FuncId → List DV → Hp → aI :=
 Nat.rec (motive := fun _ => FuncId → List DV → Hp → aI) (fun _ _ _ => none) (fun m ih f => bif q f then mD C ih m I f else aE C ih m f) n
theorem aIx {gg : Bool} {P : Program} {I2 I1 : FuncId → Option (List DV → Hp → aI)} {I : ItC} {q : FuncId → Bool} (d : Nat) (h0 : ∀ g, I2 g = none → I1 g = none)
  (hI : ∀ g F, I2 g = some F → ∀ n args, SimP gg (F args) (bP ⟨P, I1⟩ (fnR ⟨P, I1⟩ I q (n + d)) g args)) : ∀ (n : Nat) (f : FuncId) (args : List DV), SimP gg (fnR ⟨P, I2⟩ I q n f args) (fnR ⟨P, I1⟩ I q (n + d) f args)
 | 0, f, args => fun h h' S v k e => by cases e
 | n + 1, f, args => by
  rw [show n + 1 + d = (n + d) + 1 from by omega]
  have HC : ∀ g az, SimP gg (bP ⟨P, I2⟩ (fnR ⟨P, I2⟩ I q n) g az) (bP ⟨P, I1⟩ (fnR ⟨P, I1⟩ I q (n + d)) g az) := fun g az => by
   unfold bP
   dsimp only
   cases hg : I2 g with
   | none =>
    rw [h0 g hg]
    exact aIx d h0 hI n g az
   | some F =>
    have := hI g F hg n az
    unfold bP at this
    exact this
  show SimP gg ((bif q f then mD ⟨P, I2⟩ (fnR ⟨P, I2⟩ I q n) n I f else aE ⟨P, I2⟩ (fnR ⟨P, I2⟩ I q n) n f) args) ((bif q f then mD ⟨P, I1⟩ (fnR ⟨P, I1⟩ I q (n + d)) (n + d) I f else aE ⟨P, I1⟩ (fnR ⟨P, I1⟩ I q (n + d)) (n + d) f) args)
  cases q f with
  | true => exact bGd HC n d I f args
  | false => exact mP HC n d f args
end Go.Dd

namespace Go.Dd
noncomputable section
def iI (w : Int) : Nat :=
 match w with
 | .ofNat w => bif Nat.beq (Nat.mod w 2) 0 && (Nat.ble 6 w && Nat.ble w 262144) then Nat.div w 2 else 0
 | .negSucc _ => 0
def dO (w : Int) : Bool :=
 match w with
 | .ofNat w => Nat.beq (Nat.mod w 2) 1 && Nat.blt w 2147483648
 | .negSucc w => Nat.beq (Nat.mod w 2) 0 && Nat.blt w 2147483648
def pM (w : Int) : Int :=
 match w with
 | .ofNat w => .ofNat (Nat.div w 2)
 | .negSucc w => .negSucc (Nat.div w 2)
structure MemV where
 wb : Pos
 n : Nat
 fin : Nat
 made : Nat
 pb : Pos
 t : WT
 pl : WT
def lD (m : Pos) (h : Hp) : Option MemV :=
 match h.bl.get m with
 | some (.row .ex [.l wb 0 n c, .i .i64 (.ofNat fin), .i .i64 (.ofNat made), .m pb]) =>
  match h.bl.get wb, h.bl.get pb with
  | some (.big n' t), some (.mi pl) => bif Nat.beq n n' && Nat.beq n c then (bif Nat.blt n 1000000 && (Nat.ble fin n && Nat.blt made 1000000) then some ⟨wb, n, fin, made, pb, t, pl⟩ else none) else none
  | _, _ => none
 | _ => none
def cM (o : Int) (pl : WT) : Nat :=
 bif Nat.beq (iI o) 0 then 0 else match pl.get (iI o) with
  | .ofNat 0 => 0
  | _ => iI o
def dX (w : Int) (pl : WT) : Bool :=
 match w with
 | .ofNat 0 => true
 | .ofNat 2 => true
 | .ofNat 4 => true
 | w => dO w || !(Nat.beq (cM w pl) 0)
def qT (w : Int) (pl : WT) : Bool :=
 match w with
 | .ofNat 0 => true
 | w => !(Nat.beq (cM w pl) 0)
def jM (args : List DV) (h : Hp) (k : MemV → List DV → aI) : aI :=
 match args with
 | .p m 0 :: rest => match lD m h with
  | some M => k M rest
  | none => none
 | _ => none
def err (e : Nat) (h : Hp) : aI := some (.t [.i .i64 (.ofNat 0), .i .i64 (.ofNat e)], h)
def isF (args : List DV) (h : Hp) : aI := jM args h fun M r => match r with
 | [.i .i64 w] => some (.b (!(Nat.beq (cM w M.pl) 0)), h)
 | _ => none
def aEo (args : List DV) (h : Hp) : aI := jM args h fun M r => match r with
 | [.i .i64 w] => some (.b (dX w M.pl), h)
 | _ => none
def aAt (args : List DV) (h : Hp) : aI := jM args h fun M r => match r with
 | [] => some (.i .i64 (.ofNat M.n), h)
 | _ => none
def aVd (args : List DV) (h : Hp) : aI := jM args h fun M r => match r with
 | [] => some (.i .i64 (.ofNat (Nat.sub M.n M.fin)), h)
 | _ => none
def iO (M : MemV) (o : Int) (k : Nat → aI) : aI :=
 bif Nat.blt (Nat.add (cM o M.pl) 1) M.n then (match M.t.get (cM o M.pl) with
  | .ofNat hd => bif Nat.blt hd 1000000000000 then k hd else none
  | .negSucc _ => none) else none
def kB (args : List DV) (h : Hp) : aI := jM args h fun M r => match r with
 | [.i .i64 o] => iO M o fun _ => some (.i .i64 (M.t.get (Nat.add (cM o M.pl) 1)), h)
 | _ => none
def jS (args : List DV) (h : Hp) : aI := jM args h fun M r => match r with
 | [.i .i64 o] => iO M o fun hd => some (.i .i64 (.ofNat (Nat.mod hd 4)), h)
 | _ => none
def fZ (args : List DV) (h : Hp) : aI := jM args h fun M r => match r with
 | [.i .i64 o] => iO M o fun hd => some (.i .i64 (.ofNat (Nat.div hd 4)), h)
 | _ => none
def gU (M : MemV) (o i : Int) (bad : Nat → aI) (k : Nat → Nat → aI) : aI :=
 bif Nat.beq (cM o M.pl) 0 then bad 1 else match i with
  | .negSucc _ => bad 5
  | .ofNat i => iO M o fun hd => bif Nat.ble (Nat.div hd 4) i then bad 5 else
    (bif Nat.blt (Nat.add (Nat.add (cM o M.pl) 3) i) M.n then k hd (Nat.add (Nat.add (cM o M.pl) 3) i) else none)
def pF (args : List DV) (h : Hp) : aI := jM args h fun M r => match r with
 | [.i .i64 o, .i .i64 i] => gU M o i (fun e => err e h) fun _ a => some (.t [.i .i64 (M.t.get a), .i .i64 (.ofNat 0)], h)
 | _ => none
def mB (M : MemV) (a : Nat) (w : Int) (h : Hp) : aI := some (.i .i64 (.ofNat 0), ⟨h.next, Tr.set (.big M.n (M.t.set a w)) M.wb h.bl⟩)
def sH (args : List DV) (h : Hp) : aI := jM args h fun M r => match r with
 | [.i .i64 o, .i .i64 i, .i .i64 w] => gU M o i (fun e => some (.i .i64 (.ofNat e), h)) fun hd a =>
   match Nat.mod hd 4 with
   | 0 => bif dX w M.pl then mB M a w h else some (.i .i64 (.ofNat 6), h)
   | 2 => (match w with
    | .ofNat c => bif Nat.ble c 255 then mB M a w h else some (.i .i64 (.ofNat 6), h)
    | .negSucc _ => some (.i .i64 (.ofNat 6), h))
   | _ => mB M a w h
 | _ => none
def kP (args : List DV) (h : Hp) : aI := jM args h fun M r => match r with
 | [.i .i64 o, .i .i64 c] => bif Nat.beq (cM o M.pl) 0 || !(qT c M.pl) then some (.i .i64 (.ofNat 1), h) else
   (bif Nat.blt (Nat.add (cM o M.pl) 1) M.n then mB M (Nat.add (cM o M.pl) 1) c h else none)
 | _ => none
def kV (t : WT) (c : Nat) : Nat → WT :=
 Nat.rec (motive := fun _ => Nat → WT) (fun _ => t) (fun _ ih a => (ih (Nat.add a 1)).set a (.ofNat 0)) c
def iR (args : List DV) (h : Hp) : aI :=
 match args with
 | [.p m 0, .i .i64 cls, .i .i64 fmt, .i .i64 cnt] => match lD m h with
  | none => none
  | some M => bif !(qT cls M.pl) then err 1 h else match fmt, cnt with
   | .ofNat f, .ofNat c => bif Nat.ble f 2 && Nat.ble c 256 then
     (bif Nat.blt (Nat.sub M.n M.fin) (Nat.add c 3) then err 4 h else
      (bif Nat.ble 3 M.fin && Nat.ble M.fin 131072 then
       some (.t [.i .i64 (.ofNat (Nat.mul M.fin 2)), .i .i64 (.ofNat 0)],
        ⟨h.next, Tr.set (.row .ex [.l M.wb 0 M.n M.n, .i .i64 (.ofNat (Nat.add M.fin (Nat.add c 3))), .i .i64 (.ofNat (Nat.succ M.made)), .m M.pb]) m
         (Tr.set (.mi (M.pl.set M.fin (.ofNat 1))) M.pb
          (Tr.set (.big M.n (kV (((M.t.set M.fin (.ofNat (Nat.add (Nat.mul c 4) f))).set (Nat.add M.fin 1) cls).set (Nat.add M.fin 2) (.ofNat (Nat.succ M.made))) c (Nat.add M.fin 3))) M.wb h.bl))⟩)
       else none))
     else err 1 h
   | _, _ => err 1 h
 | _ => none
def aOj (args : List DV) (h : Hp) : aI :=
 match args with
 | [.i .i64 (.ofNat n)] => bif Nat.blt n 16 || Nat.blt 131072 n then some (.p0, h) else
   some (.p (bW 2 h.next) 0, ⟨bW 3 h.next, Tr.set (.row .ex [.l h.next 0 n n, .i .i64 (.ofNat 3), .i .i64 (.ofNat 0), .m (bW 1 h.next)]) (bW 2 h.next)
    (Tr.set (.mi .e) (bW 1 h.next) (Tr.set (.big n .e) h.next h.bl))⟩)
 | [.i .i64 (.negSucc _)] => some (.p0, h)
 | _ => none
def eZ (args : List DV) (h : Hp) : aI :=
 match args with
 | [.i .i64 w] => some (.b (dO w), h)
 | _ => none
def jL (args : List DV) (h : Hp) : aI :=
 match args with
 | [.i .i64 w] => bif dO w then some (.i .i64 (pM w), h) else some (.i .i64 (.ofNat 0), h)
 | _ => none
def gJ (args : List DV) (h : Hp) : aI :=
 match args with
 | [.i .i64 (.ofNat n)] => bif Nat.blt n 1073741824 then some (.t [.i .i64 (.ofNat (Nat.succ (Nat.mul n 2))), .b true], h) else some (.t [.i .i64 (.ofNat 0), .b false], h)
 | [.i .i64 (.negSucc n)] => bif Nat.blt n 1073741824 then some (.t [.i .i64 (.negSucc (Nat.mul n 2)), .b true], h) else some (.t [.i .i64 (.ofNat 0), .b false], h)
 | _ => none
def zQ (g : Nat) : Option (List DV → Hp → aI) :=
 bif Nat.beq g 24 then some aEo else bif Nat.beq g 31 then some isF else bif Nat.beq g 102 then some aAt else bif Nat.beq g 86 then some aVd else
 bif Nat.beq g 47 then some iR else bif Nat.beq g 68 then some aOj else bif Nat.beq g 70 then some kP else bif Nat.beq g 72 then some sH else
 bif Nat.beq g 50 then some kB else bif Nat.beq g 38 then some jS else bif Nat.beq g 27 then some fZ else bif Nat.beq g 48 then some eZ else
 bif Nat.beq g 81 then some gJ else bif Nat.beq g 49 then some jL else bif Nat.beq g 28 then some pF else none
end
end Go.Dd

namespace Go.Dd
open Go.Proofs
def cf (f : Func) : Code := match f.body with
 | some c => c
 | none => .skip
def cL : Code → Code
 | .seq a _ => a
 | .cond _ a _ => a
 | .block _ a => a
 | .loop a => a
 | .scope a => a
 | c => c
def cR : Code → Code
 | .seq _ b => b
 | .cond _ _ b => b
 | c => c
def cC : Code → Operand
 | .cond c _ _ => c
 | _ => .const .nilFunc
def x0 : Nat → K := fun _ => dL
def xs (X : Nat → K) (i : Nat) (k : K) : Nat → K := fun j => bif Nat.beq j i then k else X j
def aLu (c : Nat) : List Nat → Nat → Int
 | [], _ => .negSucc 0
 | x :: l, i => bif Nat.beq x c then .ofNat i else aLu c l (i + 1)
def lS (args : List DV) (h : Hp) : aI :=
 match args with
 | [.s l, .i .u8 (.ofNat c)] => bif Nat.blt c 256 then some (.i .i64 (aLu c l 0), h) else none
 | _ => none
noncomputable def CF0 : Cfg := ⟨Tryz.prog, fun _ => none⟩
noncomputable def lB (p : Pos) : Pos → Bool := Pos.rec (motive := fun _ => Pos → Bool) (fun q => Pos.rec (motive := fun _ => Bool) true (fun _ _ => false) (fun _ _ => false) q)
 (fun _ ih q => Pos.rec (motive := fun _ => Bool) false (fun q _ => ih q) (fun _ _ => false) q) (fun _ ih q => Pos.rec (motive := fun _ => Bool) false (fun _ _ => false) (fun q _ => ih q) q) p
noncomputable def jC (q : Pos) (l1 : DV) (cs : List DV) (h : Hp) : aI :=
 match l1 with
 | .l0 => some (.l h.next 0 1 1, ⟨h.next.succ, Tr.set (.row (.gr 4) cs) h.next h.bl⟩)
 | .l b o len cap => cnd (Nat.ble cap len && !(lB b q)) (match h.bl.get b, cellsAt b o (len * 4) h with
  | some (.row (.gr es) l), some old => if es = 4 ∧ o + cap * 4 = l.length ∧ (len + 1) * 56 ≤ mG then
    some (.l h.next 0 (len + 1) (len + 1), ⟨h.next.succ, Tr.set (.row (.gr 4) (old ++ cs)) h.next (Tr.set (.row .sp (bT o l)) b h.bl)⟩) else none
  | _, _ => none)
 | _ => none
noncomputable def qM (c q : Pos) (h : Hp) : aI :=
 bnd (aA (.p c 4) h) fun l1 _ =>
 bnd (cJ l1 h) fun n _ =>
 bnd (aK 4 (.p q 0) h) fun x _ =>
 match x with
 | .a cs => cnd (!(lB c q)) (
  bnd (jC q l1 cs ⟨h.next.succ.succ, h.bl⟩) fun l2 h3 =>
  bnd (aH 1 (.p c 4) l2 h3) fun _ h4 => some (n, h4))
 | _ => none
noncomputable def lL (args : List DV) (h : Hp) : aI :=
 match args with
 | [.p c 0, .a lit] =>
  bnd (bR lit h) fun _ h1 =>
  bnd (aA (.p c 4) h1) fun ls h2 =>
  bnd (fnD CF0 60 187 [ls, .f 188 [] [.p h.next 0]] h2) fun i h3 =>
  bnd (aD .lss i (.i .i64 (Int.ofNat 0)) h3) fun t h4 =>
  aT t (qM c h.next h4) (some (i, h4))
 | _ => none
noncomputable def CF1 : Cfg := ⟨Tryz.prog, fun g => bif Nat.beq g 176 then some lS else bif Nat.beq g 159 then some lL else none⟩
noncomputable def CF : Cfg := ⟨Tryz.prog, fun g => bif Nat.beq g 176 then some lS else bif Nat.beq g 159 then some lL else zQ g⟩
def fT : Code → Array Oper
 | .region _ ops _ => ops
 | _ => #[]
def itm : ItC := { gf := 0, nt := 0, pre := .skip, b0 := 0, test := .skip, b1 := 1, rid := 0, front := [], y := ⟨none, .move (.const .nilFunc), 0, "", #[], none⟩, back := [], after := .skip, post := .skip, step := .skip, yd := 0, yt := 0, yx := 0 }
def rgB (g : FuncId) : Bool := false
noncomputable abbrev fS (C : Cfg) (n : Nat) : FuncId → List DV → Hp → aI := fnR C itm rgB n
theorem cB (f : FuncId) (hf : rgB f = false) (C : Cfg) (n : Nat) (args : List DV) (h : Hp) : fS C (n + 1) f args h = aE C (fS C n) n f args h := by
 show (bif rgB f then mD C (fS C n) n itm f else aE C (fS C n) n f) args h = _
 rw [hf]
 rfl
abbrev RT := FuncId → List DV → Hp → aI
abbrev TT0 := Hp → aI
abbrev TT1 := DV → Hp → aI
abbrev rP := DV → DV → Hp → aI
abbrev nB := DV → DV → DV → Hp → aI
abbrev dJ := DV → DV → DV → DV → Hp → aI
abbrev cF := DV → DV → DV → DV → DV → Hp → aI
abbrev gW := DV → DV → DV → DV → DV → DV → Hp → aI
abbrev TT7 := DV → DV → DV → DV → DV → DV → DV → Hp → aI
abbrev TT8 := DV → DV → DV → DV → DV → DV → DV → DV → Hp → aI
abbrev TT9 := DV → DV → DV → DV → DV → DV → DV → DV → DV → Hp → aI
abbrev aOm := DV → DV → DV → DV → DV → DV → DV → DV → DV → DV → Hp → aI
abbrev dOi := DV → DV → DV → DV → DV → DV → DV → DV → DV → DV → DV → Hp → aI
abbrev dOp := DV → DV → DV → DV → DV → DV → DV → DV → DV → DV → DV → DV → Hp → aI
abbrev dRk := DV → DV → DV → DV → DV → DV → DV → DV → DV → DV → DV → DV → DV → Hp → aI
abbrev dSt := DV → DV → DV → DV → DV → DV → DV → DV → DV → DV → DV → DV → DV → DV → Hp → aI
abbrev dSg := DV → DV → DV → DV → DV → DV → DV → DV → DV → DV → DV → DV → DV → DV → DV → Hp → aI
abbrev dPp := DV → DV → DV → DV → DV → DV → DV → DV → DV → DV → DV → DV → DV → DV → DV → DV → Hp → aI
abbrev dTq := DV → DV → DV → DV → DV → DV → DV → DV → DV → DV → DV → DV → DV → DV → DV → DV → DV → Hp → aI
abbrev dUk := DV → DV → DV → DV → DV → DV → DV → DV → DV → DV → DV → DV → DV → DV → DV → DV → DV → DV → Hp → aI
abbrev dQo := DV → DV → DV → DV → DV → DV → DV → DV → DV → DV → DV → DV → DV → DV → DV → DV → DV → DV → DV → Hp → aI
abbrev dUd := DV → DV → DV → DV → DV → DV → DV → DV → DV → DV → DV → DV → DV → DV → DV → DV → DV → DV → DV → DV → Hp → aI
abbrev K0 (f : TT0) : K := fun env h => f h
abbrev K1 (f : TT1) (a0 : Nat) : K := fun env h => f (env a0) h
abbrev K2 (f : rP) (a0 a1 : Nat) : K := fun env h => f (env a0) (env a1) h
abbrev K3 (f : nB) (a0 a1 a2 : Nat) : K := fun env h => f (env a0) (env a1) (env a2) h
abbrev K4 (f : dJ) (a0 a1 a2 a3 : Nat) : K := fun env h => f (env a0) (env a1) (env a2) (env a3) h
abbrev K5 (f : cF) (a0 a1 a2 a3 a4 : Nat) : K := fun env h => f (env a0) (env a1) (env a2) (env a3) (env a4) h
abbrev K6 (f : gW) (a0 a1 a2 a3 a4 a5 : Nat) : K := fun env h => f (env a0) (env a1) (env a2) (env a3) (env a4) (env a5) h
abbrev K7 (f : TT7) (a0 a1 a2 a3 a4 a5 a6 : Nat) : K := fun env h => f (env a0) (env a1) (env a2) (env a3) (env a4) (env a5) (env a6) h
abbrev K8 (f : TT8) (a0 a1 a2 a3 a4 a5 a6 a7 : Nat) : K := fun env h => f (env a0) (env a1) (env a2) (env a3) (env a4) (env a5) (env a6) (env a7) h
abbrev K9 (f : TT9) (a0 a1 a2 a3 a4 a5 a6 a7 a8 : Nat) : K := fun env h => f (env a0) (env a1) (env a2) (env a3) (env a4) (env a5) (env a6) (env a7) (env a8) h
abbrev K10 (f : aOm) (a0 a1 a2 a3 a4 a5 a6 a7 a8 a9 : Nat) : K := fun env h => f (env a0) (env a1) (env a2) (env a3) (env a4) (env a5) (env a6) (env a7) (env a8) (env a9) h
abbrev K11 (f : dOi) (a0 a1 a2 a3 a4 a5 a6 a7 a8 a9 a10 : Nat) : K := fun env h => f (env a0) (env a1) (env a2) (env a3) (env a4) (env a5) (env a6) (env a7) (env a8) (env a9) (env a10) h
abbrev K12 (f : dOp) (a0 a1 a2 a3 a4 a5 a6 a7 a8 a9 a10 a11 : Nat) : K := fun env h => f (env a0) (env a1) (env a2) (env a3) (env a4) (env a5) (env a6) (env a7) (env a8) (env a9) (env a10) (env a11) h
abbrev K13 (f : dRk) (a0 a1 a2 a3 a4 a5 a6 a7 a8 a9 a10 a11 a12 : Nat) : K := fun env h => f (env a0) (env a1) (env a2) (env a3) (env a4) (env a5) (env a6) (env a7) (env a8) (env a9) (env a10) (env a11) (env a12) h
abbrev K14 (f : dSt) (a0 a1 a2 a3 a4 a5 a6 a7 a8 a9 a10 a11 a12 a13 : Nat) : K := fun env h => f (env a0) (env a1) (env a2) (env a3) (env a4) (env a5) (env a6) (env a7) (env a8) (env a9) (env a10) (env a11) (env a12) (env a13) h
abbrev K15 (f : dSg) (a0 a1 a2 a3 a4 a5 a6 a7 a8 a9 a10 a11 a12 a13 a14 : Nat) : K := fun env h => f (env a0) (env a1) (env a2) (env a3) (env a4) (env a5) (env a6) (env a7) (env a8) (env a9) (env a10) (env a11) (env a12) (env a13) (env a14) h
abbrev K16 (f : dPp) (a0 a1 a2 a3 a4 a5 a6 a7 a8 a9 a10 a11 a12 a13 a14 a15 : Nat) : K := fun env h => f (env a0) (env a1) (env a2) (env a3) (env a4) (env a5) (env a6) (env a7) (env a8) (env a9) (env a10) (env a11) (env a12) (env a13) (env a14) (env a15) h
abbrev K17 (f : dTq) (a0 a1 a2 a3 a4 a5 a6 a7 a8 a9 a10 a11 a12 a13 a14 a15 a16 : Nat) : K := fun env h => f (env a0) (env a1) (env a2) (env a3) (env a4) (env a5) (env a6) (env a7) (env a8) (env a9) (env a10) (env a11) (env a12) (env a13) (env a14) (env a15) (env a16) h
abbrev K18 (f : dUk) (a0 a1 a2 a3 a4 a5 a6 a7 a8 a9 a10 a11 a12 a13 a14 a15 a16 a17 : Nat) : K := fun env h => f (env a0) (env a1) (env a2) (env a3) (env a4) (env a5) (env a6) (env a7) (env a8) (env a9) (env a10) (env a11) (env a12) (env a13) (env a14) (env a15) (env a16) (env a17) h
abbrev K19 (f : dQo) (a0 a1 a2 a3 a4 a5 a6 a7 a8 a9 a10 a11 a12 a13 a14 a15 a16 a17 a18 : Nat) : K := fun env h => f (env a0) (env a1) (env a2) (env a3) (env a4) (env a5) (env a6) (env a7) (env a8) (env a9) (env a10) (env a11) (env a12) (env a13) (env a14) (env a15) (env a16) (env a17) (env a18) h
abbrev K20 (f : dUd) (a0 a1 a2 a3 a4 a5 a6 a7 a8 a9 a10 a11 a12 a13 a14 a15 a16 a17 a18 a19 : Nat) : K := fun env h => f (env a0) (env a1) (env a2) (env a3) (env a4) (env a5) (env a6) (env a7) (env a8) (env a9) (env a10) (env a11) (env a12) (env a13) (env a14) (env a15) (env a16) (env a17) (env a18) (env a19) h
theorem okG {d s : K} (m : d = s) (args : List DV) (h : Hp) {a b : aI} (e1 : a = d (aG args) h) (e2 : s (aG args) h = b) : a = b :=
 e1.trans ((congrFun (congrFun m (aG args)) h).trans e2)
abbrev aF (n : Nat) : DV := .i .i64 (Int.ofNat n)
abbrev lR : List DV := [(.i .i64 (Int.ofNat 0)), (.s []), (.i .i64 (Int.ofNat 0)), .l0, .l0, .l0]
abbrev aS (args : List DV) (i : Nat) : DV := args.getD i aV
end Go.Dd

namespace Go.Dd
open Go.Proofs
variable (r : RT) (n : Nat) (args : List DV) (h : Hp)
noncomputable def s12 (r : RT) (n : Nat) (h0 : Hp) : aI :=
 bnd (r 40 [(aF 30000)] h0) fun v1 h1 =>
 bnd (aB 0 v1 h1) fun v2 h2 =>
 bnd (aB 1 v1 h2) fun v3 h3 =>
 bnd (pEq (.pointer 64) true v2 .p0 h3) fun v4 h4 =>
 bnd (gD v4 false (some (v3, h4)) h4) fun v5 h5 =>
 bnd (gD v4 false (aD .neq v5 (aF 0) h5) h5) fun v6 h6 =>
 bnd (aQ v4 (.b true) v6 h6) fun v7 h7 =>
 aT v7 (
 some (.p0, h7)) (
 bnd (aL [(.s []), (.s [])] 2 [(0, 1, (.s [120])), (1, 1, (.s [121]))] h7) fun v8 h8 =>
 bnd (r 41 [v2, (.s [80, 111, 105, 110, 116]), (.s [79, 98, 106, 101, 99, 116]), v8] h8) fun v9 h9 =>
 bnd (aB 0 v9 h9) fun v10 h10 =>
 bnd (aB 1 v9 h10) fun v11 h11 =>
 bnd (aD .neq v11 (aF 0) h11) fun v12 h12 =>
 aT v12 (
 some (.p0, h12)) (
 some (v2, h12)))
noncomputable abbrev c12 : Code := cf Tryz.f12
noncomputable abbrev r12 : K := aP CF Tryz.f12
noncomputable def D12 (r : RT) (n : Nat) (c : Code) (X : Nat → K) (k : K) : K := aM CF r 24 n c X r12 k
theorem dTn : D12 r n c12 x0 r12 = (K0 (s12 r n)) :=
 (by kernel_rfl)
theorem cRp : aE CF r n 12 args h = s12 r n h :=
 (by kernel_rfl : aE CF r n 12 args h = D12 r n c12 x0 r12 (aG args) h).trans ((congrFun (congrFun (dTn r n) (aG args)) h).trans (by kernel_rfl))
noncomputable def s13 (r : RT) (n : Nat) (h0 : Hp) : aI :=
 bnd (r 12 [] h0) fun v1 h1 =>
 bnd (pEq (.pointer 64) true v1 .p0 h1) fun v2 h2 =>
 aT v2 (
 some ((.b false), h2)) (
 bnd (r 42 [v1, (aF 1073741823)] h2) fun v3 h3 =>
 bnd (aB 0 v3 h3) fun v4 h4 =>
 bnd (aB 1 v3 h4) fun v5 h5 =>
 bnd (aL [(aF 0)] 1 [(0, 1, (aF 3))] h5) fun v6 h6 =>
 bnd (r 16 [v1, (aF 1), v4, v6] h6) fun v7 h7 =>
 bnd (aB 0 v7 h7) fun v8 h8 =>
 bnd (aB 1 v7 h8) fun v9 h9 =>
 bnd (r 15 [v1, v8] h9) fun v10 h10 =>
 bnd (aB 0 v10 h10) fun v11 h11 =>
 bnd (aB 1 v10 h11) fun v12 h12 =>
 bnd (aL [(aF 0)] 1 [(0, 1, (aF 1))] h12) fun v13 h13 =>
 bnd (r 16 [v1, (aF 4), (aF 15), v13] h13) fun v14 h14 =>
 bnd (aB 0 v14 h14) fun v15 h15 =>
 bnd (aB 1 v14 h15) fun v16 h16 =>
 bnd (r 43 [v1, (.s [97, 98])] h16) fun v17 h17 =>
 bnd (aB 0 v17 h17) fun v18 h18 =>
 bnd (aB 1 v17 h18) fun v19 h19 =>
 bnd (aL [(aF 0)] 1 [(0, 1, (aF 5))] h19) fun v20 h20 =>
 bnd (r 16 [v1, (aF 20), v18, v20] h20) fun v21 h21 =>
 bnd (aB 0 v21 h21) fun v22 h22 =>
 bnd (aB 1 v21 h22) fun v23 h23 =>
 bnd (r 44 [v1, (.s [97, 98])] h23) fun v24 h24 =>
 bnd (aB 0 v24 h24) fun v25 h25 =>
 bnd (aB 1 v24 h25) fun v26 h26 =>
 bnd (aL [(aF 0), (aF 0)] 2 [(0, 1, (aF 3)), (1, 1, (aF 199))] h26) fun v27 h27 =>
 bnd (r 16 [v1, (aF 21), v25, v27] h27) fun v28 h28 =>
 bnd (aB 0 v28 h28) fun v29 h29 =>
 bnd (aB 1 v28 h29) fun v30 h30 =>
 bnd (aD .eql v9 (aF 0) h30) fun v31 h31 =>
 bnd (gD v31 true (some (v12, h31)) h31) fun v32 h32 =>
 bnd (aQ v31 v32 (.b false) h32) fun v33 h33 =>
 bnd (gD v33 true (some (v11, h33)) h33) fun v34 h34 =>
 bnd (gD v33 true (aD .eql v34 (aF 1073741824) h34) h34) fun v35 h35 =>
 bnd (aQ v33 v35 (.b false) h35) fun v36 h36 =>
 bnd (gD v36 true (some (v1, h36)) h36) fun v37 h37 =>
 bnd (gD v36 true (some (v8, h37)) h37) fun v38 h38 =>
 bnd (gD v36 true (r 25 [v37, v38] h38) h38) fun v39 h39 =>
 bnd (gD v36 true (some (v1, h39)) h39) fun v40 h40 =>
 bnd (gD v36 true (r 45 [v40, (.s [76, 97, 114, 103, 101, 73, 110, 116, 101, 103, 101, 114])] h40) h40) fun v41 h41 =>
 bnd (gD v36 true (aD .eql v39 v41 h41) h41) fun v42 h42 =>
 bnd (aQ v36 v42 (.b false) h42) fun v43 h43 =>
 bnd (gD v43 true (some (v16, h43)) h43) fun v44 h44 =>
 bnd (gD v43 true (aD .eql v44 (aF 20) h44) h44) fun v45 h45 =>
 bnd (aQ v43 v45 (.b false) h45) fun v46 h46 =>
 bnd (gD v46 true (some (v22, h46)) h46) fun v47 h47 =>
 bnd (gD v46 true (aD .eql v47 (aF 197) h47) h47) fun v48 h48 =>
 bnd (aQ v46 v48 (.b false) h48) fun v49 h49 =>
 bnd (gD v49 true (some (v23, h49)) h49) fun v50 h50 =>
 bnd (gD v49 true (aD .eql v50 (aF 0) h50) h50) fun v51 h51 =>
 bnd (aQ v49 v51 (.b false) h51) fun v52 h52 =>
 bnd (gD v52 true (some (v30, h52)) h52) fun v53 h53 =>
 bnd (gD v52 true (aD .eql v53 (aF 20) h53) h53) fun v54 h54 =>
 bnd (aQ v52 v54 (.b false) h54) fun v55 h55 =>
 bnd (gD v55 true (r 39 [(aF 21)] h55) h55) fun v56 h56 =>
 bnd (gD v55 true (aD .eql v56 (aF 2) h56) h56) fun v57 h57 =>
 bnd (aQ v55 v57 (.b false) h57) fun v58 h58 =>
 some (v58, h58))
noncomputable abbrev c13 : Code := cf Tryz.f13
noncomputable abbrev r13 : K := aP CF Tryz.f13
noncomputable def D13 (r : RT) (n : Nat) (c : Code) (X : Nat → K) (k : K) : K := aM CF r 106 n c X r13 k
theorem dSm : D13 r n c13 x0 r13 = (K0 (s13 r n)) :=
 (by kernel_rfl)
theorem cQr : aE CF r n 13 args h = s13 r n h :=
 (by kernel_rfl : aE CF r n 13 args h = D13 r n c13 x0 r13 (aG args) h).trans ((congrFun (congrFun (dSm r n) (aG args)) h).trans (by kernel_rfl))
noncomputable def aX (r : RT) (n : Nat) (x3 : DV) (h0 : Hp) : aI :=
 bnd (aC 1 x3 h0) fun v1 h1 =>
 bnd (aA v1 h1) fun v2 h2 =>
 some (v2, h2)
noncomputable def qE (r : RT) (n : Nat) (x0 x5 : DV) (h0 : Hp) : aI :=
 bnd (dV x5 h0) fun v1 h1 =>
 bnd (aD .quo v1 (aF 2) h1) fun v2 h2 =>
 bnd (fF x5 none (some v2) h2) fun v3 h3 =>
 bnd (gR .add (.s [115]) v3 h3) fun v4 h4 =>
 bnd (r 44 [x0, v4] h4) fun v5 h5 =>
 bnd (aB 0 v5 h5) fun v6 h6 =>
 bnd (aB 1 v5 h6) fun v7 h7 =>
 some (v6, h7)
noncomputable def aEe (r : RT) (n : Nat) (x0 x5 : DV) (h0 : Hp) : aI :=
 bnd (dV x5 h0) fun v1 h1 =>
 bnd (aD .gtr v1 (aF 60) h1) fun v2 h2 =>
 aT v2 (
 bnd (fF x5 none (some (aF 60)) h2) fun v3 h3 =>
  qE r n x0 v3 h3) (
  qE r n x0 x5 h2)
noncomputable def dS (r : RT) (n : Nat) (x0 x13 : DV) (h0 : Hp) : aI :=
 bnd (r 46 [x0, x13] h0) fun v1 h1 =>
 bnd (aB 0 v1 h1) fun v2 h2 =>
 bnd (aB 1 v1 h2) fun v3 h3 =>
 some (v2, h3)
noncomputable def kX (r : RT) (n : Nat) (kk21 : dJ) (x0 x12 x13 x14 : DV) (h0 : Hp) : aI :=
 bnd (aD .rem x12 (aF 10) h0) fun v1 h1 =>
 bnd (aD .lss x14 v1 h1) fun v2 h2 =>
 aT v2 (
 bnd (aD .mul (aF 2) x14 h2) fun v3 h3 =>
 bnd (aD .add v3 (aF 1) h3) fun v4 h4 =>
 bnd (aL [(aF 0)] 1 [(0, 1, v4)] h4) fun v5 h5 =>
 bnd (bB 1 8 x13 v5 h5) fun v6 h6 =>
 bnd (aD .add x14 (aF 1) h6) fun v7 h7 =>
      kk21 x0 x12 v6 v7 h7) (
      dS r n x0 x13 h2)
noncomputable def kY (r : RT) (n : Nat) (m : Nat) : dJ :=
 Nat.rec (motive := fun _ => dJ) (fun _ _ _ _ _ => none) (fun _ ih => kX r n ih) m
noncomputable def aPf (r : RT) (n : Nat) : dJ := kY r n n
noncomputable def aDd (r : RT) (n : Nat) (x0 x12 x13 x14 : DV) (h0 : Hp) : aI :=
 aPf r n x0 x12 x13 x14 h0
noncomputable def aEn (r : RT) (n : Nat) (x0 x12 x13 : DV) (h0 : Hp) : aI :=
 aDd r n x0 x12 x13 (aF 0) h0
noncomputable def qF (r : RT) (n : Nat) (x0 x12 : DV) (h0 : Hp) : aI :=
 aEn r n x0 x12 .l0 h0
noncomputable def aHh (r : RT) (n : Nat) (x0 x12 : DV) (h0 : Hp) : aI :=
 bnd (aD .lss x12 (aF 0) h0) fun v1 h1 =>
 aT v1 (
 bnd (aD .add x12 (aF 1) h1) fun v2 h2 =>
 bnd (dR .neg v2 h2) fun v3 h3 =>
  qF r n x0 v3 h3) (
  qF r n x0 x12 h1)
noncomputable def aDl (r : RT) (n : Nat) (x0 x3 : DV) (h0 : Hp) : aI :=
 bnd (aC 1 x3 h0) fun v1 h1 =>
 bnd (aA v1 h1) fun v2 h2 =>
  aHh r n x0 v2 h2
noncomputable def xK (r : RT) (n : Nat) (x0 x3 x27 x66 : DV) (h0 : Hp) : aI :=
 aT x66 (
  aDl r n x0 x3 h0) (
 bnd (aD .eql x27 (aF 4) h0) fun v1 h1 =>
 aT v1 (
 bnd (r 23 [x0] h1) fun v2 h2 =>
 bnd (r 45 [x0, (.s [80, 111, 105, 110, 116])] h2) fun v3 h3 =>
 bnd (iR [v2, v3, (aF 0), (aF 2)] h3) fun v4 h4 =>
 bnd (aB 0 v4 h4) fun v5 h5 =>
 bnd (aB 1 v4 h5) fun v6 h6 =>
 some (v5, h6)) (
 bnd (aD .eql x27 (aF 5) h1) fun v7 h7 =>
 aT v7 (
 bnd (aC 1 x3 h7) fun v8 h8 =>
 bnd (aA v8 h8) fun v9 h9 =>
 bnd (aD .eql v9 (aF 16) h9) fun v10 h10 =>
 aT v10 (
 bnd (r 45 [x0, (.s [80, 111, 105, 110, 116])] h10) fun v11 h11 =>
 some (v11, h11)) (
 bnd (aC 1 x3 h10) fun v12 h12 =>
 bnd (aA v12 h12) fun v13 h13 =>
 bnd (r 30 [x0, v13] h13) fun v14 h14 =>
 some (v14, h14))) (
 bnd (aD .eql x27 (aF 6) h7) fun v15 h15 =>
 aT v15 (
 some ((aF 0), h15)) (
 bnd (aD .eql x27 (aF 7) h15) fun v16 h16 =>
 aT v16 (
 some ((aF 2), h16)) (
 bnd (aD .eql x27 (aF 8) h16) fun v17 h17 =>
 aT v17 (
 some ((aF 4), h17)) (
       aX r n x3 h17))))))
noncomputable def aQy (r : RT) (n : Nat) (x0 x3 x27 : DV) (h0 : Hp) : aI :=
 bnd (aD .eql x27 (aF 3) h0) fun v1 h1 =>
  xK r n x0 x3 x27 v1 h1
noncomputable def wI (r : RT) (n : Nat) (x0 x3 x5 x27 x47 : DV) (h0 : Hp) : aI :=
 aT x47 (
  aEe r n x0 x5 h0) (
  aQy r n x0 x3 x27 h0)
noncomputable def bIj (r : RT) (n : Nat) (x0 x3 x5 x27 : DV) (h0 : Hp) : aI :=
 bnd (aD .eql x27 (aF 2) h0) fun v1 h1 =>
  wI r n x0 x3 x5 x27 v1 h1
noncomputable def aMo (r : RT) (n : Nat) (x0 x3 x5 x27 x38 : DV) (h0 : Hp) : aI :=
 aT x38 (
 bnd (r 43 [x0, x5] h0) fun v1 h1 =>
 bnd (aB 0 v1 h1) fun v2 h2 =>
 bnd (aB 1 v1 h2) fun v3 h3 =>
 some (v2, h3)) (
  bIj r n x0 x3 x5 x27 h0)
noncomputable def bGg (r : RT) (n : Nat) (x0 x3 x5 x27 : DV) (h0 : Hp) : aI :=
 bnd (aD .eql x27 (aF 1) h0) fun v1 h1 =>
  aMo r n x0 x3 x5 x27 v1 h1
noncomputable def aMb (r : RT) (n : Nat) (x0 x3 x5 x27 x28 : DV) (h0 : Hp) : aI :=
 aT x28 (
 bnd (aC 1 x3 h0) fun v1 h1 =>
 bnd (aA v1 h1) fun v2 h2 =>
 bnd (r 42 [x0, v2] h2) fun v3 h3 =>
 bnd (aB 0 v3 h3) fun v4 h4 =>
 bnd (aB 1 v3 h4) fun v5 h5 =>
 some (v4, h5)) (
  bGg r n x0 x3 x5 x27 h0)
noncomputable def aZc (r : RT) (n : Nat) (x0 x3 x5 x27 : DV) (h0 : Hp) : aI :=
 bnd (aD .eql x27 (aF 0) h0) fun v1 h1 =>
  aMb r n x0 x3 x5 x27 v1 h1
noncomputable def aAf (r : RT) (n : Nat) (x0 x3 x5 : DV) (h0 : Hp) : aI :=
 bnd (aC 0 x3 h0) fun v1 h1 =>
 bnd (aA v1 h1) fun v2 h2 =>
  aZc r n x0 x3 x5 v2 h2
noncomputable def aWb (r : RT) (n : Nat) (x0 x3 x5 : DV) (h0 : Hp) : aI :=
 bnd (dV x5 h0) fun v1 h1 =>
 bnd (aD .gtr v1 (aF 250) h1) fun v2 h2 =>
 aT v2 (
 bnd (fF x5 none (some (aF 250)) h2) fun v3 h3 =>
  aAf r n x0 x3 v3 h3) (
  aAf r n x0 x3 x5 h2)
noncomputable def aAr (r : RT) (n : Nat) (x0 x3 : DV) (h0 : Hp) : aI :=
 bnd (aC 2 x3 h0) fun v1 h1 =>
 bnd (aA v1 h1) fun v2 h2 =>
  aWb r n x0 x3 v2 h2
noncomputable def s14 (r : RT) (n : Nat) (x0 x1 : DV) (h0 : Hp) : aI :=
 bnd (bX x1 h0) fun v1 h1 =>
  aAr r n x0 v1 h1
noncomputable abbrev c14 : Code := cf Tryz.f14
noncomputable abbrev aZf : Code := cR c14
noncomputable abbrev aUw : Code := cR aZf
noncomputable abbrev aXr : Code := cR aUw
noncomputable abbrev dGd : Code := cR aXr
noncomputable abbrev aLq : Code := cL aXr
noncomputable abbrev bTo : Code := cR aLq
noncomputable abbrev aTm : Code := cL bTo
noncomputable abbrev aLb : Code := cR aTm
noncomputable abbrev aMk : Code := cR aLb
noncomputable abbrev wJ : Code := cR aMk
noncomputable abbrev vF : Code := cR wJ
noncomputable abbrev wA : Code := cR vF
noncomputable abbrev xB : Code := cL wA
noncomputable abbrev cWm : Code := cR xB
noncomputable abbrev bGh : Code := cL xB
noncomputable abbrev vQ : Code := cR wA
noncomputable abbrev xP : Code := cR vQ
noncomputable abbrev yB : Code := cL xP
noncomputable abbrev aEc : Code := cR yB
noncomputable abbrev aBa : Code := cR aEc
noncomputable abbrev aJl : Code := cR aBa
noncomputable abbrev cXx : Code := cR aJl
noncomputable abbrev yN : Code := cL aJl
noncomputable abbrev aRb : Code := cR yN
noncomputable abbrev aAx : Code := cL aRb
noncomputable abbrev mI : Code := cL aAx
noncomputable abbrev bLi : Code := cL yN
noncomputable abbrev bPf : Code := cL aBa
noncomputable abbrev bXv : Code := cL aEc
noncomputable abbrev bVb : Code := cL yB
noncomputable abbrev cXp : Code := cR xP
noncomputable abbrev bKq : Code := cL vQ
noncomputable abbrev bUm : Code := cL vF
noncomputable abbrev cYj : Code := cL wJ
noncomputable abbrev bOo : Code := cL aMk
noncomputable abbrev dAa : Code := cL aLb
noncomputable abbrev bOx : Code := cL aTm
noncomputable abbrev bQn : Code := cL aLq
noncomputable abbrev bOc : Code := cL aUw
noncomputable abbrev bQv : Code := cL aZf
noncomputable abbrev aOf : Code := cL c14
noncomputable abbrev r14 : K := aP CF Tryz.f14
noncomputable def D14 (r : RT) (n : Nat) (c : Code) (X : Nat → K) (k : K) : K := aM CF r 124 n c X r14 k
theorem dFd : D14 r n dGd x0 r14 = (K1 (aX r n) 3) :=
 (by kernel_rfl)
theorem cJl : D14 r n cWm (xs x0 0 (K1 (aX r n) 3)) (K1 (aX r n) 3) = (K2 (qE r n) 0 5) :=
 (by kernel_rfl)
theorem bPk : D14 r n xB (xs x0 0 (K1 (aX r n) 3)) (K1 (aX r n) 3) = D14 r n bGh (xs x0 0 (K1 (aX r n) 3)) (K2 (qE r n) 0 5) :=
 congrArg (fun k => D14 r n bGh (xs x0 0 (K1 (aX r n) 3)) k) (cJl r n)
theorem cFs : D14 r n xB (xs x0 0 (K1 (aX r n) 3)) (K1 (aX r n) 3) = (K2 (aEe r n) 0 5) :=
 (bPk r n).trans
 ((by kernel_rfl))
theorem cDw : D14 r n cXx (xs x0 0 (K1 (aX r n) 3)) (K1 (aX r n) 3) = (K2 (dS r n) 0 13) :=
 (by kernel_rfl)
theorem bHy (kk21 : dJ) (q0 : TT1) (q1 : rP) : D14 r n mI (xs (xs x0 0 (K1 q0 3)) 1 (K2 q1 0 13)) (K4 kk21 0 12 13 14) = fun (env : aW) (h : Hp) =>
 bnd (aD .rem (env 12) (aF 10) h) fun v1 h1 =>
 bnd (aD .lss (env 14) v1 h1) fun v2 h2 =>
 aT v2 (
 bnd (aD .mul (aF 2) (env 14) h2) fun v3 h3 =>
 bnd (aD .add v3 (aF 1) h3) fun v4 h4 =>
 bnd (aL [(aF 0)] 1 [(0, 1, v4)] h4) fun v5 h5 =>
 bnd (bB 1 8 (env 13) v5 h5) fun v6 h6 =>
 bnd (aD .add (env 14) (aF 1) h6) fun v7 h7 =>
      kk21 (env 0) (env 12) v6 v7 h7) (
      q1 (env 0) (env 13) h2) := by kernel_rfl
theorem bDp (kk21 : dJ) : (fun (env : aW) (h : Hp) =>
 bnd (aD .rem (env 12) (aF 10) h) fun v1 h1 =>
 bnd (aD .lss (env 14) v1 h1) fun v2 h2 =>
 aT v2 (
 bnd (aD .mul (aF 2) (env 14) h2) fun v3 h3 =>
 bnd (aD .add v3 (aF 1) h3) fun v4 h4 =>
 bnd (aL [(aF 0)] 1 [(0, 1, v4)] h4) fun v5 h5 =>
 bnd (bB 1 8 (env 13) v5 h5) fun v6 h6 =>
 bnd (aD .add (env 14) (aF 1) h6) fun v7 h7 =>
      kk21 (env 0) (env 12) v6 v7 h7) (
      dS r n (env 0) (env 13) h2)) = (K4 (kX r n kk21) 0 12 13 14) := by kernel_rfl
theorem bIz (kk21 : dJ) : D14 r n mI (xs (xs x0 0 (K1 (aX r n) 3)) 1 (K2 (dS r n) 0 13)) (K4 kk21 0 12 13 14) = (K4 (kX r n kk21) 0 12 13 14) :=
 (bHy r n kk21 (aX r n) (dS r n)).trans (bDp r n kk21)
theorem bPp (m : Nat) : aR (fun kk => D14 r n mI (xs (xs x0 0 (K1 (aX r n) 3)) 1 (K2 (dS r n) 0 13)) kk) m = (K4 (kY r n m) 0 12 13 14) := by
 induction m with
 | zero => exact (by kernel_rfl : aR (fun kk => D14 r n mI (xs (xs x0 0 (K1 (aX r n) 3)) 1 (K2 (dS r n) 0 13)) kk) 0 = (K4 (kY r n 0) 0 12 13 14))
 | succ m ih =>
  refine (by kernel_rfl : aR (fun kk => D14 r n mI (xs (xs x0 0 (K1 (aX r n) 3)) 1 (K2 (dS r n) 0 13)) kk) (m + 1) = D14 r n mI (xs (xs x0 0 (K1 (aX r n) 3)) 1 (K2 (dS r n) 0 13)) (aR (fun kk => D14 r n mI (xs (xs x0 0 (K1 (aX r n) 3)) 1 (K2 (dS r n) 0 13)) kk) m)).trans ?_
  rw [ih]
  exact (bIz r n (kY r n m)).trans (by kernel_rfl)
theorem cEl : D14 r n aAx (xs (xs x0 0 (K1 (aX r n) 3)) 1 (K2 (dS r n) 0 13)) (K2 (dS r n) 0 13) = (K4 (aPf r n) 0 12 13 14) :=
 (by kernel_rfl : D14 r n aAx (xs (xs x0 0 (K1 (aX r n) 3)) 1 (K2 (dS r n) 0 13)) (K2 (dS r n) 0 13) = aR (fun kk => D14 r n mI (xs (xs x0 0 (K1 (aX r n) 3)) 1 (K2 (dS r n) 0 13)) kk) n).trans ((bPp r n n).trans (by kernel_rfl))
theorem cLn : D14 r n aRb (xs x0 0 (K1 (aX r n) 3)) (K2 (dS r n) 0 13) = (K4 (aDd r n) 0 12 13 14) :=
 (by kernel_rfl : D14 r n aRb (xs x0 0 (K1 (aX r n) 3)) (K2 (dS r n) 0 13) = D14 r n aAx (xs (xs x0 0 (K1 (aX r n) 3)) 1 (K2 (dS r n) 0 13)) (K2 (dS r n) 0 13)).trans
 ((cEl r n).trans (by kernel_rfl))
theorem bQb : D14 r n aJl (xs x0 0 (K1 (aX r n) 3)) (K1 (aX r n) 3) = D14 r n yN (xs x0 0 (K1 (aX r n) 3)) (K2 (dS r n) 0 13) :=
 congrArg (fun k => D14 r n yN (xs x0 0 (K1 (aX r n) 3)) k) (cDw r n)
theorem bMo : D14 r n yN (xs x0 0 (K1 (aX r n) 3)) (K2 (dS r n) 0 13) = D14 r n bLi (xs x0 0 (K1 (aX r n) 3)) (K4 (aDd r n) 0 12 13 14) :=
 congrArg (fun k => D14 r n bLi (xs x0 0 (K1 (aX r n) 3)) k) (cLn r n)
theorem cLd : D14 r n aJl (xs x0 0 (K1 (aX r n) 3)) (K1 (aX r n) 3) = (K3 (aEn r n) 0 12 13) :=
 (bQb r n).trans
 ((bMo r n).trans
 ((by kernel_rfl)))
theorem bTb : D14 r n aBa (xs x0 0 (K1 (aX r n) 3)) (K1 (aX r n) 3) = D14 r n bPf (xs x0 0 (K1 (aX r n) 3)) (K3 (aEn r n) 0 12 13) :=
 congrArg (fun k => D14 r n bPf (xs x0 0 (K1 (aX r n) 3)) k) (cLd r n)
theorem cIl : D14 r n aBa (xs x0 0 (K1 (aX r n) 3)) (K1 (aX r n) 3) = (K2 (qF r n) 0 12) :=
 (bTb r n).trans
 ((by kernel_rfl))
theorem bHe : D14 r n aEc (xs x0 0 (K1 (aX r n) 3)) (K1 (aX r n) 3) = D14 r n bXv (xs x0 0 (K1 (aX r n) 3)) (K2 (qF r n) 0 12) :=
 congrArg (fun k => D14 r n bXv (xs x0 0 (K1 (aX r n) 3)) k) (cIl r n)
theorem cAw : D14 r n aEc (xs x0 0 (K1 (aX r n) 3)) (K1 (aX r n) 3) = (K2 (aHh r n) 0 12) :=
 (bHe r n).trans
 ((by kernel_rfl))
theorem bTq : D14 r n yB (xs x0 0 (K1 (aX r n) 3)) (K1 (aX r n) 3) = D14 r n bVb (xs x0 0 (K1 (aX r n) 3)) (K2 (aHh r n) 0 12) :=
 congrArg (fun k => D14 r n bVb (xs x0 0 (K1 (aX r n) 3)) k) (cAw r n)
theorem cGm : D14 r n yB (xs x0 0 (K1 (aX r n) 3)) (K1 (aX r n) 3) = (K2 (aDl r n) 0 3) :=
 (bTq r n).trans
 ((by kernel_rfl))
theorem cGc : D14 r n xP (xs x0 0 (K1 (aX r n) 3)) (K1 (aX r n) 3) = (K4 (xK r n) 0 3 27 66) :=
 (by kernel_rfl : D14 r n xP (xs x0 0 (K1 (aX r n) 3)) (K1 (aX r n) 3) = (fun (env : aW) (h : Hp) => aT (opr env (cC xP)) (D14 r n yB (xs x0 0 (K1 (aX r n) 3)) (K1 (aX r n) 3) env h) (D14 r n cXp (xs x0 0 (K1 (aX r n) 3)) (K1 (aX r n) 3) env h))).trans (by rw [cGm r n]; kernel_rfl)
theorem bJl : D14 r n vQ (xs x0 0 (K1 (aX r n) 3)) (K1 (aX r n) 3) = D14 r n bKq (xs x0 0 (K1 (aX r n) 3)) (K4 (xK r n) 0 3 27 66) :=
 congrArg (fun k => D14 r n bKq (xs x0 0 (K1 (aX r n) 3)) k) (cGc r n)
theorem cJd : D14 r n vQ (xs x0 0 (K1 (aX r n) 3)) (K1 (aX r n) 3) = (K3 (aQy r n) 0 3 27) :=
 (bJl r n).trans
 ((by kernel_rfl))
theorem cMq : D14 r n wA (xs x0 0 (K1 (aX r n) 3)) (K1 (aX r n) 3) = (K5 (wI r n) 0 3 5 27 47) :=
 (by kernel_rfl : D14 r n wA (xs x0 0 (K1 (aX r n) 3)) (K1 (aX r n) 3) = (fun (env : aW) (h : Hp) => aT (opr env (cC wA)) (D14 r n xB (xs x0 0 (K1 (aX r n) 3)) (K1 (aX r n) 3) env h) (D14 r n vQ (xs x0 0 (K1 (aX r n) 3)) (K1 (aX r n) 3) env h))).trans (by rw [cFs r n, cJd r n]; kernel_rfl)
theorem cDz : D14 r n vF (xs x0 0 (K1 (aX r n) 3)) (K1 (aX r n) 3) = D14 r n bUm (xs x0 0 (K1 (aX r n) 3)) (K5 (wI r n) 0 3 5 27 47) :=
 congrArg (fun k => D14 r n bUm (xs x0 0 (K1 (aX r n) 3)) k) (cMq r n)
theorem cWu : D14 r n vF (xs x0 0 (K1 (aX r n) 3)) (K1 (aX r n) 3) = (K4 (bIj r n) 0 3 5 27) :=
 (cDz r n).trans
 ((by kernel_rfl))
theorem cYx : D14 r n wJ (xs x0 0 (K1 (aX r n) 3)) (K1 (aX r n) 3) = (K5 (aMo r n) 0 3 5 27 38) :=
 (by kernel_rfl : D14 r n wJ (xs x0 0 (K1 (aX r n) 3)) (K1 (aX r n) 3) = (fun (env : aW) (h : Hp) => aT (opr env (cC wJ)) (D14 r n cYj (xs x0 0 (K1 (aX r n) 3)) (K1 (aX r n) 3) env h) (D14 r n vF (xs x0 0 (K1 (aX r n) 3)) (K1 (aX r n) 3) env h))).trans (by rw [cWu r n]; kernel_rfl)
theorem bLb : D14 r n aMk (xs x0 0 (K1 (aX r n) 3)) (K1 (aX r n) 3) = D14 r n bOo (xs x0 0 (K1 (aX r n) 3)) (K5 (aMo r n) 0 3 5 27 38) :=
 congrArg (fun k => D14 r n bOo (xs x0 0 (K1 (aX r n) 3)) k) (cYx r n)
theorem cTi : D14 r n aMk (xs x0 0 (K1 (aX r n) 3)) (K1 (aX r n) 3) = (K4 (bGg r n) 0 3 5 27) :=
 (bLb r n).trans
 ((by kernel_rfl))
theorem dBt : D14 r n aLb (xs x0 0 (K1 (aX r n) 3)) (K1 (aX r n) 3) = (K5 (aMb r n) 0 3 5 27 28) :=
 (by kernel_rfl : D14 r n aLb (xs x0 0 (K1 (aX r n) 3)) (K1 (aX r n) 3) = (fun (env : aW) (h : Hp) => aT (opr env (cC aLb)) (D14 r n dAa (xs x0 0 (K1 (aX r n) 3)) (K1 (aX r n) 3) env h) (D14 r n aMk (xs x0 0 (K1 (aX r n) 3)) (K1 (aX r n) 3) env h))).trans (by rw [cTi r n]; kernel_rfl)
theorem bYd : D14 r n aTm (xs x0 0 (K1 (aX r n) 3)) (K1 (aX r n) 3) = D14 r n bOx (xs x0 0 (K1 (aX r n) 3)) (K5 (aMb r n) 0 3 5 27 28) :=
 congrArg (fun k => D14 r n bOx (xs x0 0 (K1 (aX r n) 3)) k) (dBt r n)
theorem dBk : D14 r n bTo x0 (K1 (aX r n) 3) = (K4 (aZc r n) 0 3 5 27) :=
 (by kernel_rfl : D14 r n bTo x0 (K1 (aX r n) 3) = D14 r n aTm (xs x0 0 (K1 (aX r n) 3)) (K1 (aX r n) 3)).trans
 ((bYd r n).trans
 ((by kernel_rfl)))
theorem bOv : D14 r n aXr x0 r14 = D14 r n aLq x0 (K1 (aX r n) 3) :=
 congrArg (fun k => D14 r n aLq x0 k) (dFd r n)
theorem bPn : D14 r n aLq x0 (K1 (aX r n) 3) = D14 r n bQn x0 (K4 (aZc r n) 0 3 5 27) :=
 congrArg (fun k => D14 r n bQn x0 k) (dBk r n)
theorem cUd : D14 r n aXr x0 r14 = (K3 (aAf r n) 0 3 5) :=
 (bOv r n).trans
 ((bPn r n).trans
 ((by kernel_rfl)))
theorem bIb : D14 r n aUw x0 r14 = D14 r n bOc x0 (K3 (aAf r n) 0 3 5) :=
 congrArg (fun k => D14 r n bOc x0 k) (cUd r n)
theorem dAr : D14 r n aUw x0 r14 = (K3 (aWb r n) 0 3 5) :=
 (bIb r n).trans
 ((by kernel_rfl))
theorem bYj : D14 r n aZf x0 r14 = D14 r n bQv x0 (K3 (aWb r n) 0 3 5) :=
 congrArg (fun k => D14 r n bQv x0 k) (dAr r n)
theorem cYr : D14 r n aZf x0 r14 = (K2 (aAr r n) 0 3) :=
 (bYj r n).trans
 ((by kernel_rfl))
theorem dCu : D14 r n c14 x0 r14 = D14 r n aOf x0 (K2 (aAr r n) 0 3) :=
 congrArg (fun k => D14 r n aOf x0 k) (cYr r n)
theorem cZq (q0 : rP) : D14 r n aOf x0 (K2 q0 0 3) = fun (env : aW) (h : Hp) =>
 bnd (bX (env 1) h) fun v1 h1 =>
  q0 (env 0) v1 h1 := by kernel_rfl
theorem cKx : (fun (env : aW) (h : Hp) =>
 bnd (bX (env 1) h) fun v1 h1 =>
  aAr r n (env 0) v1 h1) = (K2 (s14 r n) 0 1) := by kernel_rfl
theorem dSj : D14 r n c14 x0 r14 = (K2 (s14 r n) 0 1) :=
 (dCu r n).trans
 ((cZq r n (aAr r n)).trans (cKx r n))
theorem cQf : aE CF r n 14 args h = s14 r n (aS args 0) (aS args 1) h :=
 (by kernel_rfl : aE CF r n 14 args h = D14 r n c14 x0 r14 (aG args) h).trans ((congrFun (congrFun (dSj r n) (aG args)) h).trans (by kernel_rfl))
noncomputable def s15 (r : RT) (n : Nat) (x0 x1 : DV) (h0 : Hp) : aI :=
 bnd (eZ [x1] h0) fun v1 h1 =>
 aT v1 (
 bnd (jL [x1] h1) fun v2 h2 =>
 some (.t [v2, (.b true)], h2)) (
 bnd (aO x0 h1) fun v3 h3 =>
 bnd (aC 0 v3 h3) fun v4 h4 =>
 bnd (aA v4 h4) fun v5 h5 =>
 bnd (isF [v5, x1] h5) fun v6 h6 =>
 bnd (gD v6 true (some (x0, h6)) h6) fun v7 h7 =>
 bnd (gD v6 true (aO v7 h7) h7) fun v8 h8 =>
 bnd (gD v6 true (aC 0 v8 h8) h8) fun v9 h9 =>
 bnd (gD v6 true (aA v9 h9) h9) fun v10 h10 =>
 bnd (gD v6 true (some (x1, h10)) h10) fun v11 h11 =>
 bnd (gD v6 true (kB [v10, v11] h11) h11) fun v12 h12 =>
 bnd (gD v6 true (some (x0, h12)) h12) fun v13 h13 =>
 bnd (gD v6 true (r 30 [v13, (aF 8)] h13) h13) fun v14 h14 =>
 bnd (gD v6 true (aD .eql v12 v14 h14) h14) fun v15 h15 =>
 bnd (aQ v6 v15 (.b false) h15) fun v16 h16 =>
 bnd (gD v16 true (some (x0, h16)) h16) fun v17 h17 =>
 bnd (gD v16 true (aO v17 h17) h17) fun v18 h18 =>
 bnd (gD v16 true (aC 0 v18 h18) h18) fun v19 h19 =>
 bnd (gD v16 true (aA v19 h19) h19) fun v20 h20 =>
 bnd (gD v16 true (some (x1, h20)) h20) fun v21 h21 =>
 bnd (gD v16 true (jS [v20, v21] h21) h21) fun v22 h22 =>
 bnd (gD v16 true (aD .eql v22 (aF 1) h22) h22) fun v23 h23 =>
 bnd (aQ v16 v23 (.b false) h23) fun v24 h24 =>
 aT v24 (
 bnd (r 51 [x0, x1, (aF 0)] h24) fun v25 h25 =>
 some (.t [v25, (.b true)], h25)) (
 some (.t [(aF 0), (.b false)], h24)))
noncomputable abbrev c15 : Code := cf Tryz.f15
noncomputable abbrev r15 : K := aP CF Tryz.f15
noncomputable def D15 (r : RT) (n : Nat) (c : Code) (X : Nat → K) (k : K) : K := aM CF r 41 n c X r15 k
theorem dTf : D15 r n c15 x0 r15 = (K2 (s15 r n) 0 1) :=
 (by kernel_rfl)
theorem cQb : aE CF r n 15 args h = s15 r n (aS args 0) (aS args 1) h :=
 (by kernel_rfl : aE CF r n 15 args h = D15 r n c15 x0 r15 (aG args) h).trans ((congrFun (congrFun (dTf r n) (aG args)) h).trans (by kernel_rfl))
noncomputable def bC (r : RT) (n : Nat) (x12 : DV) (h0 : Hp) : aI :=
 bnd (fO CF r x12 [] h0) fun v1 h1 =>
 bnd (aB 0 v1 h1) fun v2 h2 =>
 bnd (aB 1 v1 h2) fun v3 h3 =>
 some (.t [v2, v3], h3)
noncomputable def aCu (r : RT) (n : Nat) (x11 x12 x69 : DV) (h0 : Hp) : aI :=
 aT x69 (
  bC r n (.f 61 [x11] []) h0) (
  bC r n x12 h0)
noncomputable def bPu (r : RT) (n : Nat) (x11 x12 x42 : DV) (h0 : Hp) : aI :=
 bnd (aD .eql x42 (aF 50) h0) fun v1 h1 =>
 aT v1 (
  aCu r n x11 x12 v1 h1) (
 bnd (aD .eql x42 (aF 51) h1) fun v2 h2 =>
  aCu r n x11 x12 v2 h2)
noncomputable def aGi (r : RT) (n : Nat) (x11 x12 x42 x64 : DV) (h0 : Hp) : aI :=
 aT x64 (
  bC r n (.f 60 [x11] []) h0) (
  bPu r n x11 x12 x42 h0)
noncomputable def bSz (r : RT) (n : Nat) (x11 x12 x42 : DV) (h0 : Hp) : aI :=
 bnd (aD .eql x42 (aF 40) h0) fun v1 h1 =>
 aT v1 (
  aGi r n x11 x12 x42 v1 h1) (
 bnd (aD .eql x42 (aF 41) h1) fun v2 h2 =>
  aGi r n x11 x12 x42 v2 h2)
noncomputable def aHr (r : RT) (n : Nat) (x11 x12 x42 x59 : DV) (h0 : Hp) : aI :=
 aT x59 (
  bC r n (.f 59 [x11] []) h0) (
  bSz r n x11 x12 x42 h0)
noncomputable def bJq (r : RT) (n : Nat) (x11 x12 x42 : DV) (h0 : Hp) : aI :=
 bnd (aD .eql x42 (aF 25) h0) fun v1 h1 =>
 aT v1 (
  aHr r n x11 x12 x42 v1 h1) (
 bnd (aD .eql x42 (aF 26) h1) fun v2 h2 =>
  aHr r n x11 x12 x42 v2 h2)
noncomputable def aId (r : RT) (n : Nat) (x11 x12 x42 x54 : DV) (h0 : Hp) : aI :=
 aT x54 (
  bC r n (.f 58 [x11] []) h0) (
  bJq r n x11 x12 x42 h0)
noncomputable def bXt (r : RT) (n : Nat) (x11 x12 x42 : DV) (h0 : Hp) : aI :=
 bnd (aD .eql x42 (aF 23) h0) fun v1 h1 =>
 aT v1 (
  aId r n x11 x12 x42 v1 h1) (
 bnd (aD .eql x42 (aF 24) h1) fun v2 h2 =>
  aId r n x11 x12 x42 v2 h2)
noncomputable def zE (r : RT) (n : Nat) (x11 x12 x42 x48 : DV) (h0 : Hp) : aI :=
 aT x48 (
  bC r n (.f 57 [x11] []) h0) (
  bXt r n x11 x12 x42 h0)
noncomputable def cQv (r : RT) (n : Nat) (x11 x12 x42 : DV) (h0 : Hp) : aI :=
 bnd (aD .eql x42 (aF 20) h0) fun v1 h1 =>
 aT v1 (
  zE r n x11 x12 x42 v1 h1) (
 bnd (aD .eql x42 (aF 21) h1) fun v2 h2 =>
 aT v2 (
   zE r n x11 x12 x42 v2 h2) (
 bnd (aD .eql x42 (aF 22) h2) fun v3 h3 =>
      zE r n x11 x12 x42 v3 h3))
noncomputable def aXs (r : RT) (n : Nat) (x11 x12 x42 x43 : DV) (h0 : Hp) : aI :=
 aT x43 (
  bC r n (.f 56 [x11] []) h0) (
  cQv r n x11 x12 x42 h0)
noncomputable def bWy (r : RT) (n : Nat) (x11 x12 x42 : DV) (h0 : Hp) : aI :=
 bnd (aD .eql x42 (aF 10) h0) fun v1 h1 =>
 aT v1 (
  aXs r n x11 x12 x42 v1 h1) (
 bnd (aD .eql x42 (aF 11) h1) fun v2 h2 =>
  aXs r n x11 x12 x42 v2 h2)
noncomputable def bOn (r : RT) (n : Nat) (x1 x11 x12 : DV) (h0 : Hp) : aI :=
 bWy r n x11 x12 x1 h0
noncomputable def iZ (r : RT) (n : Nat) (x1 x11 : DV) (h0 : Hp) : aI :=
 bOn r n x1 x11 (.f 55 [x11] []) h0
noncomputable def wX (r : RT) (n : Nat) (x0 x1 x2 x3 : DV) (h0 : Hp) : aI :=
 bnd (bD [.p0, (aF 0), (aF 0), .l0] [(0, 1, x0), (1, 1, x1), (2, 1, x2), (3, 1, x3)] h0) fun v1 h1 =>
 bnd (bX v1 h1) fun v2 h2 =>
  iZ r n x1 v2 h2
noncomputable def aAs (r : RT) (n : Nat) (x0 x1 x2 x3 x10 : DV) (h0 : Hp) : aI :=
 bnd (r 39 [x1] h0) fun v1 h1 =>
 bnd (cJ x3 h1) fun v2 h2 =>
 bnd (aD .neq v1 v2 h2) fun v3 h3 =>
 bnd (gD v3 false (aA x10 h3) h3) fun v4 h4 =>
 bnd (gD v3 false (some (x2, h4)) h4) fun v5 h5 =>
 bnd (gD v3 false (aEo [v4, v5] h5) h5) fun v6 h6 =>
 bnd (gD v3 false (dR .not v6 h6) h6) fun v7 h7 =>
 bnd (aQ v3 (.b true) v7 h7) fun v8 h8 =>
 bnd (gD v8 false (some (x3, h8)) h8) fun v9 h9 =>
 bnd (gD v8 false (some ((.f 53 [] [x10]), h9)) h9) fun v10 h10 =>
 bnd (gD v8 false (r 52 [v9, v10] h10) h10) fun v11 h11 =>
 bnd (aQ v8 (.b true) v11 h11) fun v12 h12 =>
 aT v12 (
 bnd (r 54 [] h12) fun v13 h13 =>
 bnd (aB 0 v13 h13) fun v14 h14 =>
 bnd (aB 1 v13 h14) fun v15 h15 =>
 some (.t [v14, v15], h15)) (
  wX r n x0 x1 x2 x3 h12)
noncomputable def aKc (r : RT) (n : Nat) (x0 x1 x2 x3 : DV) (h0 : Hp) : aI :=
 bnd (r 23 [x0] h0) fun v1 h1 =>
 bnd (bR [.p0] h1) fun v2 h2 =>
 bnd (aH 1 v2 v1 h2) fun _ h3 =>
  aAs r n x0 x1 x2 x3 v2 h3
noncomputable def s16 (r : RT) (n : Nat) (x0 x1 x2 x3 : DV) (h0 : Hp) : aI :=
 aKc r n x0 x1 x2 x3 h0
noncomputable abbrev c16 : Code := cf Tryz.f16
noncomputable abbrev aTw : Code := cR c16
noncomputable abbrev aTf : Code := cR aTw
noncomputable abbrev aXg : Code := cR aTf
noncomputable abbrev aYv : Code := cR aXg
noncomputable abbrev aWo : Code := cR aYv
noncomputable abbrev dJx : Code := cR aWo
noncomputable abbrev aLs : Code := cL aWo
noncomputable abbrev bWc : Code := cR aLs
noncomputable abbrev aUl : Code := cL bWc
noncomputable abbrev zI : Code := cR aUl
noncomputable abbrev xS : Code := cR zI
noncomputable abbrev wB : Code := cR xS
noncomputable abbrev xT : Code := cR wB
noncomputable abbrev wZ : Code := cR xT
noncomputable abbrev xD : Code := cR wZ
noncomputable abbrev uZ : Code := cR xD
noncomputable abbrev vP : Code := cR uZ
noncomputable abbrev vW : Code := cR vP
noncomputable abbrev xO : Code := cR vW
noncomputable abbrev cZl : Code := cR xO
noncomputable abbrev bGk : Code := cL xO
noncomputable abbrev cWr : Code := cL vW
noncomputable abbrev bJo : Code := cL vP
noncomputable abbrev dAs : Code := cL uZ
noncomputable abbrev bJx : Code := cL xD
noncomputable abbrev cXb : Code := cL wZ
noncomputable abbrev bLz : Code := cL xT
noncomputable abbrev cWp : Code := cL wB
noncomputable abbrev bHk : Code := cL xS
noncomputable abbrev cYt : Code := cL zI
noncomputable abbrev bHd : Code := cL aUl
noncomputable abbrev bMc : Code := cL aLs
noncomputable abbrev bMx : Code := cL aYv
noncomputable abbrev aNu : Code := cL aXg
noncomputable abbrev bOd : Code := cL aTf
noncomputable abbrev aOb : Code := cL aTw
noncomputable abbrev bGf : Code := cL c16
noncomputable abbrev r16 : K := aP CF Tryz.f16
noncomputable def D16 (r : RT) (n : Nat) (c : Code) (X : Nat → K) (k : K) : K := aM CF r 78 n c X r16 k
theorem dBs : D16 r n dJx x0 r16 = (K1 (bC r n) 12) :=
 (by kernel_rfl)
theorem cCs : D16 r n cZl (xs x0 0 (K1 (bC r n) 12)) (K1 (bC r n) 12) = (K3 (aCu r n) 11 12 69) :=
 (by kernel_rfl)
theorem bXz : D16 r n xO (xs x0 0 (K1 (bC r n) 12)) (K1 (bC r n) 12) = D16 r n bGk (xs x0 0 (K1 (bC r n) 12)) (K3 (aCu r n) 11 12 69) :=
 congrArg (fun k => D16 r n bGk (xs x0 0 (K1 (bC r n) 12)) k) (cCs r n)
theorem cKk : D16 r n xO (xs x0 0 (K1 (bC r n) 12)) (K1 (bC r n) 12) = (K3 (bPu r n) 11 12 42) :=
 (bXz r n).trans
 ((by kernel_rfl))
theorem cBt : D16 r n vW (xs x0 0 (K1 (bC r n) 12)) (K1 (bC r n) 12) = (K4 (aGi r n) 11 12 42 64) :=
 (by kernel_rfl : D16 r n vW (xs x0 0 (K1 (bC r n) 12)) (K1 (bC r n) 12) = (fun (env : aW) (h : Hp) => aT (opr env (cC vW)) (D16 r n cWr (xs x0 0 (K1 (bC r n) 12)) (K1 (bC r n) 12) env h) (D16 r n xO (xs x0 0 (K1 (bC r n) 12)) (K1 (bC r n) 12) env h))).trans (by rw [cKk r n]; kernel_rfl)
theorem bVm : D16 r n vP (xs x0 0 (K1 (bC r n) 12)) (K1 (bC r n) 12) = D16 r n bJo (xs x0 0 (K1 (bC r n) 12)) (K4 (aGi r n) 11 12 42 64) :=
 congrArg (fun k => D16 r n bJo (xs x0 0 (K1 (bC r n) 12)) k) (cBt r n)
theorem cFd : D16 r n vP (xs x0 0 (K1 (bC r n) 12)) (K1 (bC r n) 12) = (K3 (bSz r n) 11 12 42) :=
 (bVm r n).trans
 ((by kernel_rfl))
theorem cKn : D16 r n uZ (xs x0 0 (K1 (bC r n) 12)) (K1 (bC r n) 12) = (K4 (aHr r n) 11 12 42 59) :=
 (by kernel_rfl : D16 r n uZ (xs x0 0 (K1 (bC r n) 12)) (K1 (bC r n) 12) = (fun (env : aW) (h : Hp) => aT (opr env (cC uZ)) (D16 r n dAs (xs x0 0 (K1 (bC r n) 12)) (K1 (bC r n) 12) env h) (D16 r n vP (xs x0 0 (K1 (bC r n) 12)) (K1 (bC r n) 12) env h))).trans (by rw [cFd r n]; kernel_rfl)
theorem bSx : D16 r n xD (xs x0 0 (K1 (bC r n) 12)) (K1 (bC r n) 12) = D16 r n bJx (xs x0 0 (K1 (bC r n) 12)) (K4 (aHr r n) 11 12 42 59) :=
 congrArg (fun k => D16 r n bJx (xs x0 0 (K1 (bC r n) 12)) k) (cKn r n)
theorem cLh : D16 r n xD (xs x0 0 (K1 (bC r n) 12)) (K1 (bC r n) 12) = (K3 (bJq r n) 11 12 42) :=
 (bSx r n).trans
 ((by kernel_rfl))
theorem cPe : D16 r n wZ (xs x0 0 (K1 (bC r n) 12)) (K1 (bC r n) 12) = (K4 (aId r n) 11 12 42 54) :=
 (by kernel_rfl : D16 r n wZ (xs x0 0 (K1 (bC r n) 12)) (K1 (bC r n) 12) = (fun (env : aW) (h : Hp) => aT (opr env (cC wZ)) (D16 r n cXb (xs x0 0 (K1 (bC r n) 12)) (K1 (bC r n) 12) env h) (D16 r n xD (xs x0 0 (K1 (bC r n) 12)) (K1 (bC r n) 12) env h))).trans (by rw [cLh r n]; kernel_rfl)
theorem bZf : D16 r n xT (xs x0 0 (K1 (bC r n) 12)) (K1 (bC r n) 12) = D16 r n bLz (xs x0 0 (K1 (bC r n) 12)) (K4 (aId r n) 11 12 42 54) :=
 congrArg (fun k => D16 r n bLz (xs x0 0 (K1 (bC r n) 12)) k) (cPe r n)
theorem cHc : D16 r n xT (xs x0 0 (K1 (bC r n) 12)) (K1 (bC r n) 12) = (K3 (bXt r n) 11 12 42) :=
 (bZf r n).trans
 ((by kernel_rfl))
theorem cCg : D16 r n wB (xs x0 0 (K1 (bC r n) 12)) (K1 (bC r n) 12) = (K4 (zE r n) 11 12 42 48) :=
 (by kernel_rfl : D16 r n wB (xs x0 0 (K1 (bC r n) 12)) (K1 (bC r n) 12) = (fun (env : aW) (h : Hp) => aT (opr env (cC wB)) (D16 r n cWp (xs x0 0 (K1 (bC r n) 12)) (K1 (bC r n) 12) env h) (D16 r n xT (xs x0 0 (K1 (bC r n) 12)) (K1 (bC r n) 12) env h))).trans (by rw [cHc r n]; kernel_rfl)
theorem cEf : D16 r n xS (xs x0 0 (K1 (bC r n) 12)) (K1 (bC r n) 12) = D16 r n bHk (xs x0 0 (K1 (bC r n) 12)) (K4 (zE r n) 11 12 42 48) :=
 congrArg (fun k => D16 r n bHk (xs x0 0 (K1 (bC r n) 12)) k) (cCg r n)
theorem cTo : D16 r n xS (xs x0 0 (K1 (bC r n) 12)) (K1 (bC r n) 12) = (K3 (cQv r n) 11 12 42) :=
 (cEf r n).trans
 ((by kernel_rfl))
theorem cZf : D16 r n zI (xs x0 0 (K1 (bC r n) 12)) (K1 (bC r n) 12) = (K4 (aXs r n) 11 12 42 43) :=
 (by kernel_rfl : D16 r n zI (xs x0 0 (K1 (bC r n) 12)) (K1 (bC r n) 12) = (fun (env : aW) (h : Hp) => aT (opr env (cC zI)) (D16 r n cYt (xs x0 0 (K1 (bC r n) 12)) (K1 (bC r n) 12) env h) (D16 r n xS (xs x0 0 (K1 (bC r n) 12)) (K1 (bC r n) 12) env h))).trans (by rw [cTo r n]; kernel_rfl)
theorem cCo : D16 r n aUl (xs x0 0 (K1 (bC r n) 12)) (K1 (bC r n) 12) = D16 r n bHd (xs x0 0 (K1 (bC r n) 12)) (K4 (aXs r n) 11 12 42 43) :=
 congrArg (fun k => D16 r n bHd (xs x0 0 (K1 (bC r n) 12)) k) (cZf r n)
theorem cXn : D16 r n bWc x0 (K1 (bC r n) 12) = (K3 (bWy r n) 11 12 42) :=
 (by kernel_rfl : D16 r n bWc x0 (K1 (bC r n) 12) = D16 r n aUl (xs x0 0 (K1 (bC r n) 12)) (K1 (bC r n) 12)).trans
 ((cCo r n).trans
 ((by kernel_rfl)))
theorem cCp : D16 r n aWo x0 r16 = D16 r n aLs x0 (K1 (bC r n) 12) :=
 congrArg (fun k => D16 r n aLs x0 k) (dBs r n)
theorem cKq : D16 r n aLs x0 (K1 (bC r n) 12) = D16 r n bMc x0 (K3 (bWy r n) 11 12 42) :=
 congrArg (fun k => D16 r n bMc x0 k) (cXn r n)
theorem cUe : D16 r n aWo x0 r16 = (K3 (bOn r n) 1 11 12) :=
 (cCp r n).trans
 ((cKq r n).trans
 ((by kernel_rfl)))
theorem cGw : D16 r n aYv x0 r16 = D16 r n bMx x0 (K3 (bOn r n) 1 11 12) :=
 congrArg (fun k => D16 r n bMx x0 k) (cUe r n)
theorem cXa : D16 r n aYv x0 r16 = (K2 (iZ r n) 1 11) :=
 (cGw r n).trans
 ((by kernel_rfl))
theorem bIu : D16 r n aXg x0 r16 = D16 r n aNu x0 (K2 (iZ r n) 1 11) :=
 congrArg (fun k => D16 r n aNu x0 k) (cXa r n)
theorem bMa (q0 : rP) : D16 r n aNu x0 (K2 q0 1 11) = fun (env : aW) (h : Hp) =>
 bnd (bD [.p0, (aF 0), (aF 0), .l0] [(0, 1, (env 0)), (1, 1, (env 1)), (2, 1, (env 2)), (3, 1, (env 3))] h) fun v1 h1 =>
 bnd (bX v1 h1) fun v2 h2 =>
  q0 (env 1) v2 h2 := by kernel_rfl
theorem bCn : (fun (env : aW) (h : Hp) =>
 bnd (bD [.p0, (aF 0), (aF 0), .l0] [(0, 1, (env 0)), (1, 1, (env 1)), (2, 1, (env 2)), (3, 1, (env 3))] h) fun v1 h1 =>
 bnd (bX v1 h1) fun v2 h2 =>
  iZ r n (env 1) v2 h2) = (K4 (wX r n) 0 1 2 3) := by kernel_rfl
theorem cYe : D16 r n aXg x0 r16 = (K4 (wX r n) 0 1 2 3) :=
 (bIu r n).trans
 ((bMa r n (iZ r n)).trans (bCn r n))
theorem bZg : D16 r n aTf x0 r16 = D16 r n bOd x0 (K4 (wX r n) 0 1 2 3) :=
 congrArg (fun k => D16 r n bOd x0 k) (cYe r n)
theorem cZm : D16 r n aTf x0 r16 = (K5 (aAs r n) 0 1 2 3 10) :=
 (bZg r n).trans
 ((by kernel_rfl))
theorem bNm : D16 r n aTw x0 r16 = D16 r n aOb x0 (K5 (aAs r n) 0 1 2 3 10) :=
 congrArg (fun k => D16 r n aOb x0 k) (cZm r n)
theorem bLx (q0 : cF) : D16 r n aOb x0 (K5 q0 0 1 2 3 10) = fun (env : aW) (h : Hp) =>
 bnd (r 23 [(env 0)] h) fun v1 h1 =>
 bnd (bR [.p0] h1) fun v2 h2 =>
 bnd (aH 1 v2 v1 h2) fun _ h3 =>
  q0 (env 0) (env 1) (env 2) (env 3) v2 h3 := by kernel_rfl
theorem bCa : (fun (env : aW) (h : Hp) =>
 bnd (r 23 [(env 0)] h) fun v1 h1 =>
 bnd (bR [.p0] h1) fun v2 h2 =>
 bnd (aH 1 v2 v1 h2) fun _ h3 =>
  aAs r n (env 0) (env 1) (env 2) (env 3) v2 h3) = (K4 (aKc r n) 0 1 2 3) := by kernel_rfl
theorem cSq : D16 r n aTw x0 r16 = (K4 (aKc r n) 0 1 2 3) :=
 (bNm r n).trans
 ((bLx r n (aAs r n)).trans (bCa r n))
theorem dDb : D16 r n c16 x0 r16 = D16 r n bGf x0 (K4 (aKc r n) 0 1 2 3) :=
 congrArg (fun k => D16 r n bGf x0 k) (cSq r n)
theorem dTh : D16 r n c16 x0 r16 = (K4 (s16 r n) 0 1 2 3) :=
 (dDb r n).trans
 ((by kernel_rfl))
theorem cSf : aE CF r n 16 args h = s16 r n (aS args 0) (aS args 1) (aS args 2) (aS args 3) h :=
 (by kernel_rfl : aE CF r n 16 args h = D16 r n c16 x0 r16 (aG args) h).trans ((congrFun (congrFun (dTh r n) (aG args)) h).trans (by kernel_rfl))
noncomputable def s17 (r : RT) (n : Nat) (x0 : DV) (h0 : Hp) : aI :=
 aT x0 (
 some ((aF 2), h0)) (
 some ((aF 4), h0))
noncomputable abbrev c17 : Code := cf Tryz.f17
noncomputable abbrev r17 : K := aP CF Tryz.f17
noncomputable def D17 (r : RT) (n : Nat) (c : Code) (X : Nat → K) (k : K) : K := aM CF r 4 n c X r17 k
theorem dSn : D17 r n c17 x0 r17 = (K1 (s17 r n) 0) :=
 (by kernel_rfl)
theorem cRl : aE CF r n 17 args h = s17 r n (aS args 0) h :=
 (by kernel_rfl : aE CF r n 17 args h = D17 r n c17 x0 r17 (aG args) h).trans ((congrFun (congrFun (dSn r n) (aG args)) h).trans (by kernel_rfl))
noncomputable def s18 (r : RT) (n : Nat) (x0 x1 : DV) (h0 : Hp) : aI :=
 bnd (r 62 [x0] h0) fun v1 h1 =>
 bnd (r 62 [x1] h1) fun v2 h2 =>
 bnd (dR .not v1 h2) fun v3 h3 =>
 bnd (gD v3 false (some (v2, h3)) h3) fun v4 h4 =>
 bnd (gD v3 false (dR .not v4 h4) h4) fun v5 h5 =>
 bnd (aQ v3 (.b true) v5 h5) fun v6 h6 =>
 bnd (gD v6 false (some (x0, h6)) h6) fun v7 h7 =>
 bnd (gD v6 false (some (x1, h7)) h7) fun v8 h8 =>
 bnd (gD v6 false (aD .add v7 v8 h8) h8) fun v9 h9 =>
 bnd (gD v6 false (r 62 [v9] h9) h9) fun v10 h10 =>
 bnd (gD v6 false (dR .not v10 h10) h10) fun v11 h11 =>
 bnd (aQ v6 (.b true) v11 h11) fun v12 h12 =>
 aT v12 (
 some (.t [(.i .i64 (Int.ofNat 0)), (.i .i64 (Int.ofNat 2))], h12)) (
 bnd (aD .add x0 x1 h12) fun v13 h13 =>
 some (.t [v13, (.i .i64 (Int.ofNat 0))], h13))
noncomputable abbrev c18 : Code := cf Tryz.f18
noncomputable abbrev r18 : K := aP CF Tryz.f18
noncomputable def D18 (r : RT) (n : Nat) (c : Code) (X : Nat → K) (k : K) : K := aM CF r 28 n c X r18 k
theorem dOv : D18 r n c18 x0 r18 = (K2 (s18 r n) 0 1) :=
 (by kernel_rfl)
theorem cQl : aE CF r n 18 args h = s18 r n (aS args 0) (aS args 1) h :=
 (by kernel_rfl : aE CF r n 18 args h = D18 r n c18 x0 r18 (aG args) h).trans ((congrFun (congrFun (dOv r n) (aG args)) h).trans (by kernel_rfl))
noncomputable def s19 (r : RT) (n : Nat) (x0 x1 : DV) (h0 : Hp) : aI :=
 bnd (r 62 [x0] h0) fun v1 h1 =>
 bnd (r 62 [x1] h1) fun v2 h2 =>
 bnd (dR .not v1 h2) fun v3 h3 =>
 bnd (gD v3 false (some (v2, h3)) h3) fun v4 h4 =>
 bnd (gD v3 false (dR .not v4 h4) h4) fun v5 h5 =>
 bnd (aQ v3 (.b true) v5 h5) fun v6 h6 =>
 bnd (gD v6 false (some (x0, h6)) h6) fun v7 h7 =>
 bnd (gD v6 false (some (x1, h7)) h7) fun v8 h8 =>
 bnd (gD v6 false (aD .sub v7 v8 h8) h8) fun v9 h9 =>
 bnd (gD v6 false (r 62 [v9] h9) h9) fun v10 h10 =>
 bnd (gD v6 false (dR .not v10 h10) h10) fun v11 h11 =>
 bnd (aQ v6 (.b true) v11 h11) fun v12 h12 =>
 aT v12 (
 some (.t [(.i .i64 (Int.ofNat 0)), (.i .i64 (Int.ofNat 2))], h12)) (
 bnd (aD .sub x0 x1 h12) fun v13 h13 =>
 some (.t [v13, (.i .i64 (Int.ofNat 0))], h13))
noncomputable abbrev c19 : Code := cf Tryz.f19
noncomputable abbrev r19 : K := aP CF Tryz.f19
noncomputable def D19 (r : RT) (n : Nat) (c : Code) (X : Nat → K) (k : K) : K := aM CF r 28 n c X r19 k
theorem dSe : D19 r n c19 x0 r19 = (K2 (s19 r n) 0 1) :=
 (by kernel_rfl)
theorem cRi : aE CF r n 19 args h = s19 r n (aS args 0) (aS args 1) h :=
 (by kernel_rfl : aE CF r n 19 args h = D19 r n c19 x0 r19 (aG args) h).trans ((congrFun (congrFun (dSe r n) (aG args)) h).trans (by kernel_rfl))
noncomputable def xJ (r : RT) (n : Nat) (x0 x1 x8 x9 : DV) (h0 : Hp) : aI :=
 bnd (aD .quo (.i .i64 (Int.ofNat 1152921504606846976)) x9 h0) fun v1 h1 =>
 bnd (aD .gtr x8 v1 h1) fun v2 h2 =>
 aT v2 (
 some (.t [(.i .i64 (Int.ofNat 0)), (.i .i64 (Int.ofNat 2))], h2)) (
 bnd (aD .mul x0 x1 h2) fun v3 h3 =>
 some (.t [v3, (.i .i64 (Int.ofNat 0))], h3))
noncomputable def wK (r : RT) (n : Nat) (x0 x1 x8 x9 : DV) (h0 : Hp) : aI :=
 bnd (aD .lss x9 (.i .i64 (Int.ofNat 0)) h0) fun v1 h1 =>
 aT v1 (
 bnd (dR .neg x9 h1) fun v2 h2 =>
  xJ r n x0 x1 x8 v2 h2) (
  xJ r n x0 x1 x8 x9 h1)
noncomputable def aMl (r : RT) (n : Nat) (x0 x1 x8 x9 : DV) (h0 : Hp) : aI :=
 bnd (aD .lss x8 (.i .i64 (Int.ofNat 0)) h0) fun v1 h1 =>
 aT v1 (
 bnd (dR .neg x8 h1) fun v2 h2 =>
  wK r n x0 x1 v2 x9 h2) (
  wK r n x0 x1 x8 x9 h1)
noncomputable def aZp (r : RT) (n : Nat) (x0 x1 x8 : DV) (h0 : Hp) : aI :=
 aMl r n x0 x1 x8 x1 h0
noncomputable def bAu (r : RT) (n : Nat) (x0 x1 : DV) (h0 : Hp) : aI :=
 aZp r n x0 x1 x0 h0
noncomputable def aTx (r : RT) (n : Nat) (x0 x1 : DV) (h0 : Hp) : aI :=
 bnd (aD .eql x0 (.i .i64 (Int.ofNat 0)) h0) fun v1 h1 =>
 bnd (gD v1 false (some (x1, h1)) h1) fun v2 h2 =>
 bnd (gD v1 false (aD .eql v2 (.i .i64 (Int.ofNat 0)) h2) h2) fun v3 h3 =>
 bnd (aQ v1 (.b true) v3 h3) fun v4 h4 =>
 aT v4 (
 some (.t [(.i .i64 (Int.ofNat 0)), (.i .i64 (Int.ofNat 0))], h4)) (
  bAu r n x0 x1 h4)
noncomputable def aUe (r : RT) (n : Nat) (x0 x1 x6 x7 : DV) (h0 : Hp) : aI :=
 bnd (dR .not x6 h0) fun v1 h1 =>
 bnd (gD v1 false (some (x7, h1)) h1) fun v2 h2 =>
 bnd (gD v1 false (dR .not v2 h2) h2) fun v3 h3 =>
 bnd (aQ v1 (.b true) v3 h3) fun v4 h4 =>
 aT v4 (
 some (.t [(.i .i64 (Int.ofNat 0)), (.i .i64 (Int.ofNat 2))], h4)) (
  aTx r n x0 x1 h4)
noncomputable def bBg (r : RT) (n : Nat) (x0 x1 x6 : DV) (h0 : Hp) : aI :=
 bnd (r 62 [x1] h0) fun v1 h1 =>
  aUe r n x0 x1 x6 v1 h1
noncomputable def aUn (r : RT) (n : Nat) (x0 x1 : DV) (h0 : Hp) : aI :=
 bnd (r 62 [x0] h0) fun v1 h1 =>
  bBg r n x0 x1 v1 h1
noncomputable def s20 (r : RT) (n : Nat) (x0 x1 : DV) (h0 : Hp) : aI :=
 aUn r n x0 x1 h0
noncomputable abbrev c20 : Code := cf Tryz.f20
noncomputable abbrev aTo : Code := cR c20
noncomputable abbrev bAs : Code := cR aTo
noncomputable abbrev aVy : Code := cR bAs
noncomputable abbrev aYw : Code := cR aVy
noncomputable abbrev aUa : Code := cR aYw
noncomputable abbrev aXu : Code := cR aUa
noncomputable abbrev aVx : Code := cR aXu
noncomputable abbrev aWw : Code := cR aVx
noncomputable abbrev dHk : Code := cR aWw
noncomputable abbrev bTv : Code := cL aWw
noncomputable abbrev bZs : Code := cL aVx
noncomputable abbrev bKp : Code := cL aXu
noncomputable abbrev bYv : Code := cL aUa
noncomputable abbrev bUq : Code := cL aYw
noncomputable abbrev bKw : Code := cL aVy
noncomputable abbrev bQx : Code := cL bAs
noncomputable abbrev bWf : Code := cL aTo
noncomputable abbrev bSf : Code := cL c20
noncomputable abbrev r20 : K := aP CF Tryz.f20
noncomputable def D20 (r : RT) (n : Nat) (c : Code) (X : Nat → K) (k : K) : K := aM CF r 43 n c X r20 k
theorem cUl : D20 r n dHk x0 r20 = (K4 (xJ r n) 0 1 8 9) :=
 (by kernel_rfl)
theorem cHp : D20 r n aWw x0 r20 = D20 r n bTv x0 (K4 (xJ r n) 0 1 8 9) :=
 congrArg (fun k => D20 r n bTv x0 k) (cUl r n)
theorem dEu : D20 r n aWw x0 r20 = (K4 (wK r n) 0 1 8 9) :=
 (cHp r n).trans
 ((by kernel_rfl))
theorem cGe : D20 r n aVx x0 r20 = D20 r n bZs x0 (K4 (wK r n) 0 1 8 9) :=
 congrArg (fun k => D20 r n bZs x0 k) (dEu r n)
theorem dBe : D20 r n aVx x0 r20 = (K4 (aMl r n) 0 1 8 9) :=
 (cGe r n).trans
 ((by kernel_rfl))
theorem cHb : D20 r n aXu x0 r20 = D20 r n bKp x0 (K4 (aMl r n) 0 1 8 9) :=
 congrArg (fun k => D20 r n bKp x0 k) (dBe r n)
theorem dEo : D20 r n aXu x0 r20 = (K3 (aZp r n) 0 1 8) :=
 (cHb r n).trans
 ((by kernel_rfl))
theorem cMv : D20 r n aUa x0 r20 = D20 r n bYv x0 (K3 (aZp r n) 0 1 8) :=
 congrArg (fun k => D20 r n bYv x0 k) (dEo r n)
theorem dEt : D20 r n aUa x0 r20 = (K2 (bAu r n) 0 1) :=
 (cMv r n).trans
 ((by kernel_rfl))
theorem cOx : D20 r n aYw x0 r20 = D20 r n bUq x0 (K2 (bAu r n) 0 1) :=
 congrArg (fun k => D20 r n bUq x0 k) (dEt r n)
theorem cZj : D20 r n aYw x0 r20 = (K2 (aTx r n) 0 1) :=
 (cOx r n).trans
 ((by kernel_rfl))
theorem cAp : D20 r n aVy x0 r20 = D20 r n bKw x0 (K2 (aTx r n) 0 1) :=
 congrArg (fun k => D20 r n bKw x0 k) (cZj r n)
theorem cWi : D20 r n aVy x0 r20 = (K4 (aUe r n) 0 1 6 7) :=
 (cAp r n).trans
 ((by kernel_rfl))
theorem cHe : D20 r n bAs x0 r20 = D20 r n bQx x0 (K4 (aUe r n) 0 1 6 7) :=
 congrArg (fun k => D20 r n bQx x0 k) (cWi r n)
theorem cXg : D20 r n bAs x0 r20 = (K3 (bBg r n) 0 1 6) :=
 (cHe r n).trans
 ((by kernel_rfl))
theorem cDa : D20 r n aTo x0 r20 = D20 r n bWf x0 (K3 (bBg r n) 0 1 6) :=
 congrArg (fun k => D20 r n bWf x0 k) (cXg r n)
theorem dAj : D20 r n aTo x0 r20 = (K2 (aUn r n) 0 1) :=
 (cDa r n).trans
 ((by kernel_rfl))
theorem dFm : D20 r n c20 x0 r20 = D20 r n bSf x0 (K2 (aUn r n) 0 1) :=
 congrArg (fun k => D20 r n bSf x0 k) (dAj r n)
theorem dRt : D20 r n c20 x0 r20 = (K2 (s20 r n) 0 1) :=
 (dFm r n).trans
 ((by kernel_rfl))
theorem cQk : aE CF r n 20 args h = s20 r n (aS args 0) (aS args 1) h :=
 (by kernel_rfl : aE CF r n 20 args h = D20 r n c20 x0 r20 (aG args) h).trans ((congrFun (congrFun (dRt r n) (aG args)) h).trans (by kernel_rfl))
noncomputable def aAn (r : RT) (n : Nat) (x0 x1 : DV) (h0 : Hp) : aI :=
 bnd (aD .geq x0 (.i .i64 (Int.ofNat 0)) h0) fun v1 h1 =>
 aT v1 (
 bnd (aD .quo x0 x1 h1) fun v2 h2 =>
 some (.t [v2, (.i .i64 (Int.ofNat 0))], h2)) (
 bnd (dR .neg x0 h1) fun v3 h3 =>
 bnd (aD .add v3 x1 h3) fun v4 h4 =>
 bnd (aD .sub v4 (.i .i64 (Int.ofNat 1)) h4) fun v5 h5 =>
 bnd (aD .quo v5 x1 h5) fun v6 h6 =>
 bnd (dR .neg v6 h6) fun v7 h7 =>
 some (.t [v7, (.i .i64 (Int.ofNat 0))], h7))
noncomputable def aWh (r : RT) (n : Nat) (x0 x1 : DV) (h0 : Hp) : aI :=
 bnd (aD .lss x1 (.i .i64 (Int.ofNat 0)) h0) fun v1 h1 =>
 aT v1 (
 bnd (dR .neg x0 h1) fun v2 h2 =>
 bnd (dR .neg x1 h2) fun v3 h3 =>
  aAn r n v2 v3 h3) (
  aAn r n x0 x1 h1)
noncomputable def aYk (r : RT) (n : Nat) (x0 x1 : DV) (h0 : Hp) : aI :=
 bnd (aD .eql x1 (.i .i64 (Int.ofNat 0)) h0) fun v1 h1 =>
 aT v1 (
 some (.t [(.i .i64 (Int.ofNat 0)), (.i .i64 (Int.ofNat 3))], h1)) (
  aWh r n x0 x1 h1)
noncomputable def aYe (r : RT) (n : Nat) (x0 x1 x6 x7 : DV) (h0 : Hp) : aI :=
 bnd (dR .not x6 h0) fun v1 h1 =>
 bnd (gD v1 false (some (x7, h1)) h1) fun v2 h2 =>
 bnd (gD v1 false (dR .not v2 h2) h2) fun v3 h3 =>
 bnd (aQ v1 (.b true) v3 h3) fun v4 h4 =>
 aT v4 (
 some (.t [(.i .i64 (Int.ofNat 0)), (.i .i64 (Int.ofNat 2))], h4)) (
  aYk r n x0 x1 h4)
noncomputable def aXv (r : RT) (n : Nat) (x0 x1 x6 : DV) (h0 : Hp) : aI :=
 bnd (r 62 [x1] h0) fun v1 h1 =>
  aYe r n x0 x1 x6 v1 h1
noncomputable def aYc (r : RT) (n : Nat) (x0 x1 : DV) (h0 : Hp) : aI :=
 bnd (r 62 [x0] h0) fun v1 h1 =>
  aXv r n x0 x1 v1 h1
noncomputable def s21 (r : RT) (n : Nat) (x0 x1 : DV) (h0 : Hp) : aI :=
 aYc r n x0 x1 h0
noncomputable abbrev c21 : Code := cf Tryz.f21
noncomputable abbrev bBx : Code := cR c21
noncomputable abbrev bAl : Code := cR bBx
noncomputable abbrev bBa : Code := cR bAl
noncomputable abbrev aUc : Code := cR bBa
noncomputable abbrev aXf : Code := cR aUc
noncomputable abbrev dKe : Code := cR aXf
noncomputable abbrev cRh : Code := cL aXf
noncomputable abbrev cQa : Code := cL aUc
noncomputable abbrev cRq : Code := cL bBa
noncomputable abbrev bUy : Code := cL bAl
noncomputable abbrev bKl : Code := cL bBx
noncomputable abbrev bHq : Code := cL c21
noncomputable abbrev r21 : K := aP CF Tryz.f21
noncomputable def D21 (r : RT) (n : Nat) (c : Code) (X : Nat → K) (k : K) : K := aM CF r 39 n c X r21 k
theorem dCp : D21 r n dKe x0 r21 = (K2 (aAn r n) 0 1) :=
 (by kernel_rfl)
theorem cHs : D21 r n aXf x0 r21 = D21 r n cRh x0 (K2 (aAn r n) 0 1) :=
 congrArg (fun k => D21 r n cRh x0 k) (dCp r n)
theorem cZc : D21 r n aXf x0 r21 = (K2 (aWh r n) 0 1) :=
 (cHs r n).trans
 ((by kernel_rfl))
theorem cNc : D21 r n aUc x0 r21 = D21 r n cQa x0 (K2 (aWh r n) 0 1) :=
 congrArg (fun k => D21 r n cQa x0 k) (cZc r n)
theorem cXq : D21 r n aUc x0 r21 = (K2 (aYk r n) 0 1) :=
 (cNc r n).trans
 ((by kernel_rfl))
theorem cKu : D21 r n bBa x0 r21 = D21 r n cRq x0 (K2 (aYk r n) 0 1) :=
 congrArg (fun k => D21 r n cRq x0 k) (cXq r n)
theorem cTj : D21 r n bBa x0 r21 = (K4 (aYe r n) 0 1 6 7) :=
 (cKu r n).trans
 ((by kernel_rfl))
theorem cJp : D21 r n bAl x0 r21 = D21 r n bUy x0 (K4 (aYe r n) 0 1 6 7) :=
 congrArg (fun k => D21 r n bUy x0 k) (cTj r n)
theorem dEk : D21 r n bAl x0 r21 = (K3 (aXv r n) 0 1 6) :=
 (cJp r n).trans
 ((by kernel_rfl))
theorem cPk : D21 r n bBx x0 r21 = D21 r n bKl x0 (K3 (aXv r n) 0 1 6) :=
 congrArg (fun k => D21 r n bKl x0 k) (dEk r n)
theorem dBn : D21 r n bBx x0 r21 = (K2 (aYc r n) 0 1) :=
 (cPk r n).trans
 ((by kernel_rfl))
theorem dGz : D21 r n c21 x0 r21 = D21 r n bHq x0 (K2 (aYc r n) 0 1) :=
 congrArg (fun k => D21 r n bHq x0 k) (dBn r n)
theorem dQj : D21 r n c21 x0 r21 = (K2 (s21 r n) 0 1) :=
 (dGz r n).trans
 ((by kernel_rfl))
theorem cQo : aE CF r n 21 args h = s21 r n (aS args 0) (aS args 1) h :=
 (by kernel_rfl : aE CF r n 21 args h = D21 r n c21 x0 r21 (aG args) h).trans ((congrFun (congrFun (dQj r n) (aG args)) h).trans (by kernel_rfl))
noncomputable def s22 (r : RT) (n : Nat) (x0 x1 : DV) (h0 : Hp) : aI :=
 bnd (r 21 [x0, x1] h0) fun v1 h1 =>
 bnd (aB 0 v1 h1) fun v2 h2 =>
 bnd (aB 1 v1 h2) fun v3 h3 =>
 bnd (aD .neq v3 (.i .i64 (Int.ofNat 0)) h3) fun v4 h4 =>
 aT v4 (
 some (.t [(.i .i64 (Int.ofNat 0)), v3], h4)) (
 bnd (aD .mul x1 v2 h4) fun v5 h5 =>
 bnd (aD .sub x0 v5 h5) fun v6 h6 =>
 some (.t [v6, (.i .i64 (Int.ofNat 0))], h6))
noncomputable abbrev c22 : Code := cf Tryz.f22
noncomputable abbrev r22 : K := aP CF Tryz.f22
noncomputable def D22 (r : RT) (n : Nat) (c : Code) (X : Nat → K) (k : K) : K := aM CF r 22 n c X r22 k
theorem dOo : D22 r n c22 x0 r22 = (K2 (s22 r n) 0 1) :=
 (by kernel_rfl)
theorem cSg : aE CF r n 22 args h = s22 r n (aS args 0) (aS args 1) h :=
 (by kernel_rfl : aE CF r n 22 args h = D22 r n c22 x0 r22 (aG args) h).trans ((congrFun (congrFun (dOo r n) (aG args)) h).trans (by kernel_rfl))
noncomputable def s23 (r : RT) (n : Nat) (x0 : DV) (h0 : Hp) : aI :=
 bnd (aO x0 h0) fun v1 h1 =>
 bnd (aC 0 v1 h1) fun v2 h2 =>
 bnd (aA v2 h2) fun v3 h3 =>
 some (v3, h3)
noncomputable abbrev c23 : Code := cf Tryz.f23
noncomputable abbrev r23 : K := aP CF Tryz.f23
noncomputable def D23 (r : RT) (n : Nat) (c : Code) (X : Nat → K) (k : K) : K := aM CF r 7 n c X r23 k
theorem dOz : D23 r n c23 x0 r23 = (K1 (s23 r n) 0) :=
 (by kernel_rfl)
theorem cQu : aE CF r n 23 args h = s23 r n (aS args 0) h :=
 (by kernel_rfl : aE CF r n 23 args h = D23 r n c23 x0 r23 (aG args) h).trans ((congrFun (congrFun (dOz r n) (aG args)) h).trans (by kernel_rfl))
noncomputable def s25 (r : RT) (n : Nat) (x0 x1 : DV) (h0 : Hp) : aI :=
 bnd (aO x0 h0) fun v1 h1 =>
 bnd (aC 0 v1 h1) fun v2 h2 =>
 bnd (aA v2 h2) fun v3 h3 =>
 bnd (isF [v3, x1] h3) fun v4 h4 =>
 aT v4 (
 bnd (aO x0 h4) fun v5 h5 =>
 bnd (aC 0 v5 h5) fun v6 h6 =>
 bnd (aA v6 h6) fun v7 h7 =>
 bnd (kB [v7, x1] h7) fun v8 h8 =>
 some (v8, h8)) (
 bnd (eZ [x1] h4) fun v9 h9 =>
 aT v9 (
 bnd (r 30 [x0, (aF 7)] h9) fun v10 h10 =>
 some (v10, h10)) (
 bnd (aD .eql x1 (aF 0) h9) fun v11 h11 =>
 aT v11 (
 bnd (r 30 [x0, (aF 2)] h11) fun v12 h12 =>
 some (v12, h12)) (
 bnd (aD .eql x1 (aF 2) h11) fun v13 h13 =>
 aT v13 (
 bnd (r 30 [x0, (aF 4)] h13) fun v14 h14 =>
 some (v14, h14)) (
 bnd (aD .eql x1 (aF 4) h13) fun v15 h15 =>
 aT v15 (
 bnd (r 30 [x0, (aF 5)] h15) fun v16 h16 =>
 some (v16, h16)) (
 some ((aF 0), h15))))))
noncomputable abbrev c25 : Code := cf Tryz.f25
noncomputable abbrev r25 : K := aP CF Tryz.f25
noncomputable def D25 (r : RT) (n : Nat) (c : Code) (X : Nat → K) (k : K) : K := aM CF r 38 n c X r25 k
theorem dPi : D25 r n c25 x0 r25 = (K2 (s25 r n) 0 1) :=
 (by kernel_rfl)
theorem dMk : aE CF r n 25 args h = s25 r n (aS args 0) (aS args 1) h :=
 (by kernel_rfl : aE CF r n 25 args h = D25 r n c25 x0 r25 (aG args) h).trans ((congrFun (congrFun (dPi r n) (aG args)) h).trans (by kernel_rfl))
noncomputable def fV (r : RT) (n : Nat) (x5 : DV) (h0 : Hp) : aI :=
 some (x5, h0)
noncomputable def aOp (r : RT) (n : Nat) (kk5 : dJ) (x0 x1 x5 x6 : DV) (h0 : Hp) : aI :=
 bnd (r 23 [x0] h0) fun v1 h1 =>
 bnd (fZ [v1, x1] h1) fun v2 h2 =>
 bnd (aD .lss x6 v2 h2) fun v3 h3 =>
 aT v3 (
 bnd (r 23 [x0] h3) fun v4 h4 =>
 bnd (pF [v4, x1, x6] h4) fun v5 h5 =>
 bnd (aB 0 v5 h5) fun v6 h6 =>
 bnd (aB 1 v5 h6) fun v7 h7 =>
 bnd (aL [(aF 0)] 1 [(0, 1, v6)] h7) fun v8 h8 =>
 bnd (bB 1 8 x5 v8 h8) fun v9 h9 =>
 bnd (aD .add x6 (aF 1) h9) fun v10 h10 =>
      kk5 x0 x1 v9 v10 h10) (
      fV r n x5 h3)
noncomputable def aEa (r : RT) (n : Nat) (m : Nat) : dJ :=
 Nat.rec (motive := fun _ => dJ) (fun _ _ _ _ _ => none) (fun _ ih => aOp r n ih) m
noncomputable def cQw (r : RT) (n : Nat) : dJ := aEa r n n
noncomputable def bQk (r : RT) (n : Nat) (x0 x1 x5 x6 : DV) (h0 : Hp) : aI :=
 cQw r n x0 x1 x5 x6 h0
noncomputable def bOy (r : RT) (n : Nat) (x0 x1 x5 : DV) (h0 : Hp) : aI :=
 bQk r n x0 x1 x5 (aF 0) h0
noncomputable def bOg (r : RT) (n : Nat) (x0 x1 : DV) (h0 : Hp) : aI :=
 bOy r n x0 x1 .l0 h0
noncomputable def s29 (r : RT) (n : Nat) (x0 x1 : DV) (h0 : Hp) : aI :=
 bOg r n x0 x1 h0
noncomputable abbrev c29 : Code := cf Tryz.f29
noncomputable abbrev aYn : Code := cR c29
noncomputable abbrev aVj : Code := cR aYn
noncomputable abbrev dHn : Code := cR aVj
noncomputable abbrev aMp : Code := cL aVj
noncomputable abbrev bYs : Code := cR aMp
noncomputable abbrev aZk : Code := cL bYs
noncomputable abbrev sE : Code := cL aZk
noncomputable abbrev cRb : Code := cL aMp
noncomputable abbrev cSa : Code := cL aYn
noncomputable abbrev bIf : Code := cL c29
noncomputable abbrev r29 : K := aP CF Tryz.f29
noncomputable def D29 (r : RT) (n : Nat) (c : Code) (X : Nat → K) (k : K) : K := aM CF r 30 n c X r29 k
theorem dCf : D29 r n dHn x0 r29 = (K1 (fV r n) 5) :=
 (by kernel_rfl)
theorem cJo (kk5 : dJ) (q0 : TT1) : D29 r n sE (xs x0 0 (K1 q0 5)) (K4 kk5 0 1 5 6) = fun (env : aW) (h : Hp) =>
 bnd (r 23 [(env 0)] h) fun v1 h1 =>
 bnd (fZ [v1, (env 1)] h1) fun v2 h2 =>
 bnd (aD .lss (env 6) v2 h2) fun v3 h3 =>
 aT v3 (
 bnd (r 23 [(env 0)] h3) fun v4 h4 =>
 bnd (pF [v4, (env 1), (env 6)] h4) fun v5 h5 =>
 bnd (aB 0 v5 h5) fun v6 h6 =>
 bnd (aB 1 v5 h6) fun v7 h7 =>
 bnd (aL [(aF 0)] 1 [(0, 1, v6)] h7) fun v8 h8 =>
 bnd (bB 1 8 (env 5) v8 h8) fun v9 h9 =>
 bnd (aD .add (env 6) (aF 1) h9) fun v10 h10 =>
      kk5 (env 0) (env 1) v9 v10 h10) (
      q0 (env 5) h3) := by kernel_rfl
theorem bSi (kk5 : dJ) : (fun (env : aW) (h : Hp) =>
 bnd (r 23 [(env 0)] h) fun v1 h1 =>
 bnd (fZ [v1, (env 1)] h1) fun v2 h2 =>
 bnd (aD .lss (env 6) v2 h2) fun v3 h3 =>
 aT v3 (
 bnd (r 23 [(env 0)] h3) fun v4 h4 =>
 bnd (pF [v4, (env 1), (env 6)] h4) fun v5 h5 =>
 bnd (aB 0 v5 h5) fun v6 h6 =>
 bnd (aB 1 v5 h6) fun v7 h7 =>
 bnd (aL [(aF 0)] 1 [(0, 1, v6)] h7) fun v8 h8 =>
 bnd (bB 1 8 (env 5) v8 h8) fun v9 h9 =>
 bnd (aD .add (env 6) (aF 1) h9) fun v10 h10 =>
      kk5 (env 0) (env 1) v9 v10 h10) (
      fV r n (env 5) h3)) = (K4 (aOp r n kk5) 0 1 5 6) := by kernel_rfl
theorem cIo (kk5 : dJ) : D29 r n sE (xs x0 0 (K1 (fV r n) 5)) (K4 kk5 0 1 5 6) = (K4 (aOp r n kk5) 0 1 5 6) :=
 (cJo r n kk5 (fV r n)).trans (bSi r n kk5)
theorem cIc (m : Nat) : aR (fun kk => D29 r n sE (xs x0 0 (K1 (fV r n) 5)) kk) m = (K4 (aEa r n m) 0 1 5 6) := by
 induction m with
 | zero => exact (by kernel_rfl : aR (fun kk => D29 r n sE (xs x0 0 (K1 (fV r n) 5)) kk) 0 = (K4 (aEa r n 0) 0 1 5 6))
 | succ m ih =>
  refine (by kernel_rfl : aR (fun kk => D29 r n sE (xs x0 0 (K1 (fV r n) 5)) kk) (m + 1) = D29 r n sE (xs x0 0 (K1 (fV r n) 5)) (aR (fun kk => D29 r n sE (xs x0 0 (K1 (fV r n) 5)) kk) m)).trans ?_
  rw [ih]
  exact (cIo r n (aEa r n m)).trans (by kernel_rfl)
theorem dAq : D29 r n aZk (xs x0 0 (K1 (fV r n) 5)) (K1 (fV r n) 5) = (K4 (cQw r n) 0 1 5 6) :=
 (by kernel_rfl : D29 r n aZk (xs x0 0 (K1 (fV r n) 5)) (K1 (fV r n) 5) = aR (fun kk => D29 r n sE (xs x0 0 (K1 (fV r n) 5)) kk) n).trans ((cIc r n n).trans (by kernel_rfl))
theorem dCb : D29 r n bYs x0 (K1 (fV r n) 5) = (K4 (bQk r n) 0 1 5 6) :=
 (by kernel_rfl : D29 r n bYs x0 (K1 (fV r n) 5) = D29 r n aZk (xs x0 0 (K1 (fV r n) 5)) (K1 (fV r n) 5)).trans
 ((dAq r n).trans (by kernel_rfl))
theorem cNg : D29 r n aVj x0 r29 = D29 r n aMp x0 (K1 (fV r n) 5) :=
 congrArg (fun k => D29 r n aMp x0 k) (dCf r n)
theorem cEq : D29 r n aMp x0 (K1 (fV r n) 5) = D29 r n cRb x0 (K4 (bQk r n) 0 1 5 6) :=
 congrArg (fun k => D29 r n cRb x0 k) (dCb r n)
theorem dDc : D29 r n aVj x0 r29 = (K3 (bOy r n) 0 1 5) :=
 (cNg r n).trans
 ((cEq r n).trans
 ((by kernel_rfl)))
theorem cDl : D29 r n aYn x0 r29 = D29 r n cSa x0 (K3 (bOy r n) 0 1 5) :=
 congrArg (fun k => D29 r n cSa x0 k) (dDc r n)
theorem dEl : D29 r n aYn x0 r29 = (K2 (bOg r n) 0 1) :=
 (cDl r n).trans
 ((by kernel_rfl))
theorem dMf : D29 r n c29 x0 r29 = D29 r n bIf x0 (K2 (bOg r n) 0 1) :=
 congrArg (fun k => D29 r n bIf x0 k) (dEl r n)
theorem dRi : D29 r n c29 x0 r29 = (K2 (s29 r n) 0 1) :=
 (dMf r n).trans
 ((by kernel_rfl))
theorem dLq : aE CF r n 29 args h = s29 r n (aS args 0) (aS args 1) h :=
 (by kernel_rfl : aE CF r n 29 args h = D29 r n c29 x0 r29 (aG args) h).trans ((congrFun (congrFun (dRi r n) (aG args)) h).trans (by kernel_rfl))
noncomputable def s30 (r : RT) (n : Nat) (x0 x1 : DV) (h0 : Hp) : aI :=
 bnd (aD .lss x1 (aF 0) h0) fun v1 h1 =>
 bnd (gD v1 false (some (x1, h1)) h1) fun v2 h2 =>
 bnd (gD v1 false (aD .geq v2 (aF 16) h2) h2) fun v3 h3 =>
 bnd (aQ v1 (.b true) v3 h3) fun v4 h4 =>
 aT v4 (
 some ((aF 0), h4)) (
 bnd (aO x0 h4) fun v5 h5 =>
 bnd (aC 1 v5 h5) fun v6 h6 =>
 bnd (aA v6 h6) fun v7 h7 =>
 bnd (aD .add (aF 2) x1 h7) fun v8 h8 =>
 bnd (aJ 1 v7 v8 h8) fun v9 h9 =>
 bnd (aA v9 h9) fun v10 h10 =>
 some (v10, h10))
noncomputable abbrev c30 : Code := cf Tryz.f30
noncomputable abbrev r30 : K := aP CF Tryz.f30
noncomputable def D30 (r : RT) (n : Nat) (c : Code) (X : Nat → K) (k : K) : K := aM CF r 19 n c X r30 k
theorem dTi : D30 r n c30 x0 r30 = (K2 (s30 r n) 0 1) :=
 (by kernel_rfl)
theorem bIk : aE CF r n 30 args h = s30 r n (aS args 0) (aS args 1) h :=
 (by kernel_rfl : aE CF r n 30 args h = D30 r n c30 x0 r30 (aG args) h).trans ((congrFun (congrFun (dTi r n) (aG args)) h).trans (by kernel_rfl))
noncomputable def s32 (r : RT) (n : Nat) (x0 x1 : DV) (h0 : Hp) : aI :=
 bnd (r 67 [x0, x1] h0) fun v1 h1 =>
 bnd (dR .not v1 h1) fun v2 h2 =>
 aT v2 (
 some ((.i .i64 (Int.negSucc 0)), h2)) (
 bnd (r 51 [x0, x1, (aF 5)] h2) fun v3 h3 =>
 bnd (jL [v3] h3) fun v4 h4 =>
 some (v4, h4))
noncomputable abbrev c32 : Code := cf Tryz.f32
noncomputable abbrev r32 : K := aP CF Tryz.f32
noncomputable def D32 (r : RT) (n : Nat) (c : Code) (X : Nat → K) (k : K) : K := aM CF r 13 n c X r32 k
theorem dSk : D32 r n c32 x0 r32 = (K2 (s32 r n) 0 1) :=
 (by kernel_rfl)
theorem dJr : aE CF r n 32 args h = s32 r n (aS args 0) (aS args 1) h :=
 (by kernel_rfl : aE CF r n 32 args h = D32 r n c32 x0 r32 (aG args) h).trans ((congrFun (congrFun (dSk r n) (aG args)) h).trans (by kernel_rfl))
noncomputable def fW (r : RT) (n : Nat) (x7 : DV) (h0 : Hp) : aI :=
 bnd (gM x7 h0) fun v1 h1 =>
 some (.t [v1, (.b true)], h1)
noncomputable def aRq (r : RT) (n : Nat) (kk7 : cF) (x0 x1 x7 x48 x49 : DV) (h0 : Hp) : aI :=
 bnd (aD .lss x49 x48 h0) fun v1 h1 =>
 aT v1 (
 bnd (r 51 [x0, x1, x49] h1) fun v2 h2 =>
 bnd (cW .u8 v2 h2) fun v3 h3 =>
 bnd (aL [(.i .u8 (Int.ofNat 0))] 1 [(0, 1, v3)] h3) fun v4 h4 =>
 bnd (bB 1 1 x7 v4 h4) fun v5 h5 =>
 bnd (aD .add x49 (aF 1) h5) fun v6 h6 =>
      kk7 x0 x1 v5 x48 v6 h6) (
      fW r n x7 h1)
noncomputable def aIt (r : RT) (n : Nat) (m : Nat) : cF :=
 Nat.rec (motive := fun _ => cF) (fun _ _ _ _ _ _ => none) (fun _ ih => aRq r n ih) m
noncomputable def cRd (r : RT) (n : Nat) : cF := aIt r n n
noncomputable def bNk (r : RT) (n : Nat) (x0 x1 x7 x48 x49 : DV) (h0 : Hp) : aI :=
 cRd r n x0 x1 x7 x48 x49 h0
noncomputable def bSa (r : RT) (n : Nat) (x0 x1 x7 : DV) (h0 : Hp) : aI :=
 bnd (aO x0 h0) fun v1 h1 =>
 bnd (aC 0 v1 h1) fun v2 h2 =>
 bnd (aA v2 h2) fun v3 h3 =>
 bnd (fZ [v3, x1] h3) fun v4 h4 =>
  bNk r n x0 x1 x7 v4 (aF 0) h4
noncomputable def bHb (r : RT) (n : Nat) (x0 x1 : DV) (h0 : Hp) : aI :=
 bSa r n x0 x1 .l0 h0
noncomputable def bWk (r : RT) (n : Nat) (x0 x1 x6 : DV) (h0 : Hp) : aI :=
 bnd (aO x0 h0) fun v1 h1 =>
 bnd (aC 0 v1 h1) fun v2 h2 =>
 bnd (aA v2 h2) fun v3 h3 =>
 bnd (isF [v3, x1] h3) fun v4 h4 =>
 bnd (dR .not v4 h4) fun v5 h5 =>
 bnd (gD v5 false (some (x6, h5)) h5) fun v6 h6 =>
 bnd (gD v5 false (some (x0, h6)) h6) fun v7 h7 =>
 bnd (gD v5 false (r 30 [v7, (aF 10)] h7) h7) fun v8 h8 =>
 bnd (gD v5 false (aD .neq v6 v8 h8) h8) fun v9 h9 =>
 bnd (gD v5 false (some (v9, h9)) h9) fun v10 h10 =>
 bnd (gD v10 true (some (x6, h10)) h10) fun v11 h11 =>
 bnd (gD v10 true (some (x0, h11)) h11) fun v12 h12 =>
 bnd (gD v10 true (r 30 [v12, (aF 11)] h12) h12) fun v13 h13 =>
 bnd (gD v10 true (aD .neq v11 v13 h13) h13) fun v14 h14 =>
 bnd (gD v5 false (aQ v10 v14 (.b false) h14) h14) fun v15 h15 =>
 bnd (aQ v5 (.b true) v15 h15) fun v16 h16 =>
 bnd (gD v16 false (some (x0, h16)) h16) fun v17 h17 =>
 bnd (gD v16 false (aO v17 h17) h17) fun v18 h18 =>
 bnd (gD v16 false (aC 0 v18 h18) h18) fun v19 h19 =>
 bnd (gD v16 false (aA v19 h19) h19) fun v20 h20 =>
 bnd (gD v16 false (some (x1, h20)) h20) fun v21 h21 =>
 bnd (gD v16 false (jS [v20, v21] h21) h21) fun v22 h22 =>
 bnd (gD v16 false (aD .neq v22 (aF 2) h22) h22) fun v23 h23 =>
 bnd (aQ v16 (.b true) v23 h23) fun v24 h24 =>
 aT v24 (
 some (.t [(.s []), (.b false)], h24)) (
  bHb r n x0 x1 h24)
noncomputable def bYy (r : RT) (n : Nat) (x0 x1 : DV) (h0 : Hp) : aI :=
 bnd (aO x0 h0) fun v1 h1 =>
 bnd (aC 0 v1 h1) fun v2 h2 =>
 bnd (aA v2 h2) fun v3 h3 =>
 bnd (kB [v3, x1] h3) fun v4 h4 =>
  bWk r n x0 x1 v4 h4
noncomputable def s33 (r : RT) (n : Nat) (x0 x1 : DV) (h0 : Hp) : aI :=
 bYy r n x0 x1 h0
noncomputable abbrev c33 : Code := cf Tryz.f33
noncomputable abbrev aVw : Code := cR c33
noncomputable abbrev aWs : Code := cR aVw
noncomputable abbrev aUt : Code := cR aWs
noncomputable abbrev aYy : Code := cR aUt
noncomputable abbrev dGg : Code := cR aYy
noncomputable abbrev aMm : Code := cL aYy
noncomputable abbrev bRt : Code := cR aMm
noncomputable abbrev aZd : Code := cL bRt
noncomputable abbrev rQ : Code := cL aZd
noncomputable abbrev bZm : Code := cL aMm
noncomputable abbrev bXy : Code := cL aUt
noncomputable abbrev bHt : Code := cL aWs
noncomputable abbrev bYp : Code := cL aVw
noncomputable abbrev bSh : Code := cL c33
noncomputable abbrev r33 : K := aP CF Tryz.f33
noncomputable def D33 (r : RT) (n : Nat) (c : Code) (X : Nat → K) (k : K) : K := aM CF r 63 n c X r33 k
theorem dEs : D33 r n dGg x0 r33 = (K1 (fW r n) 7) :=
 (by kernel_rfl)
theorem cIf (kk7 : cF) (q0 : TT1) : D33 r n rQ (xs x0 0 (K1 q0 7)) (K5 kk7 0 1 7 48 49) = fun (env : aW) (h : Hp) =>
 bnd (aD .lss (env 49) (env 48) h) fun v1 h1 =>
 aT v1 (
 bnd (r 51 [(env 0), (env 1), (env 49)] h1) fun v2 h2 =>
 bnd (cW .u8 v2 h2) fun v3 h3 =>
 bnd (aL [(.i .u8 (Int.ofNat 0))] 1 [(0, 1, v3)] h3) fun v4 h4 =>
 bnd (bB 1 1 (env 7) v4 h4) fun v5 h5 =>
 bnd (aD .add (env 49) (aF 1) h5) fun v6 h6 =>
      kk7 (env 0) (env 1) v5 (env 48) v6 h6) (
      q0 (env 7) h1) := by kernel_rfl
theorem bYz (kk7 : cF) : (fun (env : aW) (h : Hp) =>
 bnd (aD .lss (env 49) (env 48) h) fun v1 h1 =>
 aT v1 (
 bnd (r 51 [(env 0), (env 1), (env 49)] h1) fun v2 h2 =>
 bnd (cW .u8 v2 h2) fun v3 h3 =>
 bnd (aL [(.i .u8 (Int.ofNat 0))] 1 [(0, 1, v3)] h3) fun v4 h4 =>
 bnd (bB 1 1 (env 7) v4 h4) fun v5 h5 =>
 bnd (aD .add (env 49) (aF 1) h5) fun v6 h6 =>
      kk7 (env 0) (env 1) v5 (env 48) v6 h6) (
      fW r n (env 7) h1)) = (K5 (aRq r n kk7) 0 1 7 48 49) := by kernel_rfl
theorem cHi (kk7 : cF) : D33 r n rQ (xs x0 0 (K1 (fW r n) 7)) (K5 kk7 0 1 7 48 49) = (K5 (aRq r n kk7) 0 1 7 48 49) :=
 (cIf r n kk7 (fW r n)).trans (bYz r n kk7)
theorem cOw (m : Nat) : aR (fun kk => D33 r n rQ (xs x0 0 (K1 (fW r n) 7)) kk) m = (K5 (aIt r n m) 0 1 7 48 49) := by
 induction m with
 | zero => exact (by kernel_rfl : aR (fun kk => D33 r n rQ (xs x0 0 (K1 (fW r n) 7)) kk) 0 = (K5 (aIt r n 0) 0 1 7 48 49))
 | succ m ih =>
  refine (by kernel_rfl : aR (fun kk => D33 r n rQ (xs x0 0 (K1 (fW r n) 7)) kk) (m + 1) = D33 r n rQ (xs x0 0 (K1 (fW r n) 7)) (aR (fun kk => D33 r n rQ (xs x0 0 (K1 (fW r n) 7)) kk) m)).trans ?_
  rw [ih]
  exact (cHi r n (aIt r n m)).trans (by kernel_rfl)
theorem cTs : D33 r n aZd (xs x0 0 (K1 (fW r n) 7)) (K1 (fW r n) 7) = (K5 (cRd r n) 0 1 7 48 49) :=
 (by kernel_rfl : D33 r n aZd (xs x0 0 (K1 (fW r n) 7)) (K1 (fW r n) 7) = aR (fun kk => D33 r n rQ (xs x0 0 (K1 (fW r n) 7)) kk) n).trans ((cOw r n n).trans (by kernel_rfl))
theorem dBo : D33 r n bRt x0 (K1 (fW r n) 7) = (K5 (bNk r n) 0 1 7 48 49) :=
 (by kernel_rfl : D33 r n bRt x0 (K1 (fW r n) 7) = D33 r n aZd (xs x0 0 (K1 (fW r n) 7)) (K1 (fW r n) 7)).trans
 ((cTs r n).trans (by kernel_rfl))
theorem cCn : D33 r n aYy x0 r33 = D33 r n aMm x0 (K1 (fW r n) 7) :=
 congrArg (fun k => D33 r n aMm x0 k) (dEs r n)
theorem cMd : D33 r n aMm x0 (K1 (fW r n) 7) = D33 r n bZm x0 (K5 (bNk r n) 0 1 7 48 49) :=
 congrArg (fun k => D33 r n bZm x0 k) (dBo r n)
theorem dCd : D33 r n aYy x0 r33 = (K3 (bSa r n) 0 1 7) :=
 (cCn r n).trans
 ((cMd r n).trans
 ((by kernel_rfl)))
theorem cOo : D33 r n aUt x0 r33 = D33 r n bXy x0 (K3 (bSa r n) 0 1 7) :=
 congrArg (fun k => D33 r n bXy x0 k) (dCd r n)
theorem cXu : D33 r n aUt x0 r33 = (K2 (bHb r n) 0 1) :=
 (cOo r n).trans
 ((by kernel_rfl))
theorem cEg : D33 r n aWs x0 r33 = D33 r n bHt x0 (K2 (bHb r n) 0 1) :=
 congrArg (fun k => D33 r n bHt x0 k) (cXu r n)
theorem cYw : D33 r n aWs x0 r33 = (K3 (bWk r n) 0 1 6) :=
 (cEg r n).trans
 ((by kernel_rfl))
theorem cFq : D33 r n aVw x0 r33 = D33 r n bYp x0 (K3 (bWk r n) 0 1 6) :=
 congrArg (fun k => D33 r n bYp x0 k) (cYw r n)
theorem cUm : D33 r n aVw x0 r33 = (K2 (bYy r n) 0 1) :=
 (cFq r n).trans
 ((by kernel_rfl))
theorem dIv : D33 r n c33 x0 r33 = D33 r n bSh x0 (K2 (bYy r n) 0 1) :=
 congrArg (fun k => D33 r n bSh x0 k) (cUm r n)
theorem dQg : D33 r n c33 x0 r33 = (K2 (s33 r n) 0 1) :=
 (dIv r n).trans
 ((by kernel_rfl))
theorem dMq : aE CF r n 33 args h = s33 r n (aS args 0) (aS args 1) h :=
 (by kernel_rfl : aE CF r n 33 args h = D33 r n c33 x0 r33 (aG args) h).trans ((congrFun (congrFun (dQg r n) (aG args)) h).trans (by kernel_rfl))
noncomputable def s34 (r : RT) (n : Nat) (x0 x1 : DV) (h0 : Hp) : aI :=
 bnd (r 67 [x0, x1] h0) fun v1 h1 =>
 bnd (dR .not v1 h1) fun v2 h2 =>
 aT v2 (
 some ((.s []), h2)) (
 bnd (r 51 [x0, x1, (aF 0)] h2) fun v3 h3 =>
 bnd (r 33 [x0, v3] h3) fun v4 h4 =>
 bnd (aB 0 v4 h4) fun v5 h5 =>
 bnd (aB 1 v4 h5) fun v6 h6 =>
 some (v5, h6))
noncomputable abbrev c34 : Code := cf Tryz.f34
noncomputable abbrev r34 : K := aP CF Tryz.f34
noncomputable def D34 (r : RT) (n : Nat) (c : Code) (X : Nat → K) (k : K) : K := aM CF r 20 n c X r34 k
theorem dRa : D34 r n c34 x0 r34 = (K2 (s34 r n) 0 1) :=
 (by kernel_rfl)
theorem dKk : aE CF r n 34 args h = s34 r n (aS args 0) (aS args 1) h :=
 (by kernel_rfl : aE CF r n 34 args h = D34 r n c34 x0 r34 (aG args) h).trans ((congrFun (congrFun (dRa r n) (aG args)) h).trans (by kernel_rfl))
noncomputable def s35 (r : RT) (n : Nat) (x0 x1 : DV) (h0 : Hp) : aI :=
 bnd (r 67 [x0, x1] h0) fun v1 h1 =>
 bnd (dR .not v1 h1) fun v2 h2 =>
 aT v2 (
 some ((aF 0), h2)) (
 bnd (r 51 [x0, x1, (aF 1)] h2) fun v3 h3 =>
 some (v3, h3))
noncomputable abbrev c35 : Code := cf Tryz.f35
noncomputable abbrev r35 : K := aP CF Tryz.f35
noncomputable def D35 (r : RT) (n : Nat) (c : Code) (X : Nat → K) (k : K) : K := aM CF r 12 n c X r35 k
theorem dSx : D35 r n c35 x0 r35 = (K2 (s35 r n) 0 1) :=
 (by kernel_rfl)
theorem dJb : aE CF r n 35 args h = s35 r n (aS args 0) (aS args 1) h :=
 (by kernel_rfl : aE CF r n 35 args h = D35 r n c35 x0 r35 (aG args) h).trans ((congrFun (congrFun (dSx r n) (aG args)) h).trans (by kernel_rfl))
noncomputable def s36 (r : RT) (n : Nat) (x0 : DV) (h0 : Hp) : aI :=
 bnd (aO x0 h0) fun v1 h1 =>
 bnd (aC 2 v1 h1) fun v2 h2 =>
 bnd (aA v2 h2) fun v3 h3 =>
 some (v3, h3)
noncomputable abbrev c36 : Code := cf Tryz.f36
noncomputable abbrev r36 : K := aP CF Tryz.f36
noncomputable def D36 (r : RT) (n : Nat) (c : Code) (X : Nat → K) (k : K) : K := aM CF r 7 n c X r36 k
theorem dTz : D36 r n c36 x0 r36 = (K1 (s36 r n) 0) :=
 (by kernel_rfl)
theorem dGm : aE CF r n 36 args h = s36 r n (aS args 0) h :=
 (by kernel_rfl : aE CF r n 36 args h = D36 r n c36 x0 r36 (aG args) h).trans ((congrFun (congrFun (dTz r n) (aG args)) h).trans (by kernel_rfl))
end Go.Dd

namespace Go.Dd
open Go.Proofs
variable (r : RT) (n : Nat) (args : List DV) (h : Hp)
noncomputable def s37 (r : RT) (n : Nat) (x0 x1 : DV) (h0 : Hp) : aI :=
 bnd (r 67 [x0, x1] h0) fun v1 h1 =>
 bnd (dR .not v1 h1) fun v2 h2 =>
 aT v2 (
 some ((aF 0), h2)) (
 bnd (r 51 [x0, x1, (aF 2)] h2) fun v3 h3 =>
 bnd (jL [v3] h3) fun v4 h4 =>
 some (v4, h4))
noncomputable abbrev c37 : Code := cf Tryz.f37
noncomputable abbrev r37 : K := aP CF Tryz.f37
noncomputable def D37 (r : RT) (n : Nat) (c : Code) (X : Nat → K) (k : K) : K := aM CF r 13 n c X r37 k
theorem dQx : D37 r n c37 x0 r37 = (K2 (s37 r n) 0 1) :=
 (by kernel_rfl)
theorem dHw : aE CF r n 37 args h = s37 r n (aS args 0) (aS args 1) h :=
 (by kernel_rfl : aE CF r n 37 args h = D37 r n c37 x0 r37 (aG args) h).trans ((congrFun (congrFun (dQx r n) (aG args)) h).trans (by kernel_rfl))
noncomputable def cP (r : RT) (n : Nat) (h0 : Hp) : aI :=
 some ((.i .i64 (Int.negSucc 0)), h0)
noncomputable def aMd (r : RT) (n : Nat) (x24 : DV) (h0 : Hp) : aI :=
 aT x24 (
 some ((aF 2), h0)) (
  cP r n h0)
noncomputable def bTy (r : RT) (n : Nat) (x3 : DV) (h0 : Hp) : aI :=
 bnd (aD .eql x3 (aF 21) h0) fun v1 h1 =>
 aT v1 (
  aMd r n v1 h1) (
 bnd (aD .eql x3 (aF 51) h1) fun v2 h2 =>
  aMd r n v2 h2)
noncomputable def iP (r : RT) (n : Nat) (x3 x10 : DV) (h0 : Hp) : aI :=
 aT x10 (
 some ((aF 1), h0)) (
  bTy r n x3 h0)
noncomputable def bPl (r : RT) (n : Nat) (x3 : DV) (h0 : Hp) : aI :=
 bnd (aD .eql x3 (aF 1) h0) fun v1 h1 =>
 aT v1 (
  iP r n x3 v1 h1) (
 bnd (aD .eql x3 (aF 2) h1) fun v2 h2 =>
 aT v2 (
   iP r n x3 v2 h2) (
 bnd (aD .eql x3 (aF 3) h2) fun v3 h3 =>
 aT v3 (
    iP r n x3 v3 h3) (
 bnd (aD .eql x3 (aF 4) h3) fun v4 h4 =>
 aT v4 (
     iP r n x3 v4 h4) (
 bnd (aD .eql x3 (aF 5) h4) fun v5 h5 =>
 aT v5 (
      iP r n x3 v5 h5) (
 bnd (aD .eql x3 (aF 6) h5) fun v6 h6 =>
 aT v6 (
       iP r n x3 v6 h6) (
 bnd (aD .eql x3 (aF 7) h6) fun v7 h7 =>
 aT v7 (
        iP r n x3 v7 h7) (
 bnd (aD .eql x3 (aF 10) h7) fun v8 h8 =>
 aT v8 (
         iP r n x3 v8 h8) (
 bnd (aD .eql x3 (aF 20) h8) fun v9 h9 =>
 aT v9 (
          iP r n x3 v9 h9) (
 bnd (aD .eql x3 (aF 24) h9) fun v10 h10 =>
 aT v10 (
           iP r n x3 v10 h10) (
 bnd (aD .eql x3 (aF 25) h10) fun v11 h11 =>
 aT v11 (
            iP r n x3 v11 h11) (
 bnd (aD .eql x3 (aF 26) h11) fun v12 h12 =>
 aT v12 (
             iP r n x3 v12 h12) (
 bnd (aD .eql x3 (aF 50) h12) fun v13 h13 =>
             iP r n x3 v13 h13))))))))))))
noncomputable def sC (r : RT) (n : Nat) (x3 x4 : DV) (h0 : Hp) : aI :=
 aT x4 (
 some ((aF 0), h0)) (
  bPl r n x3 h0)
noncomputable def aYt (r : RT) (n : Nat) (x3 : DV) (h0 : Hp) : aI :=
 bnd (aD .eql x3 (aF 11) h0) fun v1 h1 =>
 aT v1 (
  sC r n x3 v1 h1) (
 bnd (aD .eql x3 (aF 22) h1) fun v2 h2 =>
 aT v2 (
   sC r n x3 v2 h2) (
 bnd (aD .eql x3 (aF 23) h2) fun v3 h3 =>
 aT v3 (
    sC r n x3 v3 h3) (
 bnd (aD .eql x3 (aF 40) h3) fun v4 h4 =>
 aT v4 (
     sC r n x3 v4 h4) (
 bnd (aD .eql x3 (aF 41) h4) fun v5 h5 =>
     sC r n x3 v5 h5))))
noncomputable def aTz (r : RT) (n : Nat) (x0 : DV) (h0 : Hp) : aI :=
 aYt r n x0 h0
noncomputable def s39 (r : RT) (n : Nat) (x0 : DV) (h0 : Hp) : aI :=
 aTz r n x0 h0
noncomputable abbrev c39 : Code := cf Tryz.f39
noncomputable abbrev aWf : Code := cR c39
noncomputable abbrev dLv : Code := cR aWf
noncomputable abbrev aJz : Code := cL aWf
noncomputable abbrev bRx : Code := cR aJz
noncomputable abbrev aTj : Code := cL bRx
noncomputable abbrev aMe : Code := cR aTj
noncomputable abbrev aLn : Code := cR aMe
noncomputable abbrev aJt : Code := cR aLn
noncomputable abbrev aKg : Code := cR aJt
noncomputable abbrev cXr : Code := cR aKg
noncomputable abbrev bSv : Code := cL aKg
noncomputable abbrev dAe : Code := cL aJt
noncomputable abbrev bKf : Code := cL aLn
noncomputable abbrev dCz : Code := cL aMe
noncomputable abbrev bLv : Code := cL aTj
noncomputable abbrev bYi : Code := cL aJz
noncomputable abbrev bSp : Code := cL c39
noncomputable abbrev r39 : K := aP CF Tryz.f39
noncomputable def D39 (r : RT) (n : Nat) (c : Code) (X : Nat → K) (k : K) : K := aM CF r 27 n c X r39 k
theorem cUz : D39 r n dLv x0 r39 = (K0 (cP r n)) :=
 (by kernel_rfl)
theorem cZp : D39 r n cXr (xs x0 0 (K0 (cP r n))) (K0 (cP r n)) = (K1 (aMd r n) 24) :=
 (by kernel_rfl)
theorem cHg : D39 r n aKg (xs x0 0 (K0 (cP r n))) (K0 (cP r n)) = D39 r n bSv (xs x0 0 (K0 (cP r n))) (K1 (aMd r n) 24) :=
 congrArg (fun k => D39 r n bSv (xs x0 0 (K0 (cP r n))) k) (cZp r n)
theorem cUf : D39 r n aKg (xs x0 0 (K0 (cP r n))) (K0 (cP r n)) = (K1 (bTy r n) 3) :=
 (cHg r n).trans
 ((by kernel_rfl))
theorem cZe : D39 r n aJt (xs x0 0 (K0 (cP r n))) (K0 (cP r n)) = (K2 (iP r n) 3 10) :=
 (by kernel_rfl : D39 r n aJt (xs x0 0 (K0 (cP r n))) (K0 (cP r n)) = (fun (env : aW) (h : Hp) => aT (opr env (cC aJt)) (D39 r n dAe (xs x0 0 (K0 (cP r n))) (K0 (cP r n)) env h) (D39 r n aKg (xs x0 0 (K0 (cP r n))) (K0 (cP r n)) env h))).trans (by rw [cUf r n]; kernel_rfl)
theorem cEt : D39 r n aLn (xs x0 0 (K0 (cP r n))) (K0 (cP r n)) = D39 r n bKf (xs x0 0 (K0 (cP r n))) (K2 (iP r n) 3 10) :=
 congrArg (fun k => D39 r n bKf (xs x0 0 (K0 (cP r n))) k) (cZe r n)
theorem cTp : D39 r n aLn (xs x0 0 (K0 (cP r n))) (K0 (cP r n)) = (K1 (bPl r n) 3) :=
 (cEt r n).trans
 ((by kernel_rfl))
theorem cWj : D39 r n aMe (xs x0 0 (K0 (cP r n))) (K0 (cP r n)) = (K2 (sC r n) 3 4) :=
 (by kernel_rfl : D39 r n aMe (xs x0 0 (K0 (cP r n))) (K0 (cP r n)) = (fun (env : aW) (h : Hp) => aT (opr env (cC aMe)) (D39 r n dCz (xs x0 0 (K0 (cP r n))) (K0 (cP r n)) env h) (D39 r n aLn (xs x0 0 (K0 (cP r n))) (K0 (cP r n)) env h))).trans (by rw [cTp r n]; kernel_rfl)
theorem cKi : D39 r n aTj (xs x0 0 (K0 (cP r n))) (K0 (cP r n)) = D39 r n bLv (xs x0 0 (K0 (cP r n))) (K2 (sC r n) 3 4) :=
 congrArg (fun k => D39 r n bLv (xs x0 0 (K0 (cP r n))) k) (cWj r n)
theorem cTk : D39 r n bRx x0 (K0 (cP r n)) = (K1 (aYt r n) 3) :=
 (by kernel_rfl : D39 r n bRx x0 (K0 (cP r n)) = D39 r n aTj (xs x0 0 (K0 (cP r n))) (K0 (cP r n))).trans
 ((cKi r n).trans
 ((by kernel_rfl)))
theorem cLp : D39 r n aWf x0 r39 = D39 r n aJz x0 (K0 (cP r n)) :=
 congrArg (fun k => D39 r n aJz x0 k) (cUz r n)
theorem cNe : D39 r n aJz x0 (K0 (cP r n)) = D39 r n bYi x0 (K1 (aYt r n) 3) :=
 congrArg (fun k => D39 r n bYi x0 k) (cTk r n)
theorem dEr : D39 r n aWf x0 r39 = (K1 (aTz r n) 0) :=
 (cLp r n).trans
 ((cNe r n).trans
 ((by kernel_rfl)))
theorem dGr : D39 r n c39 x0 r39 = D39 r n bSp x0 (K1 (aTz r n) 0) :=
 congrArg (fun k => D39 r n bSp x0 k) (dEr r n)
theorem dQw : D39 r n c39 x0 r39 = (K1 (s39 r n) 0) :=
 (dGr r n).trans
 ((by kernel_rfl))
theorem cQs : aE CF r n 39 args h = s39 r n (aS args 0) h :=
 (by kernel_rfl : aE CF r n 39 args h = D39 r n c39 x0 r39 (aG args) h).trans ((congrFun (congrFun (dQw r n) (aG args)) h).trans (by kernel_rfl))
noncomputable def fA (r : RT) (n : Nat) (x5 : DV) (h0 : Hp) : aI :=
 some (.t [x5, (aF 0)], h0)
noncomputable def jW (r : RT) (n : Nat) (kk9 : dJ) (x5 x155 x156 x157 : DV) (h0 : Hp) : aI :=
 bnd (aD .lss x157 x156 h0) fun v1 h1 =>
 aT v1 (
 bnd (aJ 1 x155 x157 h1) fun v2 h2 =>
 bnd (aA v2 h2) fun v3 h3 =>
 bnd (aJ 1 v3 (aF 0) h3) fun v4 h4 =>
 bnd (aA v4 h4) fun v5 h5 =>
 bnd (aJ 1 v3 (aF 1) h5) fun v6 h6 =>
 bnd (aA v6 h6) fun v7 h7 =>
 bnd (r 75 [x5, v5, v7] h7) fun v8 h8 =>
 bnd (aB 0 v8 h8) fun v9 h9 =>
 bnd (aB 1 v8 h9) fun v10 h10 =>
 bnd (aB 2 v8 h10) fun v11 h11 =>
 bnd (aB 3 v8 h11) fun v12 h12 =>
 bnd (aD .neq v12 (aF 0) h12) fun v13 h13 =>
 aT v13 (
 some (.t [.p0, v12], h13)) (
 bnd (aD .add x157 (aF 1) h13) fun v14 h14 =>
    kk9 x5 x155 x156 v14 h14)) (
      fA r n x5 h1)
noncomputable def kA (r : RT) (n : Nat) (m : Nat) : dJ :=
 Nat.rec (motive := fun _ => dJ) (fun _ _ _ _ _ => none) (fun _ ih => jW r n ih) m
noncomputable def aTk (r : RT) (n : Nat) : dJ := kA r n n
noncomputable def bVr (r : RT) (n : Nat) (x5 x155 x156 x157 : DV) (h0 : Hp) : aI :=
 aTk r n x5 x155 x156 x157 h0
noncomputable def bH (r : RT) (n : Nat) (x5 : DV) (h0 : Hp) : aI :=
 bnd (r 74 [] h0) fun v1 h1 =>
 bnd (cJ v1 h1) fun v2 h2 =>
  bVr r n x5 v1 v2 (aF 0) h2
noncomputable def bA (r : RT) (n : Nat) (kk11 : cF) (x4 x5 x59 x60 x61 : DV) (h0 : Hp) : aI :=
 bnd (aD .add x61 (aF 1) h0) fun v1 h1 =>
  kk11 x4 x5 x59 x60 v1 h1
noncomputable def eW (r : RT) (n : Nat) (kk11 : cF) (x4 x5 x8 x9 x59 x60 x61 : DV) (h0 : Hp) : aI :=
 bnd (aO x5 h0) fun v1 h1 =>
 bnd (aC 1 v1 h1) fun v2 h2 =>
 bnd (aA v2 h2) fun v3 h3 =>
 bnd (aO x5 h3) fun v4 h4 =>
 bnd (aC 1 v4 h4) fun v5 h5 =>
 bnd (aA v5 h5) fun v6 h6 =>
 bnd (aJ 1 v6 (aF 1) h6) fun v7 h7 =>
 bnd (aA v7 h7) fun v8 h8 =>
 bnd (r 73 [x5, x9, v8] h8) fun v9 h9 =>
 cnd (bJ (aA v2 h9) v3 && true) (
 bnd (aB 0 v9 h9) fun v10 h10 =>
 bnd (aB 1 v9 h10) fun v11 h11 =>
 bnd (aJ 1 v3 (aF 1) h11) fun v12 h12 =>
 bnd (aH 1 v12 v10 h12) fun v13 h13 =>
 bnd (aO x5 h13) fun v14 h14 =>
 bnd (aC 3 v14 h14) fun v15 h15 =>
 bnd (aA v15 h15) fun v16 h16 =>
 bnd (aC 0 x8 h16) fun v17 h17 =>
 bnd (aA v17 h17) fun v18 h18 =>
 bnd (fY .string v16 v18 x9 h18) fun v19 h19 =>
  bA r n kk11 x4 x5 x59 x60 x61 h19)
noncomputable def aWp (r : RT) (n : Nat) (kk11 : cF) (kk25 : aOm) (x4 x5 x8 x9 x59 x60 x61 x117 x118 x119 : DV) (h0 : Hp) : aI :=
 bnd (aD .lss x119 x118 h0) fun v1 h1 =>
 aT v1 (
 bnd (aJ 1 x117 x119 h1) fun v2 h2 =>
 bnd (aA v2 h2) fun v3 h3 =>
 bnd (sH [x4, x9, x119, v3] h3) fun v4 h4 =>
 bnd (aD .add x119 (aF 1) h4) fun v5 h5 =>
      kk25 x4 x5 x8 x9 x59 x60 x61 x117 x118 v5 h5) (
      eW r n kk11 x4 x5 x8 x9 x59 x60 x61 h1)
noncomputable def sZ (r : RT) (n : Nat) (kk11 : cF) (m : Nat) : aOm :=
 Nat.rec (motive := fun _ => aOm) (fun _ _ _ _ _ _ _ _ _ _ _ => none) (fun _ ih => aWp r n kk11 ih) m
noncomputable def cAo (r : RT) (n : Nat) (kk11 : cF) : aOm := sZ r n kk11 n
noncomputable def yA (r : RT) (n : Nat) (kk11 : cF) (x4 x5 x8 x9 x59 x60 x61 x117 x118 x119 : DV) (h0 : Hp) : aI :=
 cAo r n kk11 x4 x5 x8 x9 x59 x60 x61 x117 x118 x119 h0
noncomputable def aGq (r : RT) (n : Nat) (kk11 : cF) (x4 x5 x8 x9 x10 x12 x13 x19 x59 x60 x61 : DV) (h0 : Hp) : aI :=
 bnd (r 71 [x13] (resv 1 h0)) fun v1 h1 =>
 bnd (aC 2 x8 h1) fun v2 h2 =>
 bnd (aA v2 h2) fun v3 h3 =>
 cnd (bJ (aA v2 (resv 1 h0)) v3 && true) (
 bnd (r 71 [v3] h3) fun v4 h4 =>
 bnd (bL (bW 0 h0.next) [(aF 0), (aF 0), (aF 0), (aF 0), (aF 0), (aF 0)] 6 [(0, 1, x10), (1, 1, x12), (2, 1, v1), (3, 1, x19), (4, 1, (aF 0)), (5, 1, v4)] h4) fun v5 h5 =>
 bnd (cJ v5 h5) fun v6 h6 =>
  yA r n kk11 x4 x5 x8 x9 x59 x60 x61 v5 v6 (aF 0) h6)
noncomputable def nZ (r : RT) (n : Nat) (kk11 : cF) (x4 x5 x8 x9 x10 x12 x13 x14 x59 x60 x61 : DV) (h0 : Hp) : aI :=
 bnd (r 46 [x5, x14] h0) fun v1 h1 =>
 bnd (aB 0 v1 h1) fun v2 h2 =>
 bnd (aB 1 v1 h2) fun v3 h3 =>
  aGq r n kk11 x4 x5 x8 x9 x10 x12 x13 v2 x59 x60 x61 h3
noncomputable def wP (r : RT) (n : Nat) (kk11 : cF) (x4 x5 x7 x8 x9 x10 x12 x13 x14 x59 x60 x61 : DV) (h0 : Hp) : aI :=
 bnd (aD .eql x7 (aF 15) h0) fun v1 h1 =>
 aT v1 (
 bnd (r 44 [x5, (.s [115, 101, 108, 101, 99, 116, 111, 114])] h1) fun v2 h2 =>
 bnd (aB 0 v2 h2) fun v3 h3 =>
 bnd (aB 1 v2 h3) fun v4 h4 =>
 bnd (r 44 [x5, (.s [97, 114, 103, 117, 109, 101, 110, 116, 115])] h4) fun v5 h5 =>
 bnd (aB 0 v5 h5) fun v6 h6 =>
 bnd (aB 1 v5 h6) fun v7 h7 =>
 bnd (aL [(aF 0), (aF 0)] 2 [(0, 1, v3), (1, 1, v6)] h7) fun v8 h8 =>
  nZ r n kk11 x4 x5 x8 x9 x10 x12 (aF 2) v8 x59 x60 x61 h8) (
  nZ r n kk11 x4 x5 x8 x9 x10 x12 x13 x14 x59 x60 x61 h1)
noncomputable def aRu (r : RT) (n : Nat) (kk11 : cF) (x4 x5 x7 x8 x9 x10 x12 x13 x14 x59 x60 x61 : DV) (h0 : Hp) : aI :=
 bnd (aC 1 x8 h0) fun v1 h1 =>
 bnd (aA v1 h1) fun v2 h2 =>
 bnd (aD .geq v2 (aF 0) h2) fun v3 h3 =>
 aT v3 (
 bnd (aC 1 x8 h3) fun v4 h4 =>
 bnd (aA v4 h4) fun v5 h5 =>
 bnd (r 30 [x5, v5] h5) fun v6 h6 =>
  wP r n kk11 x4 x5 x7 x8 x9 x10 v6 x13 x14 x59 x60 x61 h6) (
  wP r n kk11 x4 x5 x7 x8 x9 x10 x12 x13 x14 x59 x60 x61 h3)
noncomputable def aRx (r : RT) (n : Nat) (kk11 : cF) (x4 x5 x7 x8 x9 x10 x59 x60 x61 : DV) (h0 : Hp) : aI :=
 aRu r n kk11 x4 x5 x7 x8 x9 x10 (aF 0) (aF 0) .l0 x59 x60 x61 h0
noncomputable def aSs (r : RT) (n : Nat) (kk11 : cF) (x4 x5 x7 x8 x9 x59 x60 x61 : DV) (h0 : Hp) : aI :=
 bnd (aC 0 x8 h0) fun v1 h1 =>
 bnd (aA v1 h1) fun v2 h2 =>
 bnd (r 44 [x5, v2] h2) fun v3 h3 =>
 bnd (aB 0 v3 h3) fun v4 h4 =>
 bnd (aB 1 v3 h4) fun v5 h5 =>
  aRx r n kk11 x4 x5 x7 x8 x9 v4 x59 x60 x61 h5
noncomputable def aSd (r : RT) (n : Nat) (kk11 : cF) (x4 x5 x7 x8 x9 x59 x60 x61 : DV) (h0 : Hp) : aI :=
 bnd (r 30 [x5, (aF 1)] h0) fun v1 h1 =>
 bnd (kP [x4, x9, v1] h1) fun v2 h2 =>
  aSs r n kk11 x4 x5 x7 x8 x9 x59 x60 x61 h2
noncomputable def wO (r : RT) (n : Nat) (kk11 : cF) (x4 x5 x7 x8 x59 x60 x61 : DV) (h0 : Hp) : aI :=
 bnd (r 30 [x5, x7] h0) fun v1 h1 =>
  aSd r n kk11 x4 x5 x7 x8 v1 x59 x60 x61 h1
noncomputable def aFk (r : RT) (n : Nat) (kk11 : cF) (x4 x5 x59 x60 x61 : DV) (h0 : Hp) : aI :=
 bnd (aJ 3 x59 x61 h0) fun v1 h1 =>
 bnd (aK 3 v1 h1) fun v2 h2 =>
 bnd (bR [(.s []), (aF 0), (aF 0)] h2) fun v3 h3 =>
 bnd (aH 3 v3 v2 h3) fun _ h4 =>
  wO r n kk11 x4 x5 x61 v3 x59 x60 x61 h4
noncomputable def aOt (r : RT) (n : Nat) (kk11 : cF) (x4 x5 x59 x60 x61 x62 : DV) (h0 : Hp) : aI :=
 aT x62 (
  aFk r n kk11 x4 x5 x59 x60 x61 h0) (
  bH r n x5 h0)
noncomputable def aXm (r : RT) (n : Nat) (kk11 : cF) (x4 x5 x59 x60 x61 : DV) (h0 : Hp) : aI :=
 bnd (aD .lss x61 x60 h0) fun v1 h1 =>
  aOt r n kk11 x4 x5 x59 x60 x61 v1 h1
noncomputable def sQ (r : RT) (n : Nat) (m : Nat) : cF :=
 Nat.rec (motive := fun _ => cF) (fun _ _ _ _ _ _ => none) (fun _ ih => aXm r n ih) m
noncomputable def bHr (r : RT) (n : Nat) : cF := sQ r n n
noncomputable def aRo (r : RT) (n : Nat) (x4 x5 x59 x60 x61 : DV) (h0 : Hp) : aI :=
 bHr r n x4 x5 x59 x60 x61 h0
noncomputable def gO (r : RT) (n : Nat) (x4 x5 : DV) (h0 : Hp) : aI :=
 bnd (r 69 [] h0) fun v1 h1 =>
 bnd (cJ v1 h1) fun v2 h2 =>
  aRo r n x4 x5 v1 v2 (aF 0) h2
noncomputable def aTl (r : RT) (n : Nat) (kk27 : nB) (x4 x5 x43 : DV) (h0 : Hp) : aI :=
 bnd (aD .lss x43 (aF 16) h0) fun v1 h1 =>
 aT v1 (
 bnd (aO x5 h1) fun v2 h2 =>
 bnd (aC 1 v2 h2) fun v3 h3 =>
 bnd (aA v3 h3) fun v4 h4 =>
 bnd (aD .add (aF 2) x43 h4) fun v5 h5 =>
 bnd (iR [x4, (aF 0), (aF 0), (aF 6)] h5) fun v6 h6 =>
 cnd (bJ (aA v3 h6) v4 && true) (
 bnd (aB 0 v6 h6) fun v7 h7 =>
 bnd (aB 1 v6 h7) fun v8 h8 =>
 bnd (aJ 1 v4 v5 h8) fun v9 h9 =>
 bnd (aH 1 v9 v7 h9) fun v10 h10 =>
 bnd (aD .add x43 (aF 1) h10) fun v11 h11 =>
      kk27 x4 x5 v11 h11)) (
      gO r n x4 x5 h1)
noncomputable def uJ (r : RT) (n : Nat) (m : Nat) : nB :=
 Nat.rec (motive := fun _ => nB) (fun _ _ _ _ => none) (fun _ ih => aTl r n ih) m
noncomputable def bRu (r : RT) (n : Nat) : nB := uJ r n n
noncomputable def aRw (r : RT) (n : Nat) (x4 x5 x43 : DV) (h0 : Hp) : aI :=
 bRu r n x4 x5 x43 h0
noncomputable def aKl (r : RT) (n : Nat) (x4 x5 : DV) (h0 : Hp) : aI :=
 aRw r n x4 x5 (aF 0) h0
noncomputable def aWr (r : RT) (n : Nat) (x4 : DV) (h0 : Hp) : aI :=
 bnd (cK 1 8 [(aF 0)] (aF 18) (aF 18) h0) fun v1 h1 =>
 bnd (dY h1) fun v2 h2 =>
 bnd (dY h2) fun v3 h3 =>
 bnd (bD [.p0, .l0, .m0, .m0] [(0, 1, x4), (1, 1, v1), (2, 1, v2), (3, 1, v3)] h3) fun v4 h4 =>
 bnd (bX v4 h4) fun v5 h5 =>
  aKl r n x4 v5 h5
noncomputable def cAe (r : RT) (n : Nat) (x0 x4 : DV) (h0 : Hp) : aI :=
 bnd (pEq (.pointer 73) true x4 .p0 h0) fun v1 h1 =>
 aT v1 (
 some (.t [.p0, (aF 1)], h1)) (
 bnd (aD .lss x0 (aF 16384) h1) fun v2 h2 =>
 aT v2 (
 some (.t [.p0, (aF 4)], h2)) (
   aWr r n x4 h2))
noncomputable def bJi (r : RT) (n : Nat) (x0 : DV) (h0 : Hp) : aI :=
 bnd (aOj [x0] h0) fun v1 h1 =>
  cAe r n x0 v1 h1
noncomputable def s40 (r : RT) (n : Nat) (x0 : DV) (h0 : Hp) : aI :=
 bJi r n x0 h0
noncomputable abbrev c40 : Code := cf Tryz.f40
noncomputable abbrev bBl : Code := cR c40
noncomputable abbrev aZt : Code := cR bBl
noncomputable abbrev aWk : Code := cR aZt
noncomputable abbrev aVm : Code := cR aWk
noncomputable abbrev aXn : Code := cR aVm
noncomputable abbrev aWm : Code := cR aXn
noncomputable abbrev dHi : Code := cR aWm
noncomputable abbrev aMu : Code := cL aWm
noncomputable abbrev bQd : Code := cR aMu
noncomputable abbrev aEu : Code := cL bQd
noncomputable abbrev nU : Code := cL aEu
noncomputable abbrev bRv : Code := cL aMu
noncomputable abbrev wG : Code := cL aXn
noncomputable abbrev aRz : Code := cR wG
noncomputable abbrev aFc : Code := cL aRz
noncomputable abbrev jZ : Code := cL aFc
noncomputable abbrev aDb : Code := cR jZ
noncomputable abbrev aAu : Code := cR aDb
noncomputable abbrev cXt : Code := cR aAu
noncomputable abbrev aDx : Code := cL aAu
noncomputable abbrev aGj : Code := cL aDx
noncomputable abbrev aFl : Code := cR aGj
noncomputable abbrev aGc : Code := cR aFl
noncomputable abbrev aDo : Code := cR aGc
noncomputable abbrev aCe : Code := cR aDo
noncomputable abbrev aIg : Code := cR aCe
noncomputable abbrev aHm : Code := cR aIg
noncomputable abbrev aCm : Code := cR aHm
noncomputable abbrev aHa : Code := cR aCm
noncomputable abbrev dBx : Code := cR aHa
noncomputable abbrev xH : Code := cL aHa
noncomputable abbrev aSu : Code := cR xH
noncomputable abbrev aAz : Code := cL aSu
noncomputable abbrev oD : Code := cL aAz
noncomputable abbrev aNo : Code := cL xH
noncomputable abbrev bQi : Code := cL aCm
noncomputable abbrev aNf : Code := cL aHm
noncomputable abbrev bTe : Code := cL aIg
noncomputable abbrev bJk : Code := cL aCe
noncomputable abbrev bJt : Code := cL aDo
noncomputable abbrev bJs : Code := cL aGc
noncomputable abbrev bPy : Code := cL aFl
noncomputable abbrev aQp : Code := cL aGj
noncomputable abbrev bZo : Code := cL aDb
noncomputable abbrev bWz : Code := cL jZ
noncomputable abbrev cAc : Code := cL wG
noncomputable abbrev vD : Code := cL aVm
noncomputable abbrev aNt : Code := cR vD
noncomputable abbrev aFr : Code := cL aNt
noncomputable abbrev oH : Code := cL aFr
noncomputable abbrev bHc : Code := cL vD
noncomputable abbrev aNv : Code := cL aWk
noncomputable abbrev bNg : Code := cL aZt
noncomputable abbrev bOp : Code := cL bBl
noncomputable abbrev bOa : Code := cL c40
noncomputable abbrev r40 : K := aP CF Tryz.f40
noncomputable def D40 (r : RT) (n : Nat) (c : Code) (X : Nat → K) (k : K) : K := aM CF r 179 n c X r40 k
theorem bQm : D40 r n dHi x0 r40 = (K1 (fA r n) 5) :=
 (by kernel_rfl)
theorem bAo (kk9 : dJ) : D40 r n nU (xs x0 7 (K1 (fA r n) 5)) (K4 kk9 5 155 156 157) = (K4 (jW r n kk9) 5 155 156 157) :=
 (by kernel_rfl)
theorem cEi (m : Nat) : aR (fun kk => D40 r n nU (xs x0 7 (K1 (fA r n) 5)) kk) m = (K4 (kA r n m) 5 155 156 157) := by
 induction m with
 | zero => exact (by kernel_rfl : aR (fun kk => D40 r n nU (xs x0 7 (K1 (fA r n) 5)) kk) 0 = (K4 (kA r n 0) 5 155 156 157))
 | succ m ih =>
  refine (by kernel_rfl : aR (fun kk => D40 r n nU (xs x0 7 (K1 (fA r n) 5)) kk) (m + 1) = D40 r n nU (xs x0 7 (K1 (fA r n) 5)) (aR (fun kk => D40 r n nU (xs x0 7 (K1 (fA r n) 5)) kk) m)).trans ?_
  rw [ih]
  exact (bAo r n (kA r n m)).trans (by kernel_rfl)
theorem bYo : D40 r n aEu (xs x0 7 (K1 (fA r n) 5)) (K1 (fA r n) 5) = (K4 (aTk r n) 5 155 156 157) :=
 (by kernel_rfl : D40 r n aEu (xs x0 7 (K1 (fA r n) 5)) (K1 (fA r n) 5) = aR (fun kk => D40 r n nU (xs x0 7 (K1 (fA r n) 5)) kk) n).trans ((cEi r n n).trans (by kernel_rfl))
theorem cVe : D40 r n bQd x0 (K1 (fA r n) 5) = (K4 (bVr r n) 5 155 156 157) :=
 (by kernel_rfl : D40 r n bQd x0 (K1 (fA r n) 5) = D40 r n aEu (xs x0 7 (K1 (fA r n) 5)) (K1 (fA r n) 5)).trans
 ((bYo r n).trans (by kernel_rfl))
theorem cGr : D40 r n aWm x0 r40 = D40 r n aMu x0 (K1 (fA r n) 5) :=
 congrArg (fun k => D40 r n aMu x0 k) (bQm r n)
theorem cLx : D40 r n aMu x0 (K1 (fA r n) 5) = D40 r n bRv x0 (K4 (bVr r n) 5 155 156 157) :=
 congrArg (fun k => D40 r n bRv x0 k) (cVe r n)
theorem cVu : D40 r n aWm x0 r40 = (K1 (bH r n) 5) :=
 (cGr r n).trans
 ((cLx r n).trans
 ((by kernel_rfl)))
theorem cOe (kk11 : cF) : D40 r n cXt (xs x0 3 (K1 (bH r n) 5)) (K5 kk11 4 5 59 60 61) = (K5 (bA r n kk11) 4 5 59 60 61) :=
 (by kernel_rfl)
theorem cOu (kk11 : cF) : D40 r n dBx (xs (xs x0 3 (K1 (bH r n) 5)) 4 (K5 (bA r n kk11) 4 5 59 60 61)) (K5 (bA r n kk11) 4 5 59 60 61) = (K7 (eW r n kk11) 4 5 8 9 59 60 61) :=
 (by kernel_rfl)
theorem bWp (kk11 : cF) (kk25 : aOm) : D40 r n oD (xs (xs (xs x0 3 (K1 (bH r n) 5)) 4 (K5 (bA r n kk11) 4 5 59 60 61)) 5 (K7 (eW r n kk11) 4 5 8 9 59 60 61)) (K10 kk25 4 5 8 9 59 60 61 117 118 119) = (K10 (aWp r n kk11 kk25) 4 5 8 9 59 60 61 117 118 119) :=
 (by kernel_rfl)
theorem cAi (kk11 : cF) (m : Nat) : aR (fun kk => D40 r n oD (xs (xs (xs x0 3 (K1 (bH r n) 5)) 4 (K5 (bA r n kk11) 4 5 59 60 61)) 5 (K7 (eW r n kk11) 4 5 8 9 59 60 61)) kk) m = (K10 (sZ r n kk11 m) 4 5 8 9 59 60 61 117 118 119) := by
 induction m with
 | zero => exact (by kernel_rfl : aR (fun kk => D40 r n oD (xs (xs (xs x0 3 (K1 (bH r n) 5)) 4 (K5 (bA r n kk11) 4 5 59 60 61)) 5 (K7 (eW r n kk11) 4 5 8 9 59 60 61)) kk) 0 = (K10 (sZ r n kk11 0) 4 5 8 9 59 60 61 117 118 119))
 | succ m ih =>
  refine (by kernel_rfl : aR (fun kk => D40 r n oD (xs (xs (xs x0 3 (K1 (bH r n) 5)) 4 (K5 (bA r n kk11) 4 5 59 60 61)) 5 (K7 (eW r n kk11) 4 5 8 9 59 60 61)) kk) (m + 1) = D40 r n oD (xs (xs (xs x0 3 (K1 (bH r n) 5)) 4 (K5 (bA r n kk11) 4 5 59 60 61)) 5 (K7 (eW r n kk11) 4 5 8 9 59 60 61)) (aR (fun kk => D40 r n oD (xs (xs (xs x0 3 (K1 (bH r n) 5)) 4 (K5 (bA r n kk11) 4 5 59 60 61)) 5 (K7 (eW r n kk11) 4 5 8 9 59 60 61)) kk) m)).trans ?_
  rw [ih]
  exact (bWp r n kk11 (sZ r n kk11 m)).trans (by kernel_rfl)
theorem cCw (kk11 : cF) : D40 r n aAz (xs (xs (xs x0 3 (K1 (bH r n) 5)) 4 (K5 (bA r n kk11) 4 5 59 60 61)) 5 (K7 (eW r n kk11) 4 5 8 9 59 60 61)) (K7 (eW r n kk11) 4 5 8 9 59 60 61) = (K10 (cAo r n kk11) 4 5 8 9 59 60 61 117 118 119) :=
 (by kernel_rfl : D40 r n aAz (xs (xs (xs x0 3 (K1 (bH r n) 5)) 4 (K5 (bA r n kk11) 4 5 59 60 61)) 5 (K7 (eW r n kk11) 4 5 8 9 59 60 61)) (K7 (eW r n kk11) 4 5 8 9 59 60 61) = aR (fun kk => D40 r n oD (xs (xs (xs x0 3 (K1 (bH r n) 5)) 4 (K5 (bA r n kk11) 4 5 59 60 61)) 5 (K7 (eW r n kk11) 4 5 8 9 59 60 61)) kk) n).trans ((cAi r n kk11 n).trans (by kernel_rfl))
theorem cGo (kk11 : cF) : D40 r n aSu (xs (xs x0 3 (K1 (bH r n) 5)) 4 (K5 (bA r n kk11) 4 5 59 60 61)) (K7 (eW r n kk11) 4 5 8 9 59 60 61) = (K10 (yA r n kk11) 4 5 8 9 59 60 61 117 118 119) :=
 (by kernel_rfl : D40 r n aSu (xs (xs x0 3 (K1 (bH r n) 5)) 4 (K5 (bA r n kk11) 4 5 59 60 61)) (K7 (eW r n kk11) 4 5 8 9 59 60 61) = D40 r n aAz (xs (xs (xs x0 3 (K1 (bH r n) 5)) 4 (K5 (bA r n kk11) 4 5 59 60 61)) 5 (K7 (eW r n kk11) 4 5 8 9 59 60 61)) (K7 (eW r n kk11) 4 5 8 9 59 60 61)).trans
 ((cCw r n kk11).trans (by kernel_rfl))
theorem bHo (kk11 : cF) : D40 r n aHa (xs (xs x0 3 (K1 (bH r n) 5)) 4 (K5 (bA r n kk11) 4 5 59 60 61)) (K5 (bA r n kk11) 4 5 59 60 61) = D40 r n xH (xs (xs x0 3 (K1 (bH r n) 5)) 4 (K5 (bA r n kk11) 4 5 59 60 61)) (K7 (eW r n kk11) 4 5 8 9 59 60 61) :=
 congrArg (fun k => D40 r n xH (xs (xs x0 3 (K1 (bH r n) 5)) 4 (K5 (bA r n kk11) 4 5 59 60 61)) k) (cOu r n kk11)
theorem bVw (kk11 : cF) : D40 r n xH (xs (xs x0 3 (K1 (bH r n) 5)) 4 (K5 (bA r n kk11) 4 5 59 60 61)) (K7 (eW r n kk11) 4 5 8 9 59 60 61) = D40 r n aNo (xs (xs x0 3 (K1 (bH r n) 5)) 4 (K5 (bA r n kk11) 4 5 59 60 61)) (K10 (yA r n kk11) 4 5 8 9 59 60 61 117 118 119) :=
 congrArg (fun k => D40 r n aNo (xs (xs x0 3 (K1 (bH r n) 5)) 4 (K5 (bA r n kk11) 4 5 59 60 61)) k) (cGo r n kk11)
theorem bIi (kk11 : cF) (q0 : aOm) (q1 : TT1) (q2 : cF) : D40 r n aNo (xs (xs x0 3 (K1 q1 5)) 4 (K5 q2 4 5 59 60 61)) (K10 q0 4 5 8 9 59 60 61 117 118 119) = fun (env : aW) (h : Hp) =>
 bnd (r 71 [(env 13)] (resv 1 h)) fun v1 h1 =>
 bnd (aC 2 (env 8) h1) fun v2 h2 =>
 bnd (aA v2 h2) fun v3 h3 =>
 cnd (bJ (aA v2 (resv 1 h)) v3 && true) (
 bnd (r 71 [v3] h3) fun v4 h4 =>
 bnd (bL (bW 0 h.next) [(aF 0), (aF 0), (aF 0), (aF 0), (aF 0), (aF 0)] 6 [(0, 1, (env 10)), (1, 1, (env 12)), (2, 1, v1), (3, 1, (env 19)), (4, 1, (aF 0)), (5, 1, v4)] h4) fun v5 h5 =>
 bnd (cJ v5 h5) fun v6 h6 =>
  q0 (env 4) (env 5) (env 8) (env 9) (env 59) (env 60) (env 61) v5 v6 (aF 0) h6) := by kernel_rfl
theorem bCc (kk11 : cF) : (fun (env : aW) (h : Hp) =>
 bnd (r 71 [(env 13)] (resv 1 h)) fun v1 h1 =>
 bnd (aC 2 (env 8) h1) fun v2 h2 =>
 bnd (aA v2 h2) fun v3 h3 =>
 cnd (bJ (aA v2 (resv 1 h)) v3 && true) (
 bnd (r 71 [v3] h3) fun v4 h4 =>
 bnd (bL (bW 0 h.next) [(aF 0), (aF 0), (aF 0), (aF 0), (aF 0), (aF 0)] 6 [(0, 1, (env 10)), (1, 1, (env 12)), (2, 1, v1), (3, 1, (env 19)), (4, 1, (aF 0)), (5, 1, v4)] h4) fun v5 h5 =>
 bnd (cJ v5 h5) fun v6 h6 =>
  yA r n kk11 (env 4) (env 5) (env 8) (env 9) (env 59) (env 60) (env 61) v5 v6 (aF 0) h6)) = (K11 (aGq r n kk11) 4 5 8 9 10 12 13 19 59 60 61) := by kernel_rfl
theorem cCq (kk11 : cF) : D40 r n aHa (xs (xs x0 3 (K1 (bH r n) 5)) 4 (K5 (bA r n kk11) 4 5 59 60 61)) (K5 (bA r n kk11) 4 5 59 60 61) = (K11 (aGq r n kk11) 4 5 8 9 10 12 13 19 59 60 61) :=
 (bHo r n kk11).trans
 ((bVw r n kk11).trans
 ((bIi r n kk11 (yA r n kk11) (bH r n) (bA r n kk11)).trans (bCc r n kk11)))
theorem bZd (kk11 : cF) : D40 r n aCm (xs (xs x0 3 (K1 (bH r n) 5)) 4 (K5 (bA r n kk11) 4 5 59 60 61)) (K5 (bA r n kk11) 4 5 59 60 61) = D40 r n bQi (xs (xs x0 3 (K1 (bH r n) 5)) 4 (K5 (bA r n kk11) 4 5 59 60 61)) (K11 (aGq r n kk11) 4 5 8 9 10 12 13 19 59 60 61) :=
 congrArg (fun k => D40 r n bQi (xs (xs x0 3 (K1 (bH r n) 5)) 4 (K5 (bA r n kk11) 4 5 59 60 61)) k) (cCq r n kk11)
theorem cAq (kk11 : cF) : D40 r n aCm (xs (xs x0 3 (K1 (bH r n) 5)) 4 (K5 (bA r n kk11) 4 5 59 60 61)) (K5 (bA r n kk11) 4 5 59 60 61) = (K11 (nZ r n kk11) 4 5 8 9 10 12 13 14 59 60 61) :=
 (bZd r n kk11).trans
 ((by kernel_rfl))
theorem bHl (kk11 : cF) : D40 r n aHm (xs (xs x0 3 (K1 (bH r n) 5)) 4 (K5 (bA r n kk11) 4 5 59 60 61)) (K5 (bA r n kk11) 4 5 59 60 61) = D40 r n aNf (xs (xs x0 3 (K1 (bH r n) 5)) 4 (K5 (bA r n kk11) 4 5 59 60 61)) (K11 (nZ r n kk11) 4 5 8 9 10 12 13 14 59 60 61) :=
 congrArg (fun k => D40 r n aNf (xs (xs x0 3 (K1 (bH r n) 5)) 4 (K5 (bA r n kk11) 4 5 59 60 61)) k) (cAq r n kk11)
theorem bHv (kk11 : cF) (q0 : dOi) (q1 : TT1) (q2 : cF) : D40 r n aNf (xs (xs x0 3 (K1 q1 5)) 4 (K5 q2 4 5 59 60 61)) (K11 q0 4 5 8 9 10 12 13 14 59 60 61) = fun (env : aW) (h : Hp) =>
 bnd (aD .eql (env 7) (aF 15) h) fun v1 h1 =>
 aT v1 (
 bnd (r 44 [(env 5), (.s [115, 101, 108, 101, 99, 116, 111, 114])] h1) fun v2 h2 =>
 bnd (aB 0 v2 h2) fun v3 h3 =>
 bnd (aB 1 v2 h3) fun v4 h4 =>
 bnd (r 44 [(env 5), (.s [97, 114, 103, 117, 109, 101, 110, 116, 115])] h4) fun v5 h5 =>
 bnd (aB 0 v5 h5) fun v6 h6 =>
 bnd (aB 1 v5 h6) fun v7 h7 =>
 bnd (aL [(aF 0), (aF 0)] 2 [(0, 1, v3), (1, 1, v6)] h7) fun v8 h8 =>
      q0 (env 4) (env 5) (env 8) (env 9) (env 10) (env 12) (aF 2) v8 (env 59) (env 60) (env 61) h8) (
      q0 (env 4) (env 5) (env 8) (env 9) (env 10) (env 12) (env 13) (env 14) (env 59) (env 60) (env 61) h1) := by kernel_rfl
theorem bFe (kk11 : cF) : (fun (env : aW) (h : Hp) =>
 bnd (aD .eql (env 7) (aF 15) h) fun v1 h1 =>
 aT v1 (
 bnd (r 44 [(env 5), (.s [115, 101, 108, 101, 99, 116, 111, 114])] h1) fun v2 h2 =>
 bnd (aB 0 v2 h2) fun v3 h3 =>
 bnd (aB 1 v2 h3) fun v4 h4 =>
 bnd (r 44 [(env 5), (.s [97, 114, 103, 117, 109, 101, 110, 116, 115])] h4) fun v5 h5 =>
 bnd (aB 0 v5 h5) fun v6 h6 =>
 bnd (aB 1 v5 h6) fun v7 h7 =>
 bnd (aL [(aF 0), (aF 0)] 2 [(0, 1, v3), (1, 1, v6)] h7) fun v8 h8 =>
      nZ r n kk11 (env 4) (env 5) (env 8) (env 9) (env 10) (env 12) (aF 2) v8 (env 59) (env 60) (env 61) h8) (
      nZ r n kk11 (env 4) (env 5) (env 8) (env 9) (env 10) (env 12) (env 13) (env 14) (env 59) (env 60) (env 61) h1)) = (K12 (wP r n kk11) 4 5 7 8 9 10 12 13 14 59 60 61) := by kernel_rfl
theorem cGb (kk11 : cF) : D40 r n aHm (xs (xs x0 3 (K1 (bH r n) 5)) 4 (K5 (bA r n kk11) 4 5 59 60 61)) (K5 (bA r n kk11) 4 5 59 60 61) = (K12 (wP r n kk11) 4 5 7 8 9 10 12 13 14 59 60 61) :=
 (bHl r n kk11).trans
 ((bHv r n kk11 (nZ r n kk11) (bH r n) (bA r n kk11)).trans (bFe r n kk11))
theorem bNb (kk11 : cF) : D40 r n aIg (xs (xs x0 3 (K1 (bH r n) 5)) 4 (K5 (bA r n kk11) 4 5 59 60 61)) (K5 (bA r n kk11) 4 5 59 60 61) = D40 r n bTe (xs (xs x0 3 (K1 (bH r n) 5)) 4 (K5 (bA r n kk11) 4 5 59 60 61)) (K12 (wP r n kk11) 4 5 7 8 9 10 12 13 14 59 60 61) :=
 congrArg (fun k => D40 r n bTe (xs (xs x0 3 (K1 (bH r n) 5)) 4 (K5 (bA r n kk11) 4 5 59 60 61)) k) (cGb r n kk11)
theorem cOk (kk11 : cF) : D40 r n aIg (xs (xs x0 3 (K1 (bH r n) 5)) 4 (K5 (bA r n kk11) 4 5 59 60 61)) (K5 (bA r n kk11) 4 5 59 60 61) = (K12 (aRu r n kk11) 4 5 7 8 9 10 12 13 14 59 60 61) :=
 (bNb r n kk11).trans
 ((by kernel_rfl))
theorem bEp (kk11 : cF) : D40 r n aCe (xs (xs x0 3 (K1 (bH r n) 5)) 4 (K5 (bA r n kk11) 4 5 59 60 61)) (K5 (bA r n kk11) 4 5 59 60 61) = D40 r n bJk (xs (xs x0 3 (K1 (bH r n) 5)) 4 (K5 (bA r n kk11) 4 5 59 60 61)) (K12 (aRu r n kk11) 4 5 7 8 9 10 12 13 14 59 60 61) :=
 congrArg (fun k => D40 r n bJk (xs (xs x0 3 (K1 (bH r n) 5)) 4 (K5 (bA r n kk11) 4 5 59 60 61)) k) (cOk r n kk11)
theorem cCi (kk11 : cF) : D40 r n aCe (xs (xs x0 3 (K1 (bH r n) 5)) 4 (K5 (bA r n kk11) 4 5 59 60 61)) (K5 (bA r n kk11) 4 5 59 60 61) = (K9 (aRx r n kk11) 4 5 7 8 9 10 59 60 61) :=
 (bEp r n kk11).trans
 ((by kernel_rfl))
theorem bCu (kk11 : cF) : D40 r n aDo (xs (xs x0 3 (K1 (bH r n) 5)) 4 (K5 (bA r n kk11) 4 5 59 60 61)) (K5 (bA r n kk11) 4 5 59 60 61) = D40 r n bJt (xs (xs x0 3 (K1 (bH r n) 5)) 4 (K5 (bA r n kk11) 4 5 59 60 61)) (K9 (aRx r n kk11) 4 5 7 8 9 10 59 60 61) :=
 congrArg (fun k => D40 r n bJt (xs (xs x0 3 (K1 (bH r n) 5)) 4 (K5 (bA r n kk11) 4 5 59 60 61)) k) (cCi r n kk11)
theorem cBd (kk11 : cF) : D40 r n aDo (xs (xs x0 3 (K1 (bH r n) 5)) 4 (K5 (bA r n kk11) 4 5 59 60 61)) (K5 (bA r n kk11) 4 5 59 60 61) = (K8 (aSs r n kk11) 4 5 7 8 9 59 60 61) :=
 (bCu r n kk11).trans
 ((by kernel_rfl))
theorem bDt (kk11 : cF) : D40 r n aGc (xs (xs x0 3 (K1 (bH r n) 5)) 4 (K5 (bA r n kk11) 4 5 59 60 61)) (K5 (bA r n kk11) 4 5 59 60 61) = D40 r n bJs (xs (xs x0 3 (K1 (bH r n) 5)) 4 (K5 (bA r n kk11) 4 5 59 60 61)) (K8 (aSs r n kk11) 4 5 7 8 9 59 60 61) :=
 congrArg (fun k => D40 r n bJs (xs (xs x0 3 (K1 (bH r n) 5)) 4 (K5 (bA r n kk11) 4 5 59 60 61)) k) (cBd r n kk11)
theorem cNd (kk11 : cF) : D40 r n aGc (xs (xs x0 3 (K1 (bH r n) 5)) 4 (K5 (bA r n kk11) 4 5 59 60 61)) (K5 (bA r n kk11) 4 5 59 60 61) = (K8 (aSd r n kk11) 4 5 7 8 9 59 60 61) :=
 (bDt r n kk11).trans
 ((by kernel_rfl))
theorem bCs (kk11 : cF) : D40 r n aFl (xs (xs x0 3 (K1 (bH r n) 5)) 4 (K5 (bA r n kk11) 4 5 59 60 61)) (K5 (bA r n kk11) 4 5 59 60 61) = D40 r n bPy (xs (xs x0 3 (K1 (bH r n) 5)) 4 (K5 (bA r n kk11) 4 5 59 60 61)) (K8 (aSd r n kk11) 4 5 7 8 9 59 60 61) :=
 congrArg (fun k => D40 r n bPy (xs (xs x0 3 (K1 (bH r n) 5)) 4 (K5 (bA r n kk11) 4 5 59 60 61)) k) (cNd r n kk11)
theorem cCc (kk11 : cF) : D40 r n aFl (xs (xs x0 3 (K1 (bH r n) 5)) 4 (K5 (bA r n kk11) 4 5 59 60 61)) (K5 (bA r n kk11) 4 5 59 60 61) = (K7 (wO r n kk11) 4 5 7 8 59 60 61) :=
 (bCs r n kk11).trans
 ((by kernel_rfl))
theorem bDc (kk11 : cF) : D40 r n aAu (xs x0 3 (K1 (bH r n) 5)) (K5 kk11 4 5 59 60 61) = D40 r n aDx (xs x0 3 (K1 (bH r n) 5)) (K5 (bA r n kk11) 4 5 59 60 61) :=
 congrArg (fun k => D40 r n aDx (xs x0 3 (K1 (bH r n) 5)) k) (cOe r n kk11)
theorem bEj (kk11 : cF) : D40 r n aGj (xs (xs x0 3 (K1 (bH r n) 5)) 4 (K5 (bA r n kk11) 4 5 59 60 61)) (K5 (bA r n kk11) 4 5 59 60 61) = D40 r n aQp (xs (xs x0 3 (K1 (bH r n) 5)) 4 (K5 (bA r n kk11) 4 5 59 60 61)) (K7 (wO r n kk11) 4 5 7 8 59 60 61) :=
 congrArg (fun k => D40 r n aQp (xs (xs x0 3 (K1 (bH r n) 5)) 4 (K5 (bA r n kk11) 4 5 59 60 61)) k) (cCc r n kk11)
theorem bFf (kk11 : cF) (q0 : TT7) (q1 : TT1) (q2 : cF) : D40 r n aQp (xs (xs x0 3 (K1 q1 5)) 4 (K5 q2 4 5 59 60 61)) (K7 q0 4 5 7 8 59 60 61) = fun (env : aW) (h : Hp) =>
 bnd (aJ 3 (env 59) (env 61) h) fun v1 h1 =>
 bnd (aK 3 v1 h1) fun v2 h2 =>
 bnd (bR [(.s []), (aF 0), (aF 0)] h2) fun v3 h3 =>
 bnd (aH 3 v3 v2 h3) fun _ h4 =>
  q0 (env 4) (env 5) (env 61) v3 (env 59) (env 60) (env 61) h4 := by kernel_rfl
theorem aQg (kk11 : cF) : (fun (env : aW) (h : Hp) =>
 bnd (aJ 3 (env 59) (env 61) h) fun v1 h1 =>
 bnd (aK 3 v1 h1) fun v2 h2 =>
 bnd (bR [(.s []), (aF 0), (aF 0)] h2) fun v3 h3 =>
 bnd (aH 3 v3 v2 h3) fun _ h4 =>
  wO r n kk11 (env 4) (env 5) (env 61) v3 (env 59) (env 60) (env 61) h4) = (K5 (aFk r n kk11) 4 5 59 60 61) := by kernel_rfl
theorem cIv (kk11 : cF) : D40 r n aAu (xs x0 3 (K1 (bH r n) 5)) (K5 kk11 4 5 59 60 61) = (K5 (aFk r n kk11) 4 5 59 60 61) :=
 (bDc r n kk11).trans
 ((by kernel_rfl : D40 r n aDx (xs x0 3 (K1 (bH r n) 5)) (K5 (bA r n kk11) 4 5 59 60 61) = D40 r n aGj (xs (xs x0 3 (K1 (bH r n) 5)) 4 (K5 (bA r n kk11) 4 5 59 60 61)) (K5 (bA r n kk11) 4 5 59 60 61)).trans
 ((bEj r n kk11).trans
 ((bFf r n kk11 (wO r n kk11) (bH r n) (bA r n kk11)).trans (aQg r n kk11))))
theorem bFb (kk11 : cF) : D40 r n aDb (xs x0 3 (K1 (bH r n) 5)) (K5 kk11 4 5 59 60 61) = D40 r n bZo (xs x0 3 (K1 (bH r n) 5)) (K5 (aFk r n kk11) 4 5 59 60 61) :=
 congrArg (fun k => D40 r n bZo (xs x0 3 (K1 (bH r n) 5)) k) (cIv r n kk11)
theorem cMf (kk11 : cF) : D40 r n aDb (xs x0 3 (K1 (bH r n) 5)) (K5 kk11 4 5 59 60 61) = (K6 (aOt r n kk11) 4 5 59 60 61 62) :=
 (bFb r n kk11).trans
 ((by kernel_rfl))
theorem bCd (kk11 : cF) : D40 r n jZ (xs x0 3 (K1 (bH r n) 5)) (K5 kk11 4 5 59 60 61) = D40 r n bWz (xs x0 3 (K1 (bH r n) 5)) (K6 (aOt r n kk11) 4 5 59 60 61 62) :=
 congrArg (fun k => D40 r n bWz (xs x0 3 (K1 (bH r n) 5)) k) (cMf r n kk11)
theorem bTh (kk11 : cF) : D40 r n jZ (xs x0 3 (K1 (bH r n) 5)) (K5 kk11 4 5 59 60 61) = (K5 (aXm r n kk11) 4 5 59 60 61) :=
 (bCd r n kk11).trans
 ((by kernel_rfl))
theorem bGn (m : Nat) : aR (fun kk => D40 r n jZ (xs x0 3 (K1 (bH r n) 5)) kk) m = (K5 (sQ r n m) 4 5 59 60 61) := by
 induction m with
 | zero => exact (by kernel_rfl : aR (fun kk => D40 r n jZ (xs x0 3 (K1 (bH r n) 5)) kk) 0 = (K5 (sQ r n 0) 4 5 59 60 61))
 | succ m ih =>
  refine (by kernel_rfl : aR (fun kk => D40 r n jZ (xs x0 3 (K1 (bH r n) 5)) kk) (m + 1) = D40 r n jZ (xs x0 3 (K1 (bH r n) 5)) (aR (fun kk => D40 r n jZ (xs x0 3 (K1 (bH r n) 5)) kk) m)).trans ?_
  rw [ih]
  exact (bTh r n (sQ r n m)).trans (by kernel_rfl)
theorem cCt : D40 r n aFc (xs x0 3 (K1 (bH r n) 5)) (K1 (bH r n) 5) = (K5 (bHr r n) 4 5 59 60 61) :=
 (by kernel_rfl : D40 r n aFc (xs x0 3 (K1 (bH r n) 5)) (K1 (bH r n) 5) = aR (fun kk => D40 r n jZ (xs x0 3 (K1 (bH r n) 5)) kk) n).trans ((bGn r n n).trans (by kernel_rfl))
theorem cHo : D40 r n aRz x0 (K1 (bH r n) 5) = (K5 (aRo r n) 4 5 59 60 61) :=
 (by kernel_rfl : D40 r n aRz x0 (K1 (bH r n) 5) = D40 r n aFc (xs x0 3 (K1 (bH r n) 5)) (K1 (bH r n) 5)).trans
 ((cCt r n).trans (by kernel_rfl))
theorem bVp : D40 r n aXn x0 r40 = D40 r n wG x0 (K1 (bH r n) 5) :=
 congrArg (fun k => D40 r n wG x0 k) (cVu r n)
theorem bPi : D40 r n wG x0 (K1 (bH r n) 5) = D40 r n cAc x0 (K5 (aRo r n) 4 5 59 60 61) :=
 congrArg (fun k => D40 r n cAc x0 k) (cHo r n)
theorem dEm : D40 r n aXn x0 r40 = (K2 (gO r n) 4 5) :=
 (bVp r n).trans
 ((bPi r n).trans
 ((by kernel_rfl)))
theorem bMz (kk27 : nB) : D40 r n oH (xs x0 1 (K2 (gO r n) 4 5)) (K3 kk27 4 5 43) = (K3 (aTl r n kk27) 4 5 43) :=
 (by kernel_rfl)
theorem bOj (m : Nat) : aR (fun kk => D40 r n oH (xs x0 1 (K2 (gO r n) 4 5)) kk) m = (K3 (uJ r n m) 4 5 43) := by
 induction m with
 | zero => exact (by kernel_rfl : aR (fun kk => D40 r n oH (xs x0 1 (K2 (gO r n) 4 5)) kk) 0 = (K3 (uJ r n 0) 4 5 43))
 | succ m ih =>
  refine (by kernel_rfl : aR (fun kk => D40 r n oH (xs x0 1 (K2 (gO r n) 4 5)) kk) (m + 1) = D40 r n oH (xs x0 1 (K2 (gO r n) 4 5)) (aR (fun kk => D40 r n oH (xs x0 1 (K2 (gO r n) 4 5)) kk) m)).trans ?_
  rw [ih]
  exact (bMz r n (uJ r n m)).trans (by kernel_rfl)
theorem cNv : D40 r n aFr (xs x0 1 (K2 (gO r n) 4 5)) (K2 (gO r n) 4 5) = (K3 (bRu r n) 4 5 43) :=
 (by kernel_rfl : D40 r n aFr (xs x0 1 (K2 (gO r n) 4 5)) (K2 (gO r n) 4 5) = aR (fun kk => D40 r n oH (xs x0 1 (K2 (gO r n) 4 5)) kk) n).trans ((bOj r n n).trans (by kernel_rfl))
theorem cBq : D40 r n aNt x0 (K2 (gO r n) 4 5) = (K3 (aRw r n) 4 5 43) :=
 (by kernel_rfl : D40 r n aNt x0 (K2 (gO r n) 4 5) = D40 r n aFr (xs x0 1 (K2 (gO r n) 4 5)) (K2 (gO r n) 4 5)).trans
 ((cNv r n).trans (by kernel_rfl))
theorem bPb : D40 r n aVm x0 r40 = D40 r n vD x0 (K2 (gO r n) 4 5) :=
 congrArg (fun k => D40 r n vD x0 k) (dEm r n)
theorem bRw : D40 r n vD x0 (K2 (gO r n) 4 5) = D40 r n bHc x0 (K3 (aRw r n) 4 5 43) :=
 congrArg (fun k => D40 r n bHc x0 k) (cBq r n)
theorem cVb : D40 r n aVm x0 r40 = (K2 (aKl r n) 4 5) :=
 (bPb r n).trans
 ((bRw r n).trans
 ((by kernel_rfl)))
theorem bOf : D40 r n aWk x0 r40 = D40 r n aNv x0 (K2 (aKl r n) 4 5) :=
 congrArg (fun k => D40 r n aNv x0 k) (cVb r n)
theorem bLc (q0 : rP) : D40 r n aNv x0 (K2 q0 4 5) = fun (env : aW) (h : Hp) =>
 bnd (cK 1 8 [(aF 0)] (aF 18) (aF 18) h) fun v1 h1 =>
 bnd (dY h1) fun v2 h2 =>
 bnd (dY h2) fun v3 h3 =>
 bnd (bD [.p0, .l0, .m0, .m0] [(0, 1, (env 4)), (1, 1, v1), (2, 1, v2), (3, 1, v3)] h3) fun v4 h4 =>
 bnd (bX v4 h4) fun v5 h5 =>
  q0 (env 4) v5 h5 := by kernel_rfl
theorem bDl : (fun (env : aW) (h : Hp) =>
 bnd (cK 1 8 [(aF 0)] (aF 18) (aF 18) h) fun v1 h1 =>
 bnd (dY h1) fun v2 h2 =>
 bnd (dY h2) fun v3 h3 =>
 bnd (bD [.p0, .l0, .m0, .m0] [(0, 1, (env 4)), (1, 1, v1), (2, 1, v2), (3, 1, v3)] h3) fun v4 h4 =>
 bnd (bX v4 h4) fun v5 h5 =>
  aKl r n (env 4) v5 h5) = (K1 (aWr r n) 4) := by kernel_rfl
theorem dCh : D40 r n aWk x0 r40 = (K1 (aWr r n) 4) :=
 (bOf r n).trans
 ((bLc r n (aKl r n)).trans (bDl r n))
theorem bPw : D40 r n aZt x0 r40 = D40 r n bNg x0 (K1 (aWr r n) 4) :=
 congrArg (fun k => D40 r n bNg x0 k) (dCh r n)
theorem cVn : D40 r n aZt x0 r40 = (K2 (cAe r n) 0 4) :=
 (bPw r n).trans
 ((by kernel_rfl))
theorem bHx : D40 r n bBl x0 r40 = D40 r n bOp x0 (K2 (cAe r n) 0 4) :=
 congrArg (fun k => D40 r n bOp x0 k) (cVn r n)
theorem dCv : D40 r n bBl x0 r40 = (K1 (bJi r n) 0) :=
 (bHx r n).trans
 ((by kernel_rfl))
theorem dAv : D40 r n c40 x0 r40 = D40 r n bOa x0 (K1 (bJi r n) 0) :=
 congrArg (fun k => D40 r n bOa x0 k) (dCv r n)
theorem dRg : D40 r n c40 x0 r40 = (K1 (s40 r n) 0) :=
 (dAv r n).trans
 ((by kernel_rfl))
theorem dMo : aE CF r n 40 args h = s40 r n (aS args 0) h :=
 (by kernel_rfl : aE CF r n 40 args h = D40 r n c40 x0 r40 (aG args) h).trans ((congrFun (congrFun (dRg r n) (aG args)) h).trans (by kernel_rfl))
noncomputable def s42 (r : RT) (n : Nat) (x0 x1 : DV) (h0 : Hp) : aI :=
 bnd (aD .lss x1 (.i .i64 (Int.negSucc 1152921504606846975)) h0) fun v1 h1 =>
 bnd (gD v1 false (some (x1, h1)) h1) fun v2 h2 =>
 bnd (gD v1 false (aD .gtr v2 (aF 1152921504606846976) h2) h2) fun v3 h3 =>
 bnd (aQ v1 (.b true) v3 h3) fun v4 h4 =>
 aT v4 (
 some (.t [(aF 0), (aF 2)], h4)) (
 bnd (gJ [x1] h4) fun v5 h5 =>
 bnd (aB 0 v5 h5) fun v6 h6 =>
 bnd (aB 1 v5 h6) fun v7 h7 =>
 aT v7 (
 some (.t [v6, (aF 0)], h7)) (
 bnd (r 30 [x0, (aF 8)] h7) fun v8 h8 =>
 bnd (aL [(aF 0)] 1 [(0, 1, x1)] h8) fun v9 h9 =>
 bnd (r 82 [x0, v8, (aF 1), v9] h9) fun v10 h10 =>
 bnd (aB 0 v10 h10) fun v11 h11 =>
 bnd (aB 1 v10 h11) fun v12 h12 =>
 some (.t [v11, v12], h12)))
noncomputable abbrev c42 : Code := cf Tryz.f42
noncomputable abbrev r42 : K := aP CF Tryz.f42
noncomputable def D42 (r : RT) (n : Nat) (c : Code) (X : Nat → K) (k : K) : K := aM CF r 29 n c X r42 k
theorem dRn : D42 r n c42 x0 r42 = (K2 (s42 r n) 0 1) :=
 (by kernel_rfl)
theorem cPy : aE CF r n 42 args h = s42 r n (aS args 0) (aS args 1) h :=
 (by kernel_rfl : aE CF r n 42 args h = D42 r n c42 x0 r42 (aG args) h).trans ((congrFun (congrFun (dRn r n) (aG args)) h).trans (by kernel_rfl))
noncomputable def s43 (r : RT) (n : Nat) (x0 x1 : DV) (h0 : Hp) : aI :=
 bnd (dV x1 h0) fun v1 h1 =>
 bnd (aD .gtr v1 (aF 250) h1) fun v2 h2 =>
 aT v2 (
 some (.t [(aF 0), (aF 1)], h2)) (
 bnd (r 30 [x0, (aF 10)] h2) fun v3 h3 =>
 bnd (r 83 [x0, v3, x1] h3) fun v4 h4 =>
 bnd (aB 0 v4 h4) fun v5 h5 =>
 bnd (aB 1 v4 h5) fun v6 h6 =>
 some (.t [v5, v6], h6))
noncomputable abbrev c43 : Code := cf Tryz.f43
noncomputable abbrev r43 : K := aP CF Tryz.f43
noncomputable def D43 (r : RT) (n : Nat) (c : Code) (X : Nat → K) (k : K) : K := aM CF r 16 n c X r43 k
theorem dQs : D43 r n c43 x0 r43 = (K2 (s43 r n) 0 1) :=
 (by kernel_rfl)
theorem cRu : aE CF r n 43 args h = s43 r n (aS args 0) (aS args 1) h :=
 (by kernel_rfl : aE CF r n 43 args h = D43 r n c43 x0 r43 (aG args) h).trans ((congrFun (congrFun (dQs r n) (aG args)) h).trans (by kernel_rfl))
noncomputable def s44 (r : RT) (n : Nat) (x0 x1 : DV) (h0 : Hp) : aI :=
 bnd (dV x1 h0) fun v1 h1 =>
 bnd (aD .lss v1 (aF 1) h1) fun v2 h2 =>
 bnd (gD v2 false (some (x1, h2)) h2) fun v3 h3 =>
 bnd (gD v2 false (dV v3 h3) h3) fun v4 h4 =>
 bnd (gD v2 false (aD .gtr v4 (aF 60) h4) h4) fun v5 h5 =>
 bnd (aQ v2 (.b true) v5 h5) fun v6 h6 =>
 aT v6 (
 some (.t [(aF 0), (aF 1)], h6)) (
 bnd (aO x0 h6) fun v7 h7 =>
 bnd (aC 2 v7 h7) fun v8 h8 =>
 bnd (aA v8 h8) fun v9 h9 =>
 bnd (dM .string (aF 0) false v9 x1 h9) fun v10 h10 =>
 bnd (aD .neq v10 (aF 0) h10) fun v11 h11 =>
 aT v11 (
 some (.t [v10, (aF 0)], h11)) (
 bnd (r 30 [x0, (aF 11)] h11) fun v12 h12 =>
 bnd (r 83 [x0, v12, x1] h12) fun v13 h13 =>
 bnd (aB 0 v13 h13) fun v14 h14 =>
 bnd (aB 1 v13 h14) fun v15 h15 =>
 bnd (aD .neq v15 (aF 0) h15) fun v16 h16 =>
 aT v16 (
 some (.t [(aF 0), v15], h16)) (
 bnd (aO x0 h16) fun v17 h17 =>
 bnd (aC 1 v17 h17) fun v18 h18 =>
 bnd (aA v18 h18) fun v19 h19 =>
 bnd (aJ 1 v19 (aF 0) h19) fun v20 h20 =>
 bnd (aA v20 h20) fun v21 h21 =>
 bnd (r 73 [x0, v14, v21] h21) fun v22 h22 =>
 bnd (aB 0 v22 h22) fun v23 h23 =>
 bnd (aB 1 v22 h23) fun v24 h24 =>
 bnd (aD .neq v24 (aF 0) h24) fun v25 h25 =>
 aT v25 (
 some (.t [(aF 0), v24], h25)) (
 bnd (aO x0 h25) fun v26 h26 =>
 bnd (aC 1 v26 h26) fun v27 h27 =>
 bnd (aA v27 h27) fun v28 h28 =>
 bnd (aO x0 h28) fun v29 h29 =>
 bnd (aC 2 v29 h29) fun v30 h30 =>
 bnd (aA v30 h30) fun v31 h31 =>
 bnd (aJ 1 v28 (aF 0) h31) fun v32 h32 =>
 bnd (aH 1 v32 v23 h32) fun v33 h33 =>
 bnd (fR .string (aF 0) v31 x1 h33) fun v34 h34 =>
 bnd (aB 1 v34 h34) fun v35 h35 =>
 bnd (eB v31 v35 v14 h35) fun v36 h36 =>
 some (.t [v14, (aF 0)], h36)))))
noncomputable abbrev c44 : Code := cf Tryz.f44
noncomputable abbrev r44 : K := aP CF Tryz.f44
noncomputable def D44 (r : RT) (n : Nat) (c : Code) (X : Nat → K) (k : K) : K := aM CF r 68 n c X r44 k
theorem dSh : D44 r n c44 x0 r44 = (K2 (s44 r n) 0 1) :=
 (by kernel_rfl)
theorem cRa : aE CF r n 44 args h = s44 r n (aS args 0) (aS args 1) h :=
 (by kernel_rfl : aE CF r n 44 args h = D44 r n c44 x0 r44 (aG args) h).trans ((congrFun (congrFun (dSh r n) (aG args)) h).trans (by kernel_rfl))
noncomputable def s45 (r : RT) (n : Nat) (x0 x1 : DV) (h0 : Hp) : aI :=
 bnd (aO x0 h0) fun v1 h1 =>
 bnd (aC 3 v1 h1) fun v2 h2 =>
 bnd (aA v2 h2) fun v3 h3 =>
 bnd (dM .string (aF 0) false v3 x1 h3) fun v4 h4 =>
 some (v4, h4)
noncomputable abbrev c45 : Code := cf Tryz.f45
noncomputable abbrev r45 : K := aP CF Tryz.f45
noncomputable def D45 (r : RT) (n : Nat) (c : Code) (X : Nat → K) (k : K) : K := aM CF r 11 n c X r45 k
theorem dPb : D45 r n c45 x0 r45 = (K2 (s45 r n) 0 1) :=
 (by kernel_rfl)
theorem cRg : aE CF r n 45 args h = s45 r n (aS args 0) (aS args 1) h :=
 (by kernel_rfl : aE CF r n 45 args h = D45 r n c45 x0 r45 (aG args) h).trans ((congrFun (congrFun (dPb r n) (aG args)) h).trans (by kernel_rfl))
noncomputable def s46 (r : RT) (n : Nat) (x0 x1 : DV) (h0 : Hp) : aI :=
 bnd (bX x0 h0) fun v1 h1 =>
 bnd (cJ x1 h1) fun v2 h2 =>
 bnd (aD .gtr v2 (aF 250) h2) fun v3 h3 =>
 bnd (gD v3 false (some (x1, h3)) h3) fun v4 h4 =>
 bnd (gD v3 false (some ((.f 84 [] [v1]), h4)) h4) fun v5 h5 =>
 bnd (gD v3 false (r 52 [v4, v5] h5) h5) fun v6 h6 =>
 bnd (aQ v3 (.b true) v6 h6) fun v7 h7 =>
 aT v7 (
 some (.t [(aF 0), (aF 1)], h7)) (
 bnd (aA v1 h7) fun v8 h8 =>
 bnd (aA v1 h8) fun v9 h9 =>
 bnd (r 30 [v9, (aF 9)] h9) fun v10 h10 =>
 cnd (bJ (aA v1 h10) v8 && true) (
 bnd (r 82 [v8, v10, (aF 0), x1] h10) fun v11 h11 =>
 bnd (aB 0 v11 h11) fun v12 h12 =>
 bnd (aB 1 v11 h12) fun v13 h13 =>
 some (.t [v12, v13], h13)))
noncomputable abbrev c46 : Code := cf Tryz.f46
noncomputable abbrev r46 : K := aP CF Tryz.f46
noncomputable def D46 (r : RT) (n : Nat) (c : Code) (X : Nat → K) (k : K) : K := aM CF r 21 n c X r46 k
theorem dTy : D46 r n c46 x0 r46 = (K2 (s46 r n) 0 1) :=
 (by kernel_rfl)
theorem cQi : aE CF r n 46 args h = s46 r n (aS args 0) (aS args 1) h :=
 (by kernel_rfl : aE CF r n 46 args h = D46 r n c46 x0 r46 (aG args) h).trans ((congrFun (congrFun (dTy r n) (aG args)) h).trans (by kernel_rfl))
noncomputable def s51 (r : RT) (n : Nat) (x0 x1 x2 : DV) (h0 : Hp) : aI :=
 bnd (aO x0 h0) fun v1 h1 =>
 bnd (aC 0 v1 h1) fun v2 h2 =>
 bnd (aA v2 h2) fun v3 h3 =>
 bnd (pF [v3, x1, x2] h3) fun v4 h4 =>
 bnd (aB 0 v4 h4) fun v5 h5 =>
 bnd (aB 1 v4 h5) fun v6 h6 =>
 some (v5, h6)
noncomputable abbrev c51 : Code := cf Tryz.f51
noncomputable abbrev r51 : K := aP CF Tryz.f51
noncomputable def D51 (r : RT) (n : Nat) (c : Code) (X : Nat → K) (k : K) : K := aM CF r 20 n c X r51 k
theorem dPa : D51 r n c51 x0 r51 = (K3 (s51 r n) 0 1 2) :=
 (by kernel_rfl)
theorem cQg : aE CF r n 51 args h = s51 r n (aS args 0) (aS args 1) (aS args 2) h :=
 (by kernel_rfl : aE CF r n 51 args h = D51 r n c51 x0 r51 (aG args) h).trans ((congrFun (congrFun (dPa r n) (aG args)) h).trans (by kernel_rfl))
noncomputable def s52 (r : RT) (n : Nat) (x0 x1 : DV) (h0 : Hp) : aI :=
 bnd (r 89 [x0, x1] h0) fun v1 h1 =>
 bnd (aD .geq v1 (aF 0) h1) fun v2 h2 =>
 some (v2, h2)
noncomputable abbrev c52 : Code := cf Tryz.f52
noncomputable abbrev r52 : K := aP CF Tryz.f52
noncomputable def D52 (r : RT) (n : Nat) (c : Code) (X : Nat → K) (k : K) : K := aM CF r 9 n c X r52 k
theorem dTc : D52 r n c52 x0 r52 = (K2 (s52 r n) 0 1) :=
 (by kernel_rfl)
theorem bOb : aE CF r n 52 args h = s52 r n (aS args 0) (aS args 1) h :=
 (by kernel_rfl : aE CF r n 52 args h = D52 r n c52 x0 r52 (aG args) h).trans ((congrFun (congrFun (dTc r n) (aG args)) h).trans (by kernel_rfl))
noncomputable def s53 (r : RT) (n : Nat) (x0 x1 : DV) (h0 : Hp) : aI :=
 bnd (aA x1 h0) fun v1 h1 =>
 bnd (aEo [v1, x0] h1) fun v2 h2 =>
 bnd (dR .not v2 h2) fun v3 h3 =>
 some (v3, h3)
noncomputable abbrev c53 : Code := cf Tryz.f53
noncomputable abbrev r53 : K := aP CF Tryz.f53
noncomputable def D53 (r : RT) (n : Nat) (c : Code) (X : Nat → K) (k : K) : K := aM CF r 8 n c X r53 k
theorem dTs : D53 r n c53 x0 r53 = (K2 (s53 r n) 0 1) :=
 (by kernel_rfl)
theorem cSh : aE CF r n 53 args h = s53 r n (aS args 0) (aS args 1) h :=
 (by kernel_rfl : aE CF r n 53 args h = D53 r n c53 x0 r53 (aG args) h).trans ((congrFun (congrFun (dTs r n) (aG args)) h).trans (by kernel_rfl))
noncomputable def s54 (r : RT) (n : Nat) (h0 : Hp) : aI :=
 some (.t [(aF 0), (aF 20)], h0)
noncomputable abbrev c54 : Code := cf Tryz.f54
noncomputable abbrev r54 : K := aP CF Tryz.f54
noncomputable def D54 (r : RT) (n : Nat) (c : Code) (X : Nat → K) (k : K) : K := aM CF r 2 n c X r54 k
theorem dPy : D54 r n c54 x0 r54 = (K0 (s54 r n)) :=
 (by kernel_rfl)
theorem bId : aE CF r n 54 args h = s54 r n h :=
 (by kernel_rfl : aE CF r n 54 args h = D54 r n c54 x0 r54 (aG args) h).trans ((congrFun (congrFun (dPy r n) (aG args)) h).trans (by kernel_rfl))
noncomputable def pJ (r : RT) (n : Nat) (x0 x4 x6 x8 : DV) (h0 : Hp) : aI :=
 bnd (fO CF r x8 [x4, x6] h0) fun v1 h1 =>
 bnd (aB 0 v1 h1) fun v2 h2 =>
 bnd (aB 1 v1 h2) fun v3 h3 =>
 bnd (aD .neq v3 (.i .i64 (Int.ofNat 0)) h3) fun v4 h4 =>
 aT v4 (
 bnd (r 54 [] h4) fun v5 h5 =>
 bnd (aB 0 v5 h5) fun v6 h6 =>
 bnd (aB 1 v5 h6) fun v7 h7 =>
 some (.t [v6, v7], h7)) (
 bnd (aO x0 h4) fun v8 h8 =>
 bnd (aC 0 v8 h8) fun v9 h9 =>
 bnd (aA v9 h9) fun v10 h10 =>
 bnd (r 42 [v10, v2] h10) fun v11 h11 =>
 bnd (aB 0 v11 h11) fun v12 h12 =>
 bnd (aB 1 v11 h12) fun v13 h13 =>
 some (.t [v12, v13], h13))
noncomputable def aMh (r : RT) (n : Nat) (x0 x4 x6 x8 : DV) (h0 : Hp) : aI :=
 bnd (aO x0 h0) fun v1 h1 =>
 bnd (aC 1 v1 h1) fun v2 h2 =>
 bnd (aA v2 h2) fun v3 h3 =>
 bnd (aD .eql v3 (.i .i64 (Int.ofNat 2)) h3) fun v4 h4 =>
 aT v4 (
  pJ r n x0 x4 x6 (.f 91 [] []) h4) (
 bnd (aD .eql v3 (.i .i64 (Int.ofNat 3)) h4) fun v5 h5 =>
 aT v5 (
   pJ r n x0 x4 x6 (.f 92 [] []) h5) (
 bnd (aD .eql v3 (.i .i64 (Int.ofNat 4)) h5) fun v6 h6 =>
 aT v6 (
    pJ r n x0 x4 x6 (.f 93 [] []) h6) (
 bnd (aD .eql v3 (.i .i64 (Int.ofNat 5)) h6) fun v7 h7 =>
 aT v7 (
     pJ r n x0 x4 x6 (.f 94 [] []) h7) (
 bnd (aD .eql v3 (.i .i64 (Int.ofNat 6)) h7) fun v8 h8 =>
 aT v8 (
 bnd (aD .lss x4 x6 h8) fun v9 h9 =>
 bnd (r 95 [v9] h9) fun v10 h10 =>
 bnd (aB 0 v10 h10) fun v11 h11 =>
 bnd (aB 1 v10 h11) fun v12 h12 =>
 some (.t [v11, v12], h12)) (
 bnd (aD .eql v3 (.i .i64 (Int.ofNat 7)) h8) fun v13 h13 =>
 aT v13 (
 bnd (aD .eql x4 x6 h13) fun v14 h14 =>
 bnd (r 95 [v14] h14) fun v15 h15 =>
 bnd (aB 0 v15 h15) fun v16 h16 =>
 bnd (aB 1 v15 h16) fun v17 h17 =>
 some (.t [v16, v17], h17)) (
       pJ r n x0 x4 x6 x8 h13))))))
noncomputable def zX (r : RT) (n : Nat) (x0 x4 x6 : DV) (h0 : Hp) : aI :=
 aMh r n x0 x4 x6 (.f 90 [] []) h0
noncomputable def bBy (r : RT) (n : Nat) (x0 x4 x5 x6 x7 : DV) (h0 : Hp) : aI :=
 bnd (dR .not x5 h0) fun v1 h1 =>
 bnd (gD v1 false (some (x7, h1)) h1) fun v2 h2 =>
 bnd (gD v1 false (dR .not v2 h2) h2) fun v3 h3 =>
 bnd (aQ v1 (.b true) v3 h3) fun v4 h4 =>
 aT v4 (
 bnd (r 54 [] h4) fun v5 h5 =>
 bnd (aB 0 v5 h5) fun v6 h6 =>
 bnd (aB 1 v5 h6) fun v7 h7 =>
 some (.t [v6, v7], h7)) (
  zX r n x0 x4 x6 h4)
noncomputable def aUp (r : RT) (n : Nat) (x0 x4 x5 : DV) (h0 : Hp) : aI :=
 bnd (aO x0 h0) fun v1 h1 =>
 bnd (aC 0 v1 h1) fun v2 h2 =>
 bnd (aA v2 h2) fun v3 h3 =>
 bnd (aO x0 h3) fun v4 h4 =>
 bnd (aC 3 v4 h4) fun v5 h5 =>
 bnd (aA v5 h5) fun v6 h6 =>
 bnd (aJ 1 v6 (.i .i64 (Int.ofNat 0)) h6) fun v7 h7 =>
 bnd (aA v7 h7) fun v8 h8 =>
 bnd (r 15 [v3, v8] h8) fun v9 h9 =>
 bnd (aB 0 v9 h9) fun v10 h10 =>
 bnd (aB 1 v9 h10) fun v11 h11 =>
  bBy r n x0 x4 x5 v10 v11 h11
noncomputable def aZs (r : RT) (n : Nat) (x0 : DV) (h0 : Hp) : aI :=
 bnd (aO x0 h0) fun v1 h1 =>
 bnd (aC 0 v1 h1) fun v2 h2 =>
 bnd (aA v2 h2) fun v3 h3 =>
 bnd (aO x0 h3) fun v4 h4 =>
 bnd (aC 2 v4 h4) fun v5 h5 =>
 bnd (aA v5 h5) fun v6 h6 =>
 bnd (r 15 [v3, v6] h6) fun v7 h7 =>
 bnd (aB 0 v7 h7) fun v8 h8 =>
 bnd (aB 1 v7 h8) fun v9 h9 =>
  aUp r n x0 v8 v9 h9
noncomputable def s55 (r : RT) (n : Nat) (x0 : DV) (h0 : Hp) : aI :=
 aZs r n x0 h0
noncomputable abbrev c55 : Code := cf Tryz.f55
noncomputable abbrev bAa : Code := cR c55
noncomputable abbrev aZr : Code := cR bAa
noncomputable abbrev aVt : Code := cR aZr
noncomputable abbrev aTr : Code := cR aVt
noncomputable abbrev aWi : Code := cR aTr
noncomputable abbrev dKi : Code := cR aWi
noncomputable abbrev cQq : Code := cL aWi
noncomputable abbrev cQy : Code := cL aTr
noncomputable abbrev cQn : Code := cL aVt
noncomputable abbrev bLh : Code := cL aZr
noncomputable abbrev bYn : Code := cL bAa
noncomputable abbrev bMf : Code := cL c55
noncomputable abbrev r55 : K := aP CF Tryz.f55
noncomputable def D55 (r : RT) (n : Nat) (c : Code) (X : Nat → K) (k : K) : K := aM CF r 94 n c X r55 k
theorem cZn : D55 r n dKi x0 r55 = (K4 (pJ r n) 0 4 6 8) :=
 (by kernel_rfl)
theorem cMm : D55 r n aWi x0 r55 = D55 r n cQq x0 (K4 (pJ r n) 0 4 6 8) :=
 congrArg (fun k => D55 r n cQq x0 k) (cZn r n)
theorem dCj : D55 r n aWi x0 r55 = (K4 (aMh r n) 0 4 6 8) :=
 (cMm r n).trans
 ((by kernel_rfl))
theorem cOf : D55 r n aTr x0 r55 = D55 r n cQy x0 (K4 (aMh r n) 0 4 6 8) :=
 congrArg (fun k => D55 r n cQy x0 k) (dCj r n)
theorem dDq : D55 r n aTr x0 r55 = (K3 (zX r n) 0 4 6) :=
 (cOf r n).trans
 ((by kernel_rfl))
theorem cMl : D55 r n aVt x0 r55 = D55 r n cQn x0 (K3 (zX r n) 0 4 6) :=
 congrArg (fun k => D55 r n cQn x0 k) (dDq r n)
theorem cVi : D55 r n aVt x0 r55 = (K5 (bBy r n) 0 4 5 6 7) :=
 (cMl r n).trans
 ((by kernel_rfl))
theorem cHt : D55 r n aZr x0 r55 = D55 r n bLh x0 (K5 (bBy r n) 0 4 5 6 7) :=
 congrArg (fun k => D55 r n bLh x0 k) (cVi r n)
theorem dCs : D55 r n aZr x0 r55 = (K3 (aUp r n) 0 4 5) :=
 (cHt r n).trans
 ((by kernel_rfl))
theorem cOj : D55 r n bAa x0 r55 = D55 r n bYn x0 (K3 (aUp r n) 0 4 5) :=
 congrArg (fun k => D55 r n bYn x0 k) (dCs r n)
theorem cYb : D55 r n bAa x0 r55 = (K1 (aZs r n) 0) :=
 (cOj r n).trans
 ((by kernel_rfl))
theorem dHd : D55 r n c55 x0 r55 = D55 r n bMf x0 (K1 (aZs r n) 0) :=
 congrArg (fun k => D55 r n bMf x0 k) (cYb r n)
theorem dQc : D55 r n c55 x0 r55 = (K1 (s55 r n) 0) :=
 (dHd r n).trans
 ((by kernel_rfl))
theorem cQt : aE CF r n 55 args h = s55 r n (aS args 0) h :=
 (by kernel_rfl : aE CF r n 55 args h = D55 r n c55 x0 r55 (aG args) h).trans ((congrFun (congrFun (dQc r n) (aG args)) h).trans (by kernel_rfl))
noncomputable def s56 (r : RT) (n : Nat) (x0 : DV) (h0 : Hp) : aI :=
 bnd (aO x0 h0) fun v1 h1 =>
 bnd (aC 1 v1 h1) fun v2 h2 =>
 bnd (aA v2 h2) fun v3 h3 =>
 bnd (aD .eql v3 (.i .i64 (Int.ofNat 10)) h3) fun v4 h4 =>
 aT v4 (
 bnd (aO x0 h4) fun v5 h5 =>
 bnd (aC 2 v5 h5) fun v6 h6 =>
 bnd (aA v6 h6) fun v7 h7 =>
 bnd (aO x0 h7) fun v8 h8 =>
 bnd (aC 3 v8 h8) fun v9 h9 =>
 bnd (aA v9 h9) fun v10 h10 =>
 bnd (aJ 1 v10 (.i .i64 (Int.ofNat 0)) h10) fun v11 h11 =>
 bnd (aA v11 h11) fun v12 h12 =>
 bnd (aD .eql v7 v12 h12) fun v13 h13 =>
 bnd (r 95 [v13] h13) fun v14 h14 =>
 bnd (aB 0 v14 h14) fun v15 h15 =>
 bnd (aB 1 v14 h15) fun v16 h16 =>
 some (.t [v15, v16], h16)) (
 bnd (aO x0 h4) fun v17 h17 =>
 bnd (aC 0 v17 h17) fun v18 h18 =>
 bnd (aA v18 h18) fun v19 h19 =>
 bnd (aO x0 h19) fun v20 h20 =>
 bnd (aC 2 v20 h20) fun v21 h21 =>
 bnd (aA v21 h21) fun v22 h22 =>
 bnd (r 25 [v19, v22] h22) fun v23 h23 =>
 some (.t [v23, (.i .i64 (Int.ofNat 0))], h23))
noncomputable abbrev c56 : Code := cf Tryz.f56
noncomputable abbrev r56 : K := aP CF Tryz.f56
noncomputable def D56 (r : RT) (n : Nat) (c : Code) (X : Nat → K) (k : K) : K := aM CF r 32 n c X r56 k
theorem dQe : D56 r n c56 x0 r56 = (K1 (s56 r n) 0) :=
 (by kernel_rfl)
theorem dOk : aE CF r n 56 args h = s56 r n (aS args 0) h :=
 (by kernel_rfl : aE CF r n 56 args h = D56 r n c56 x0 r56 (aG args) h).trans ((congrFun (congrFun (dQe r n) (aG args)) h).trans (by kernel_rfl))
noncomputable def s57 (r : RT) (n : Nat) (x0 : DV) (h0 : Hp) : aI :=
 bnd (aO x0 h0) fun v1 h1 =>
 bnd (aC 0 v1 h1) fun v2 h2 =>
 bnd (aA v2 h2) fun v3 h3 =>
 bnd (r 23 [v3] h3) fun v4 h4 =>
 bnd (aL [(.i .i64 (Int.ofNat 0)), (.i .i64 (Int.ofNat 0)), (.i .i64 (Int.ofNat 0))] 3 [(0, 1, (.i .i64 (Int.ofNat 9))), (1, 1, (.i .i64 (Int.ofNat 10))), (2, 1, (.i .i64 (Int.ofNat 11)))] h4) fun v5 h5 =>
 bnd (r 96 [x0, v5] h5) fun v6 h6 =>
 bnd (dR .not v6 h6) fun v7 h7 =>
 aT v7 (
 bnd (r 54 [] h7) fun v8 h8 =>
 bnd (aB 0 v8 h8) fun v9 h9 =>
 bnd (aB 1 v8 h9) fun v10 h10 =>
 some (.t [v9, v10], h10)) (
 bnd (aO x0 h7) fun v11 h11 =>
 bnd (aC 1 v11 h11) fun v12 h12 =>
 bnd (aA v12 h12) fun v13 h13 =>
 bnd (aD .eql v13 (.i .i64 (Int.ofNat 22)) h13) fun v14 h14 =>
 aT v14 (
 bnd (aO x0 h14) fun v15 h15 =>
 bnd (aC 0 v15 h15) fun v16 h16 =>
 bnd (aA v16 h16) fun v17 h17 =>
 bnd (aO x0 h17) fun v18 h18 =>
 bnd (aC 2 v18 h18) fun v19 h19 =>
 bnd (aA v19 h19) fun v20 h20 =>
 bnd (fZ [v4, v20] h20) fun v21 h21 =>
 cnd (bJ (aA v16 h21) v17 && true) (
 bnd (r 42 [v17, v21] h21) fun v22 h22 =>
 bnd (aB 0 v22 h22) fun v23 h23 =>
 bnd (aB 1 v22 h23) fun v24 h24 =>
 some (.t [v23, v24], h24))) (
 bnd (r 97 [x0] h14) fun v25 h25 =>
 bnd (aB 0 v25 h25) fun v26 h26 =>
 bnd (aB 1 v25 h26) fun v27 h27 =>
 bnd (dR .not v27 h27) fun v28 h28 =>
 aT v28 (
 bnd (r 54 [] h28) fun v29 h29 =>
 bnd (aB 0 v29 h29) fun v30 h30 =>
 bnd (aB 1 v29 h30) fun v31 h31 =>
 some (.t [v30, v31], h31)) (
 bnd (aO x0 h28) fun v32 h32 =>
 bnd (aC 1 v32 h32) fun v33 h33 =>
 bnd (aA v33 h33) fun v34 h34 =>
 bnd (aD .eql v34 (.i .i64 (Int.ofNat 21)) h34) fun v35 h35 =>
 aT v35 (
 bnd (r 98 [x0, v26] h35) fun v36 h36 =>
 bnd (aB 0 v36 h36) fun v37 h37 =>
 bnd (aB 1 v36 h37) fun v38 h38 =>
 some (.t [v37, v38], h38)) (
 bnd (aO x0 h35) fun v39 h39 =>
 bnd (aC 2 v39 h39) fun v40 h40 =>
 bnd (aA v40 h40) fun v41 h41 =>
 bnd (pF [v4, v41, v26] h41) fun v42 h42 =>
 bnd (aB 0 v42 h42) fun v43 h43 =>
 bnd (aB 1 v42 h43) fun v44 h44 =>
 bnd (aL [(.i .i64 (Int.ofNat 0))] 1 [(0, 1, (.i .i64 (Int.ofNat 9)))] h44) fun v45 h45 =>
 bnd (r 96 [x0, v45] h45) fun v46 h46 =>
 aT v46 (
 some (.t [v43, (.i .i64 (Int.ofNat 0))], h46)) (
 bnd (aO x0 h46) fun v47 h47 =>
 bnd (aC 0 v47 h47) fun v48 h48 =>
 bnd (aA v48 h48) fun v49 h49 =>
 bnd (r 42 [v49, v43] h49) fun v50 h50 =>
 bnd (aB 0 v50 h50) fun v51 h51 =>
 bnd (aB 1 v50 h51) fun v52 h52 =>
 some (.t [v51, v52], h52))))))
noncomputable abbrev c57 : Code := cf Tryz.f57
noncomputable abbrev r57 : K := aP CF Tryz.f57
noncomputable def D57 (r : RT) (n : Nat) (c : Code) (X : Nat → K) (k : K) : K := aM CF r 83 n c X r57 k
theorem dUa : D57 r n c57 x0 r57 = (K1 (s57 r n) 0) :=
 (by kernel_rfl)
theorem dLm : aE CF r n 57 args h = s57 r n (aS args 0) h :=
 (by kernel_rfl : aE CF r n 57 args h = D57 r n c57 x0 r57 (aG args) h).trans ((congrFun (congrFun (dUa r n) (aG args)) h).trans (by kernel_rfl))
end Go.Dd

