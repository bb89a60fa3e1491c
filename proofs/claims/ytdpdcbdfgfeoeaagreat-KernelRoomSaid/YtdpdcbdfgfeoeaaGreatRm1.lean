/- A part of the proof: N O CH RF1 RF2 RF3 RF4 RF5 RF6 RF7 SM SN RS RG MF MG Qh Q0 Q1: each text has a comment of its own. -/
import Derived.Test.YtdpdcbdfgfeoeaaGreatRm0
import Derived.LoopN
import Derived.Scope
import Derived.OrdersIn
import Derived.LoopNIn
import Derived.LoopIn
import Derived.RangeFuncIn
import Derived.RangeFuncCalls
import Derived.RangeFuncLeaves
import Derived.Test.YtdpdcbdfgfeoeaaGreatProg
import Derived.KernelRfl
set_option linter.unusedVariables false
set_option linter.unusedSimpArgs false
set_option linter.constructorNameAsVariable false
set_option maxRecDepth 100000
namespace Go.Dd
open Go.RowKit (Below)
section
variable {C : Cfg} {G : Gd} {rec : FuncId → List DV → Hp → aH} {ops : Array Oper} {nt : Nat} {p0 : Pos}
theorem sG {listed : Array Bool} {i : Nat} : i ∈ Region.ready .any ops listed ↔ i < ops.size ∧ listed.getD i true = false ∧ ∃ o, ops[i]? = some o ∧ ∀ e ∈ o.after, Region.binds .any e = true → listed.getD e.on false = true := by
 unfold Region.ready
 rw [List.mem_filter]
 simp only [List.mem_range, Bool.and_eq_true, Bool.not_eq_eq_eq_not, Bool.not_true]
 constructor
 ·rintro ⟨h1, h2, h3⟩
  refine ⟨h1, h2, ops[i], by simp [h1], fun e he hb => ?_⟩
  simp only [h1, getElem?_pos, Option.map_some, Option.getD_some] at h3
  have := (Array.all_eq_true_iff_forall_mem.1 h3) e he
  simpa [hb] using this
 ·rintro ⟨h1, h2, o, ho, h3⟩
  refine ⟨h1, h2, ?_⟩
  simp only [ho, Option.map_some, Option.getD_some]
  refine Array.all_eq_true_iff_forall_mem.2 fun e he => ?_
  cases hb : Region.binds .any e with
  | false => simp
  | true => simp [h3 e he hb]
noncomputable def idp (C : Cfg) (ops : Array Oper) (p0 : Pos) (p : Nat) : Pos := bB (cB C.P (ops.toList.take p)) p0
structure Tr1 (C : Cfg) (rec : FuncId → List DV → Hp → aH) (ops : Array Oper) (nt : Nat) (p0 : Pos) (E : Nat → aO) (Hh : Nat → Hp) (V : Nat → DV) : Prop where
 ok : eL C.P ops = true
 st : ∀ p o, ops[p]? = some o → StepT C rec ops (Region.before ops) nt (idp C ops p0 p) E Hh V 0 [(none, Hh 0)] p o
theorem Tr1.same {E : Nat → aO} {Hh : Nat → Hp} {V : Nat → DV} (T : Tr1 C rec ops nt p0 E Hh V) {p : Nat} {o : Oper} (ho : ops[p]? = some o) (hc : bS C.P o.op ≠ .acts) (hm : bS C.P o.op ≠ .makes) : Hh (p + 1) = Hh p := by
 have hs := (T.st p o ho).step hm
 cases hcl : bS C.P o.op with
 | pure => exact (qT hcl _ _ _ hs).1
 | reads => exact oA hcl hs
 | makes => exact absurd hcl hm
 | acts => exact absurd hcl hc
def dPf (C : Cfg) (ops : Array Oper) (q : Nat) : Prop := q = 0 ∨ ∃ j oj, ops[j]? = some oj ∧ bS C.P oj.op = .acts ∧ q = j + 1
theorem oW {m : Array Nat} {i q : Nat} {Pv : Hp → Prop} {Hh : Nat → Hp} {tl : List (Option Nat × Hp)} : ∀ d, q ≤ d → sC m i Pv (iX C ops Hh 0 d ++ tl) →
  (∀ j oj, ops[j]? = some oj → bS C.P oj.op = .acts → q ≤ j → j < d → ¬ gM m j i = true) → sC m i Pv (iX C ops Hh 0 q ++ tl)
 | 0, hq, hc, _ => by have : q = 0 := by omega
                      subst this; exact hc
 | d + 1, hq, hc, hno => by
  by_cases e : q = d + 1
  ·subst e; exact hc
  ·have hq' : q ≤ d := by omega
   simp only [iX, Nat.zero_add] at hc
   cases ha : jK C ops d with
   | false =>
    rw [ha] at hc
    simp only [Bool.false_eq_true, if_false, List.nil_append] at hc
    exact oW d hq' hc fun j oj h1 h2 h3 h4 => hno j oj h1 h2 h3 (by omega)
   | true =>
    rw [ha] at hc
    simp only [if_true, List.cons_append, List.nil_append] at hc
    obtain ⟨_, h2⟩ := hc
    have ⟨oj, hoj, hcj⟩ : ∃ oj, ops[d]? = some oj ∧ bS C.P oj.op = .acts := by
     unfold jK at ha
     split at ha
     ·rename_i o ho; exact ⟨o, ho, by simpa using ha⟩
     ·cases ha
    rcases h2 with h2 | h2
    ·exact absurd h2 (hno d oj hoj hcj hq' (by omega))
    ·exact oW d hq' h2 fun j oj h1 h2 h3 h4 => hno j oj h1 h2 h3 (by omega)
theorem Tr1.value {E : Nat → aO} {Hh : Nat → Hp} {V : Nat → DV} (T : Tr1 C rec ops nt p0 E Hh V) {listed : Array Bool} {i q : Nat} {o : Oper} (ho : ops[i]? = some o) (hc : bS C.P o.op ≠ .acts) (hm : bS C.P o.op ≠ .makes)
  (hq : dPf C ops q) (hgap : ∀ j oj, ops[j]? = some oj → bS C.P oj.op = .acts → (j < q ↔ S listed j))
  (hni : ¬ S listed i) (hdown : ∀ j x, gM (Region.before ops) j x = true → S listed x → S listed j) (hpre : ∀ j, gM (Region.before ops) j i = true → S listed j) :
  bL C rec ops o (E i) (Hh q) = some (V i, Hh q) := by
 have hst := T.st i o ho
 cases hcl : bS C.P o.op with
 | acts => exact absurd hcl hc
 | makes => exact absurd hcl hm
 | pure => exact (qT hcl _ _ _ (hst.step hm)).2 _
 | reads =>
  rcases Nat.lt_or_ge i q with h | h
  ·rcases hq with rfl | ⟨j, oj, hj, haj, rfl⟩
   ·omega
   ·have hSj : S listed j := (hgap j oj hj haj).1 (by omega)
    have hij : i ≠ j := fun e => by subst e; exact hni hSj
    rcases (T.st j oj hj).acts haj i o (Nat.zero_le _) (by omega) ho hcl with h3 | h3
    ·exact absurd (hdown i j h3 hSj) hni
    ·exact sK hcl h3
  ·have h1 := hst.reads hcl
   rw [Nat.sub_zero] at h1
   have h2 := oW (q := q) i h h1 fun j oj hj haj hqj hji hord => by
    have := (hgap j oj hj haj).2 (hpre j hord)
    omega
   rcases hq with rfl | ⟨j, oj, hj, haj, rfl⟩
   ·exact h2.1
   ·simp only [iX, Nat.zero_add, (bJy hj).2 haj, if_true, List.cons_append, List.nil_append] at h2
    exact h2.1
theorem dDk {listed : Array Bool} {i j : Nat} (hi : i < listed.size) : S (listed.setIfInBounds i true) j ↔ (j = i ∨ S listed j) := by
 unfold S
 by_cases e : j = i
 ·subst e; simp [hi]
 ·simp [Array.getElem?_setIfInBounds_ne (Ne.symm e), e]
theorem sF {listed : Array Bool} {i : Nat} (hi : i < listed.size) : listed.getD i true = listed.getD i false := by
 simp [hi]
theorem dOy {V : Nat → DV} {env : aO} {listed : Array Bool} {i : Nat} {o : Oper} (ho : ops[i]? = some o) (hi : i < listed.size) (hni : ¬ S listed i) (t : Nat)
  (hlast : ∀ j oj, i < j → ops[j]? = some oj → oj.dst = some t → o.dst = some t → ¬ S listed j) :
  ∀ p, i < p → TS ops V env (listed.setIfInBounds i true) p t = if o.dst = some t then V i else TS ops V env listed p t := by
 have hbefore : ∀ p, p ≤ i → TS ops V env (listed.setIfInBounds i true) p = TS ops V env listed p := by
  intro p
  induction p with
  | zero => intro _; rfl
  | succ p ih =>
   intro h
   have e : (listed.setIfInBounds i true).getD p false = listed.getD p false := by simp [Array.getElem?_setIfInBounds_ne (show i ≠ p by omega)]
   simp only [TS, ih (by omega), e]
 intro p
 induction p with
 | zero => intro h; omega
 | succ p ih =>
  intro h
  by_cases hpi : p = i
  ·subst hpi
   have e1 : (listed.setIfInBounds p true).getD p false = true := by simp [hi]
   have e2 : ¬ listed.getD p false = true := hni
   simp only [TS, ho, hbefore p (Nat.le_refl _), e1, if_true, lL]
   rw [if_neg e2]
  ·have ih' := ih (by omega)
   have e : (listed.setIfInBounds i true).getD p false = listed.getD p false := by simp [Array.getElem?_setIfInBounds_ne (Ne.symm hpi)]
   cases hop : ops[p]? with
   | none => simp only [TS, hop]; exact ih'
   | some op =>
    simp only [TS, hop, e]
    split
    ·rename_i hl
     rw [lL, lL, ih']
     by_cases hd : op.dst = some t
     ·rw [if_pos hd, if_pos hd]
      by_cases hod : o.dst = some t
      ·exact absurd hl (hlast p op (by omega) hop hd hod)
      ·rw [if_neg hod]
     ·rw [if_neg hd, if_neg hd]
    ·exact ih'
def iV (C : Cfg) (ops : Array Oper) (listed : Array Bool) (q i : Nat) : Prop := ∃ o, ops[i]? = some o ∧ bS C.P o.op = .makes ∧ S listed i ∧ q ≤ i
def GX (G : Gd) (N : Nat) (C : Cfg) (ops : Array Oper) (listed : Array Bool) (R : Nat → Nat) (q : Nat) : Gd := ⟨G.B, fun k => G.X k ∨ ∃ i, iV C ops listed q i ∧ R i = k, N, G.W, G.ok⟩
structure Made (G : Gd) (C : Cfg) (ops : Array Oper) (p0 : Pos) (Hh : Nat → Hp) (ρ : cI) (w : World) (R : Nat → Nat) (i : Nat) : Prop where
 name : ρ (idp C ops p0 i) = some ⟨R i, 0, 0, none⟩
 low : G.B ≤ R i
 ex : ¬ G.X (R i)
 row : ∃ (x0 : Obj) (ob : Ob), w.heap[R i]? = some x0 ∧ MO ρ ob x0 ∧ Hh (i + 1) = ⟨(Hh i).next, Tr.set ob (idp C ops p0 i) (Hh i).bl⟩
theorem aPm {E : Nat → aO} {Hh : Nat → Hp} {V : Nat → DV} (T : Tr1 C rec ops nt p0 E Hh V) {listed : Array Bool} {R : Nat → Nat} {N q : Nat} {ρ : cI} {w : World}
  (hmade : ∀ i, iV C ops listed q i → Made G C ops p0 Hh ρ w R i) (hdist : ∀ i i', iV C ops listed q i → iV C ops listed q i' → R i = R i' → i = i') :
  ∀ p, q ≤ p → p ≤ ops.size → (∀ j oj, ops[j]? = some oj → q ≤ j → j < p → bS C.P oj.op ≠ .acts ∧ (bS C.P oj.op = .makes → S listed j)) →
  HR (GX G N C ops listed R q) ρ (Hh q) w → HR (GX G N C ops listed R p) ρ (Hh p) w := by
 intro p
 induction p with
 | zero => intro h1 _ _ H; have : q = 0 := by omega
           subst this; exact H
 | succ p ih =>
  intro h1 h2 hr H
  by_cases e : q = p + 1
  ·subst e; exact H
  ·have H' := ih (by omega) (by omega) (fun j oj hj hq hjp => hr j oj hj hq (by omega)) H
   obtain ⟨o, ho⟩ : ∃ o, ops[p]? = some o := ⟨ops[p], by simp [show p < ops.size by omega]⟩
   obtain ⟨ha, hm⟩ := hr p o ho (by omega) (by omega)
   have hsub : ∀ k, (GX G N C ops listed R (p + 1)).X k → (GX G N C ops listed R p).X k := by
    rintro k (hk | ⟨i, ⟨oi, h3, h4, h5, h6⟩, h7⟩)
    ·exact .inl hk
    ·exact .inr ⟨i, ⟨oi, h3, h4, h5, by omega⟩, h7⟩
   by_cases hmk : bS C.P o.op = .makes
   ·have hE : iV C ops listed q p := ⟨o, ho, hmk, hm hmk, by omega⟩
    have hM := hmade p hE
    obtain ⟨x0, ob, r1, r2, r3⟩ := hM.row
    rw [r3]
    refine eFg (G := GX G N C ops listed R (p + 1)) H' rfl hsub (Nat.le_refl _) rfl hM.name r1 r2 hM.low ?_ (.inr ⟨p, ⟨o, ho, hmk, hm hmk, Nat.le_refl _⟩, rfl⟩)
    rintro (hk | ⟨i, ⟨oi, h3, h4, h5, h6⟩, h7⟩)
    ·exact hM.ex hk
    ·have := hdist i p ⟨oi, h3, h4, h5, by omega⟩ hE h7
     omega
   ·rw [T.same ho ha hmk]
    exact H'.weak rfl hsub (Nat.le_refl _) rfl
def Inv (DD : List Deferred) (C : Cfg) (G : Gd) (ops : Array Oper) (nt : Nat) (p0 : Pos) (N : Nat) (E : Nat → aO) (Hh : Nat → Hp) (V : Nat → DV) (ρ : cI) (w0 : World) (listed : Array Bool) (a : Act) (w : World) : Prop :=
 listed.size = ops.size ∧ (∀ j x, gM (Region.before ops) j x = true → S listed x → S listed j) ∧
 ∃ q, q ≤ ops.size ∧ dPf C ops q ∧ (∀ j oj, ops[j]? = some oj → bS C.P oj.op = .acts → (j < q ↔ S listed j)) ∧
 ∃ (ρ' : cI) (R : Nat → Nat), Ex G ρ ρ' ∧ HR (GX G N C ops listed R q) ρ' (Hh q) w ∧ EnvR ρ' (TS ops V (E 0) listed ops.size) a ∧ Kp G w0 w ∧ nt ≤ a.tmps.size ∧ a.defers = DD ∧
  (∀ i o, ops[i]? = some o → bS C.P o.op = .makes → ¬ S listed i → ρ' (idp C ops p0 i) = none) ∧
  (∀ i, iV C ops listed q i → Made G C ops p0 Hh ρ' w R i) ∧ (∀ i i', iV C ops listed q i → iV C ops listed q i' → R i = R i' → i = i')
theorem cFk {i : Nat} {o : Oper} (ho : ops[i]? = some o) (hm : bS C.P o.op = .makes) : (idp C ops p0 i).toNat < p0.toNat + cB C.P ops.toList := by
 unfold idp
 rw [dH]
 have hlt : i < ops.toList.length := by
  rcases Nat.lt_or_ge i ops.toList.length with h | h
  ·exact h
  ·simp at h; simp [Array.getElem?_eq_none h] at ho
 have key : ∀ (l : List Oper) (i : Nat), l[i]? = some o → cB C.P (l.take i) < cB C.P l := by
  intro l
  induction l with
  | nil => intro i h; simp at h
  | cons x l ih =>
   intro i h
   cases i with
   | zero => simp at h; subst h; simp [cB, hm]; omega
   | succ i => simp at h; have := ih i h; simp only [List.take_succ_cons, cB]; omega
 have := key ops.toList i (by simpa using ho)
 omega
theorem dLz {i i' : Nat} {o o' : Oper} (ho : ops[i]? = some o) (hm : bS C.P o.op = .makes) (ho' : ops[i']? = some o') (hm' : bS C.P o'.op = .makes) (hne : i ≠ i') : idp C ops p0 i ≠ idp C ops p0 i' := by
 have key : ∀ (l : List Oper) (i j : Nat) (o : Oper), l[i]? = some o → bS C.P o.op = .makes → i < j → cB C.P (l.take i) < cB C.P (l.take j) := by
  intro l
  induction l with
  | nil => intro i j o h; simp at h
  | cons x l ih =>
   intro i j o h hm hij
   cases j with
   | zero => omega
   | succ j =>
    cases i with
    | zero => simp at h; subst h; simp only [List.take_succ_cons, cB, hm, List.take_zero]; omega
    | succ i => simp at h; have := ih i j o h hm (by omega); simp only [List.take_succ_cons, cB]; omega
 intro e
 have e' := congrArg Pos.toNat e
 unfold idp at e'
 rw [dH, dH] at e'
 rcases Nat.lt_or_ge i i' with h | h
 ·have := key ops.toList i i' o (by simpa using ho) hm h; omega
 ·have := key ops.toList i' i o' (by simpa using ho') hm' (by omega); omega
theorem cFx {DD : List Deferred} (K : OkC C rec) {N : Nat} {E : Nat → aO} {Hh : Nat → Hp} {V : Nat → DV} (T : Tr1 C rec ops nt p0 E Hh V) (hN : N = p0.toNat + cB C.P ops.toList) (hGN : G.N ≤ p0.toNat) {ρ : cI} {w0 : World} {Q : Exit → Act → World → Prop}
  (hQ : ∀ ρ' a' w', Ex G ρ ρ' → HR G ρ' (Hh ops.size) w' → EnvR ρ' (E ops.size) a' → Kp G w0 w' → nt ≤ a'.tmps.size → a'.defers = DD → Q .normal a' w') :
  ∀ (fuel : Nat) (listed : Array Bool) (a : Act) (w : World), Inv DD C G ops nt p0 N E Hh V ρ w0 listed a w → ((List.range ops.size).filter fun i => !listed.getD i false).length ≤ fuel → wpAny C.P .any ops Q fuel listed a w := by
 have hlt : ∀ p, p < ops.size → ∃ o, ops[p]? = some o := fun p hp => ⟨ops[p], by simp [hp]⟩
 have hin : ∀ (j : Nat) oj, ops[j]? = some oj → j < ops.size := fun j oj hj => by
  rcases Nat.lt_or_ge j ops.size with h | h
  ·exact h
  ·simp [Array.getElem?_eq_none h] at hj
 have hend : ∀ listed a w, Inv DD C G ops nt p0 N E Hh V ρ w0 listed a w → (∀ i, i < ops.size → S listed i) → Q .normal a w := by
  rintro listed a w ⟨hsz, hdown, q, hq, hcand, hgap, ρ', R, h1, h2, h3, h4, h5, h6, h7, h8, h9⟩ hall
  have hH := aPm (G := G) T h8 h9 ops.size hq (Nat.le_refl _) (fun j oj hj hqj hjn => ⟨fun ha => by
   have := (hgap j oj hj ha).2 (hall j hjn)
   omega, fun _ => hall j hjn⟩) h2
  have hE : ∀ t, TS ops V (E 0) listed ops.size t = E ops.size t := fun t =>
   bOz (E := E) rfl (fun p o hp ho => (T.st p o ho).env) (fun p hp => hlt p hp) (fun j o hj _ _ => hall j hj) ops.size (Nat.le_refl _)
  refine hQ ρ' a w h1 (hH.weak rfl (fun k hk => .inl hk) (by show G.N ≤ N; omega) rfl) (fun t => ?_) h4 h5 h6
  rw [← hE t]
  exact h3 t
 have hready : ∀ listed, listed.size = ops.size → Region.ready .any ops listed = [] → ∀ i, i < ops.size → S listed i := by
  intro listed hsz hr i
  induction i using Nat.strongRecOn with
  | _ i ih =>
   intro hi
   obtain ⟨o, ho⟩ := hlt i hi
   by_cases hs : S listed i
   ·exact hs
   ·exfalso
    have hmem : i ∈ Region.ready .any ops listed := by
     rw [sG]
     refine ⟨hi, ?_, o, ho, fun e he hb => ?_⟩
     ·rw [sF (by omega)]
      unfold S at hs
      simpa using hs
     ·have := (dJ T.ok ho).1 e he hb
      exact ih e.on this (by omega)
    rw [hr] at hmem
    cases hmem
 intro fuel
 induction fuel with
 | zero =>
  intro listed a w hI hfuel
  have hall : ∀ i, i < ops.size → S listed i := by
   intro i hi
   by_cases hs : S listed i
   ·exact hs
   ·exfalso
    have : i ∈ (List.range ops.size).filter fun i => !listed.getD i false := by
     rw [List.mem_filter]
     refine ⟨by simpa using hi, ?_⟩
     unfold S at hs
     simpa using hs
    have := List.length_pos_of_mem this
    omega
  refine ⟨?_, hend listed a w hI hall⟩
  cases hr : Region.ready .any ops listed with
  | nil => rfl
  | cons x xs =>
   have hx : x ∈ Region.ready .any ops listed := by rw [hr]; simp
   rw [sG] at hx
   have := hall x hx.1
   rw [sF (by rw [hI.1]; exact hx.1)] at hx
   unfold S at this
   rw [this] at hx
   cases hx.2.1
 | succ fuel ih =>
  intro listed a w hI hfuel
  refine ⟨fun hr => hend listed a w hI (hready listed hI.1 hr), fun i hi => ?_⟩
  obtain ⟨hsz, hdown, q, hq, hcand, hgap, ρ', R, h1, h2, h3, h4, h5, h6, h7, h8, h9⟩ := hI
  rw [sG] at hi
  obtain ⟨hisz, hni, o, ho, hpre0⟩ := hi
  rw [sF (by omega)] at hni
  have hnS : ¬ S listed i := by unfold S; rw [hni]; simp
  have hpre : ∀ j, gM (Region.before ops) j i = true → S listed j := by
   intro j hj
   obtain ⟨e, he, hb, h | h⟩ := aPv ho hj
   ·rw [← h]; exact hpre0 e he hb
   ·exact hdown j e.on h (hpre0 e he hb)
  have hst := T.st i o ho
  have hlook : ∀ t ∈ o.looksAt ops, TS ops V (E 0) listed ops.size t = E i t := by
   intro t ht
   rw [cRm (i := i) (fun j oj hij hj hd hS => ?_) ops.size (by omega)]
   ·exact bOz (E := E) rfl (fun p op hp hop => (T.st p op hop).env) (fun p hp => hlt p (by omega)) (fun j oj hj hoj hd => by
     rcases (dJ T.ok ho).2.2 j oj hj hoj with h | ⟨h, _⟩
     ·exact hpre j h
     ·exact absurd ht ((Oper.apart_spec h).1 t hd)) i (Nat.le_refl _)
   ·rcases Nat.eq_or_lt_of_le hij with e | e
    ·subst e; exact hnS hS
    ·rcases (dJ T.ok hj).2.2 i o e ho with h | ⟨h, _⟩
     ·exact hnS (hdown i j h hS)
     ·exact absurd ht ((Oper.apart_spec h).2.2 t hd)
  have hmkq : ∀ j oj, ops[j]? = some oj → bS C.P oj.op = .makes → j < q → S listed j := by
   intro j oj hj hmj hjq
   rcases hcand with rfl | ⟨l, ol, hl, hal, rfl⟩
   ·omega
   ·have hSl : S listed l := (hgap l ol hl hal).1 (by omega)
    have hjl : j ≠ l := fun e => by subst e; rw [hl] at hj; cases hj; rw [hal] at hmj; cases hmj
    rcases (dJ T.ok hl).2.2 j oj (by omega) hj with h | ⟨_, h⟩
    ·exact hdown j l h hSl
    ·exact absurd ⟨.inr hmj, hal⟩ h
  have hdown' : ∀ j x, gM (Region.before ops) j x = true → S (listed.setIfInBounds i true) x → S (listed.setIfInBounds i true) j := by
   intro j x hjx hx
   rw [dDk (by omega)] at hx ⊢
   rcases hx with rfl | hx
   ·exact .inr (hpre j hjx)
   ·exact .inr (hdown j x hjx hx)
  have hTS : ∀ (ρ2 : cI) (v2 : Value), Ext ρ' ρ2 → VR ρ2 (V i) v2 → EnvR ρ2 (TS ops V (E 0) (listed.setIfInBounds i true) ops.size) (a.put o.dst v2) := by
   intro ρ2 v2 e1 e2 t
   rw [dOy ho (by omega) hnS t (fun j oj hij hj hd hod hS => by
    rcases (dJ T.ok hj).2.2 i o hij ho with h | ⟨h, _⟩
    ·exact hnS (hdown i j h hS)
    ·exact (Oper.apart_spec h).2.1 t hod hd) ops.size (by omega)]
   have := EnvR.put h3 e1 e2 hst.fits h5 t
   rwa [lL] at this
  have hcount : ((List.range ops.size).filter fun j => !(listed.setIfInBounds i true).getD j false).length ≤ fuel := by
   have hmem : i ∈ (List.range ops.size).filter fun i => !listed.getD i false := by
    rw [List.mem_filter]
    exact ⟨by simpa using hisz, by simp [hni]⟩
   have hle : ((List.range ops.size).filter fun j => !(listed.setIfInBounds i true).getD j false).length < ((List.range ops.size).filter fun j => !listed.getD j false).length := by
    have hsub : ((List.range ops.size).filter fun j => !(listed.setIfInBounds i true).getD j false) = ((List.range ops.size).filter fun j => !listed.getD j false).filter (fun j => j != i) := by
     rw [List.filter_filter]
     apply List.filter_congr
     intro j hj
     by_cases e : j = i
     ·subst e; simp [show j < listed.size by omega]
     ·simp [Array.getElem?_setIfInBounds_ne (Ne.symm e), e]
    rw [hsub]
    exact List.length_filter_lt_length_iff_exists.2 ⟨i, hmem, by simp⟩
   omega
  have hS' : ∀ j, S (listed.setIfInBounds i true) j ↔ (j = i ∨ S listed j) := fun j => dDk (by omega)
  by_cases hmk : bS C.P o.op = .makes
  ·
   have hqi : q ≤ i := by
    rcases Nat.lt_or_ge i q with h | h
    ·exact absurd (hmkq i o ho hmk h) hnS
    ·exact h
   have hg := (dJ T.ok ho).2.1 hmk
   have hbn := h7 i o ho hmk hnS
   have hst1 := hst.made hmk
   have hext : Ext ρ' (lU ρ' (idp C ops p0 i) ⟨w.heap.size, 0, 0, none⟩) := by
    intro x L hx
    by_cases e : x = idp C ops p0 i
    ·subst e; rw [hbn] at hx; cases hx
    ·rw [aV _ _ e]; exact hx
   have hE0 : dQ C o (idp C ops p0 i) (TS ops V (E 0) listed ops.size) (Hh i) = some (V i, Hh (i + 1)) := by
    rw [← hst1]
    refine aBk fun x hx => aCd fun t ht => hlook t ?_
    unfold Oper.looksAt
    refine List.mem_append_left _ (List.mem_filterMap.2 ⟨x, by simpa using hx, ?_⟩)
    rw [ht]
   obtain ⟨ob, x0, v', m1, m2, m3, m4⟩ := dMc (w := w) h3 hE0 hbn
   have hidlt := cFk (p0 := p0) ho hmk
   have H2 := h2.early hbn (by have := h2.nx; simp only [GX] at this; omega) x0
   unfold wpOp
   simp only [ho]
   rw [if_pos (by simp [Region.wanted, hg])]
   refine .inl ?_
   unfold Oper.wp
   rw [m1]
   show wpAny C.P .any ops Q fuel (listed.setIfInBounds i true) (a.put o.dst v') (w.alloc x0)
   have hEarly : ∀ j, iV C ops (listed.setIfInBounds i true) q j → j = i ∨ iV C ops listed q j := by
    rintro j ⟨oj, e1, e2, e3, e4⟩
    rcases (hS' j).1 e3 with e | e
    ·exact .inl e
    ·exact .inr ⟨oj, e1, e2, e, e4⟩
   have hRlt : ∀ j, iV C ops listed q j → R j < w.heap.size := fun j hj => h2.sz.2 _ (.inr ⟨j, hj, rfl⟩)
   have hjne : ∀ j, iV C ops listed q j → j ≠ i := by
    rintro j ⟨oj, e1, e2, e3, e4⟩ e
    subst e; exact hnS e3
   refine ih _ _ _ ⟨by simpa using hsz, hdown', q, hq, hcand, fun j oj hj haj => ?_, lU ρ' (idp C ops p0 i) ⟨w.heap.size, 0, 0, none⟩, fun j => if j = i then w.heap.size else R j, ?_, ?_, hTS _ _ hext m4, ?_, by rw [kI]; exact h5, by rw [iN]; exact h6, ?_, ?_, ?_⟩ hcount
   ·rw [hS' j, hgap j oj hj haj]
    constructor
    ·exact .inr
    ·rintro (h | h)
     ·subst h; rw [ho] at hj; cases hj; rw [hmk] at haj; cases haj
     ·exact h
   ·refine h1.trans ⟨hext, fun b L hb => ?_⟩
    by_cases e : b = idp C ops p0 i
    ·right
     rw [e]
     unfold idp
     rw [dH]
     omega
    ·rw [aV _ _ e] at hb; exact .inl hb
   ·refine H2.weak rfl ?_ (Nat.le_refl _) rfl
    rintro k (hk | ⟨j, hj, hjk⟩)
    ·exact .inl (.inl hk)
    ·rcases hEarly j hj with rfl | hj'
     ·right; simpa using hjk.symm
     ·left; right
      refine ⟨j, hj', ?_⟩
      simpa [hjne j hj'] using hjk
   ·exact h4.trans (dV (G := G) ⟨h2.sz.1, fun k hk => h2.sz.2 k (.inl hk)⟩ _)
   ·intro j oj hj hmj hSj
    have hji : j ≠ i := fun e => hSj ((hS' j).2 (.inl e))
    rw [aV _ _ (dLz hj hmj ho hmk hji)]
    exact h7 j oj hj hmj fun h => hSj ((hS' j).2 (.inr h))
   ·intro j hj
    rcases hEarly j hj with rfl | hj'
    ·refine ⟨by simp [bV], by simp; exact h2.sz.1, ?_, x0, ob, ?_, m2.mono hext, m3⟩
     ·simp only [if_true]
      intro hx
      have := h2.sz.2 _ (.inl hx)
      omega
     ·simp only [if_true]
      show (w.heap.push _)[w.heap.size]? = _
      simp
    ·have hM := h8 j hj'
     obtain ⟨x1, ob1, r1, r2, r3⟩ := hM.row
     have hji := hjne j hj'
     refine ⟨?_, by simp [hji]; exact hM.low, by simp [hji]; exact hM.ex, x1, ob1, ?_, r2.mono hext, r3⟩
     ·simp only [hji, if_false]; exact hext _ _ hM.name
     ·simp only [hji, if_false]
      rw [Below.heap_alloc _ _ _ (hRlt j hj')]
      exact r1
   ·intro j j' hj hj' he
    rcases hEarly j hj with rfl | hj1
    ·rcases hEarly j' hj' with rfl | hj1'
     ·rfl
     ·simp only [if_true, hjne j' hj1', if_false] at he
      have := hRlt j' hj1'
      omega
    ·rcases hEarly j' hj' with rfl | hj1'
     ·simp only [if_true, hjne j hj1, if_false] at he
      have := hRlt j hj1
      omega
     ·simp only [hjne j hj1, hjne j' hj1', if_false] at he
      exact h9 j j' hj1 hj1' he
  ·
   have hstep : ∃ q1 q2, q ≤ q1 ∧ q1 ≤ ops.size ∧ q2 ≤ ops.size ∧ q1 ≤ q2 ∧ dPf C ops q2 ∧ HR (GX G N C ops listed R q1) ρ' (Hh q1) w ∧
     bL C rec ops o (TS ops V (E 0) listed ops.size) (Hh q1) = some (V i, Hh q2) ∧
     (∀ j oj, ops[j]? = some oj → bS C.P oj.op = .acts → (j < q2 ↔ S (listed.setIfInBounds i true) j)) ∧
     (∀ j, iV C ops (listed.setIfInBounds i true) q2 j → iV C ops listed q1 j) := by
    rw [show bL C rec ops o (TS ops V (E 0) listed ops.size) = bL C rec ops o (E i) from funext fun h => aQs hlook]
    by_cases ha : bS C.P o.op = .acts
    ·have hqi : q ≤ i := by
      rcases Nat.lt_or_ge i q with h | h
      ·exact absurd ((hgap i o ho ha).1 h) hnS
      ·exact h
     refine ⟨i, i + 1, hqi, by omega, by omega, by omega, .inr ⟨i, o, ho, ha, rfl⟩, ?_, hst.step hmk, fun j oj hj haj => ?_, ?_⟩
     ·refine aPm (G := G) T h8 h9 i hqi (by omega) (fun j oj hj hqj hji => ⟨fun haj => ?_, fun hmj => ?_⟩) h2
      ·rcases (dJ T.ok ho).2.2 j oj hji hj with h | ⟨_, h⟩
       ·have := (hgap j oj hj haj).2 (hpre j h); omega
       ·exact absurd ⟨.inl haj, ha⟩ h
      ·rcases (dJ T.ok ho).2.2 j oj hji hj with h | ⟨_, h⟩
       ·exact hpre j h
       ·exact absurd ⟨.inr hmj, ha⟩ h
     ·rw [hS' j]
      constructor
      ·intro hlt'
       by_cases e : j = i
       ·exact .inl e
       ·right
        rcases (dJ T.ok ho).2.2 j oj (by omega) hj with h | ⟨_, h⟩
        ·exact hpre j h
        ·exact absurd ⟨.inl haj, ha⟩ h
      ·rintro (h | h)
       ·omega
       ·rcases Nat.lt_or_ge i j with hij | hij
        ·rcases (dJ T.ok hj).2.2 i o hij ho with h' | ⟨_, h'⟩
         ·exact absurd (hdown i j h' h) hnS
         ·exact absurd ⟨.inl ha, haj⟩ h'
        ·omega
     ·rintro j ⟨oj, e1, e2, e3, e4⟩
      rcases (hS' j).1 e3 with e | e
      ·omega
      ·exact ⟨oj, e1, e2, e, by omega⟩
    ·refine ⟨q, q, Nat.le_refl _, hq, hq, Nat.le_refl _, hcand, h2, T.value ho ha hmk hcand hgap hnS hdown hpre, fun j oj hj haj => ?_, ?_⟩
     ·rw [hS' j, hgap j oj hj haj]
      constructor
      ·exact .inr
      ·rintro (h | h)
       ·subst h; rw [ho] at hj; cases hj; exact absurd haj ha
       ·exact h
     ·rintro j ⟨oj, e1, e2, e3, e4⟩
      rcases (hS' j).1 e3 with e | e
      ·subst e; rw [ho] at e1; cases e1; exact absurd e2 hmk
      ·exact ⟨oj, e1, e2, e, e4⟩
   obtain ⟨q1, q2, k1, k2, k2', k12, k3, k4, k5, k6, k7⟩ := hstep
   refine tZ (tG K k4 h3 k5) rfl ho k4 fun ρ2 w2 v2 e1 e2 e3 e4 => ?_
   have hEq : ∀ j, iV C ops listed q1 j → iV C ops listed q j := by
    rintro j ⟨oj, f1, f2, f3, f4⟩
    exact ⟨oj, f1, f2, f3, by omega⟩
   refine ih _ _ _ ⟨by simpa using hsz, hdown', q2, k2', k3, k6, ρ2, R, ?_, ?_, hTS _ _ e1.ext e2, ?_, by rw [kI]; exact h5, by rw [iN]; exact h6, ?_, ?_, ?_⟩ hcount
   ·refine h1.trans ⟨e1.ext, fun b L hb => (e1.new b L hb).imp id fun h => ?_⟩
    simp only [GX] at h
    omega
   ·refine e3.weak rfl ?_ (Nat.le_refl _) rfl
    rintro k (hk | ⟨j, hj, hjk⟩)
    ·exact .inl hk
    ·exact .inr ⟨j, k7 j hj, hjk⟩
   ·exact h4.trans ⟨e4.low, fun k hk => e4.ex k (.inl hk)⟩
   ·intro j oj hj hmj hSj
    have hn := h7 j oj hj hmj fun h => hSj ((hS' j).2 (.inr h))
    cases hr : ρ2 (idp C ops p0 j) with
    | none => rfl
    | some L =>
     rcases e1.new _ _ hr with h | h
     ·rw [hn] at h; cases h
     ·have := cFk (p0 := p0) hj hmj
      simp only [GX] at h
      omega
   ·intro j hj
    have hj1 := k7 j hj
    have hM := h8 j (hEq j hj1)
    obtain ⟨x1, ob1, r1, r2, r3⟩ := hM.row
    exact ⟨e1.ext _ _ hM.name, hM.low, hM.ex, x1, ob1, by rw [e4.ex _ (.inr ⟨j, hj1, rfl⟩)]; exact r1, r2.mono e1.ext, r3⟩
   ·intro j j' hj hj' he
    exact h9 j j' (hEq j (k7 j hj)) (hEq j' (k7 j' hj')) he
theorem aQh {DD : List Deferred} (K : OkC C rec) {k : Dd.K} {r : DV × Hp} {env : aO} {h : Hp} {ρ : cI} {a : Act} {w : World} {Q : Exit → Act → World → Prop}
  (hok : eL C.P ops = true) (hp : iF C rec nt ops k env h = some r) (H : HR G ρ h w) (he : EnvR ρ env a) (hnt : nt ≤ a.tmps.size) (hd : a.defers = DD)
  (hQ : ∀ ρ' env' h' a' w', Ex G ρ ρ' → HR G ρ' h' w' → EnvR ρ' env' a' → Kp G w w' → nt ≤ a'.tmps.size → a'.defers = DD → k env' h' = some r → Q .normal a' w') :
  wpAny C.P .any ops Q ops.size (Array.replicate ops.size false) a { w with drawn := w.drawn + 1 } := by
 obtain ⟨E, Hh, V, e1, e2, e3, e4⟩ := sN (p0 := h.next) ops.toList 0 0 false [] _ env _ r hp (by simp) (fun _ => ⟨_, _, rfl⟩)
 simp only [Nat.zero_add, Array.length_toList, Nat.sub_zero] at e3 e4
 have T : Tr1 C rec ops nt h.next E Hh V := ⟨hok, fun p o ho => by
  have := (e4 p o (Nat.zero_le _) (by
   rcases Nat.lt_or_ge p ops.size with h | h
   ·exact h
   ·simp [Array.getElem?_eq_none h] at ho) ho).1
  rw [← e2] at this
  exact this⟩
 obtain ⟨n1, n2⟩ := rD (cB C.P ops.toList) h
 have hNN : (resv (cB C.P ops.toList) h).next.toNat = h.next.toNat + cB C.P ops.toList := by rw [n1, dH]
 refine (cFx (G := G) K T rfl H.nx (ρ := ρ) (w0 := w) (fun ρ' a' w' h1 h2 h3 h4 h5 h6 => hQ ρ' _ _ a' w' h1 h2 h3 h4 h5 h6 e3) ops.size _ a _ ?_ ?_)
 ·have hno : ∀ j, ¬ S (Array.replicate ops.size false) j := by
   intro j hj
   unfold S at hj
   simp [Array.getElem?_replicate] at hj
   split at hj <;> simp at hj
  have hnoE : ∀ j, ¬ iV C ops (Array.replicate ops.size false) 0 j := by
   rintro j ⟨oj, _, _, h3, _⟩
   exact hno j h3
  refine ⟨by simp, fun j x _ hx => absurd hx (hno x), 0, Nat.zero_le _, .inl rfl, fun j oj hj ha => ⟨fun h => by omega, fun h => absurd h (hno j)⟩, ρ, fun _ => 0, Ex.refl G ρ, ?_, ?_, ?_, hnt, hd, ?_, fun j hj => absurd hj (hnoE j), fun j j' hj => absurd hj (hnoE j)⟩
  ·rw [e2]
   have := (H.reserve (cB C.P ops.toList)).congr (w' := { w with drawn := w.drawn + 1 }) rfl
   rw [hNN] at this
   refine this.weak rfl ?_ (Nat.le_refl _) rfl
   rintro k (hk | ⟨j, hj, _⟩)
   ·exact hk
   ·exact absurd hj (hnoE j)
  ·have hT : ∀ p, TS ops V (E 0) (Array.replicate ops.size false) p = E 0 := by
    intro p
    induction p with
    | zero => rfl
    | succ p ih =>
     simp only [TS, ih]
     split
     ·rename_i o ho
      rw [if_neg (show ¬ (Array.replicate ops.size false).getD p false = true from hno p)]
     ·rfl
   intro t
   rw [hT, e1]
   exact he t
  ·exact (Kp.refl G w).drew
  ·intro j oj hj hmj _
   cases hr : ρ (idp C ops h.next j) with
   | none => rfl
   | some L =>
    have h1 := H.lt _ _ hr
    unfold idp at h1
    rw [dH] at h1
    omega
 ·have := List.length_filter_le (fun i => !(Array.replicate ops.size false).getD i false) (List.range ops.size)
  simpa using this
theorem bBc {DD : List Deferred} (K : OkC C rec) (hm : C.P.follows .mixedOrders = true) {id : Nat} {k : Dd.K} {r : DV × Hp} {env : aO} {h : Hp} {ρ : cI} {a : Act} {w : World} {Q : Exit → Act → World → Prop}
  (hok : eL C.P ops = true) (hp : iF C rec nt ops k env h = some r) (H : HR G ρ h w) (he : EnvR ρ env a) (hnt : nt ≤ a.tmps.size) (hd : a.defers = DD)
  (hQ : ∀ ρ' env' h' a' w', Ex G ρ ρ' → HR G ρ' h' w' → EnvR ρ' env' a' → Kp G w w' → nt ≤ a'.tmps.size → a'.defers = DD → k env' h' = some r → Q .normal a' w') :
  (Code.region id ops true).wp C.P Q a w :=
 wp_region_any hm (aQh K hok hp H he hnt hd hQ)
end
end Go.Dd

namespace Go.Dd
open Go.RowKit (Below)
section
variable {C : Cfg} {G : Gd} {rec : FuncId → List DV → Hp → aH} {nt n : Nat}
def St (DD : List Deferred) (G : Gd) (nt : Nat) (ρ : cI) (w0 : World) (k : K) (r : DV × Hp) (a : Act) (w : World) : Prop :=
 ∃ ρ' env h, Ex G ρ ρ' ∧ HR G ρ' h w ∧ EnvR ρ' env a ∧ Kp G w0 w ∧ nt ≤ a.tmps.size ∧ a.defers = DD ∧ k env h = some r
def QQ (DD : List Deferred) (G : Gd) (nt : Nat) (ρ : cI) (w0 : World) (X : Nat → K) (kr k : K) (r : DV × Hp) : Exit → Act → World → Prop
 | .normal, a, w => St DD G nt ρ w0 k r a w
 | .exit id, a, w => St DD G nt ρ w0 (X id) r a w
 | .ret, a, w => St DD G nt ρ w0 kr r a w
 | _, _, _ => False
theorem cVo {DD : List Deferred} (K : OkC C rec) (hm : C.P.follows .mixedOrders = true) {ρ : cI} {w0 : World} {r : DV × Hp} : ∀ (c : Code) (X : Nat → Dd.K) (kr k : Dd.K) (a : Act) (w : World),
  St DD G nt ρ w0 (aM C rec nt n c X kr k) r a w → c.wp C.P (QQ DD G nt ρ w0 X kr k r) a w := by
 intro c
 induction c with
 | skip => intro X kr k a w h; exact wp_skip h
 | region id ops dr =>
  intro X kr k a w h
  obtain ⟨ρ', env, hp, h1, h2, h3, h4, h5, h6, h7⟩ := h
  change (Bool.rec (motive := fun _ => Dd.K) (gT C rec nt ops ops.toList k) (Bool.rec (motive := fun _ => Dd.K) cH (iF C rec nt ops k) (eL C.P ops)) dr) env hp = some r at h7
  cases dr with
  | true =>
   dsimp only at h7
   cases hok : eL C.P ops with
   | false => rw [hok] at h7; cases h7
   | true =>
    rw [hok] at h7
    exact bBc K hm hok h7 h2 h3 h5 h6 fun ρ2 env2 h2' a2 w2 e1 e2 e3 e4 e5 e6 e7 => ⟨ρ2, env2, h2', h1.trans e1, e2, e3, h4.trans e4, e5, e6, e7⟩
  | false =>
   simp only [cond_false] at h7
   obtain ⟨env', h', hr, hk⟩ := lY ops.toList k env hp r h7
   refine wp_region ?_
   have := aMd (Q := QQ DD G nt ρ w0 X kr k r) K ops.toList 0 ρ' env hp a w (by simp) hr h2 h3 h5 h6 fun ρ2 a2 w2 e1 e2 e3 e4 e5 e6 => ⟨ρ2, env', h', h1.trans e1, e2, e3, h4.trans e4, e5, e6, hk⟩
   rw [List.range_eq_range']
   simpa using this
 | seq x y ihx ihy =>
  intro X kr k a w h
  refine wp_seq (wp_mono (ihx X kr (aM C rec nt n y X kr k) a w h) fun e a' w' hq => ?_)
  cases e with
  | normal => exact ihy X kr k a' w' hq
  | exit id => exact hq
  | ret => exact hq
  | goto l => exact hq
  | panic ch => exact hq
  | outgrown => exact hq
 | cond c x y ihx ihy =>
  intro X kr k a w h
  obtain ⟨ρ', env, hp, h1, h2, h3, h4, h5, h6, h7⟩ := h
  change aT (opr env c) (aM C rec nt n x X kr k env hp) (aM C rec nt n y X kr k env hp) = some r at h7
  have hc := bG h3 c
  unfold aT at h7
  split at h7 <;> (try (cases h7; done))
  ·rename_i hcb
   rw [hcb] at hc
   generalize hcv : a.eval c = cv at hc
   cases hc
   exact wp_cond_true hcv (ihx X kr k a w ⟨ρ', env, hp, h1, h2, h3, h4, h5, h6, h7⟩)
  ·rename_i hcb
   rw [hcb] at hc
   generalize hcv : a.eval c = cv at hc
   cases hc
   exact wp_cond_false hcv (ihy X kr k a w ⟨ρ', env, hp, h1, h2, h3, h4, h5, h6, h7⟩)
 | block id x ih =>
  intro X kr k a w h
  refine wp_block (wp_mono (ih (fun j => bif Nat.beq j id then k else X j) kr k a w h) fun e a' w' hq => ?_)
  cases e with
  | normal => exact hq
  | exit id' =>
   simp only [QQ] at hq
   simp only [Exit.inBlock, QQ]
   split
   ·rename_i e
    subst e
    have hb : Nat.beq id' id' = true := Nat.beq_refl id'
    rw [hb] at hq
    exact hq
   ·rename_i e
    have : Nat.beq id' id = false := by
     cases hb : Nat.beq id' id with
     | false => rfl
     | true => exact absurd (Nat.eq_of_beq_eq_true hb) e
    rw [this] at hq
    exact hq
  | ret => exact hq
  | goto l => exact hq
  | panic ch => exact hq
  | outgrown => exact hq
 | loop x ih =>
  intro X kr k a w h
  have key : ∀ (m : Nat) (a : Act) (w : World), St DD G nt ρ w0 (aL (fun kk => aM C rec nt n x X kr kk) m) r a w → Code.rounds C.P x (QQ DD G nt ρ w0 X kr k r) m a w := by
   intro m
   induction m with
   | zero =>
    rintro a w ⟨ρ', env, hp, h1, h2, h3, h4, h5, h6, h7⟩
    cases h7
   | succ m ihm =>
    intro a w hs
    rw [rounds_succ]
    refine wp_mono (ih X kr (aL (fun kk => aM C rec nt n x X kr kk) m) a w hs) fun e a' w' hq => ?_
    cases e with
    | normal => exact ihm a' w' hq
    | exit id => exact hq
    | ret => exact hq
    | goto l => exact hq
    | panic ch => exact hq
    | outgrown => exact hq
  exact wp_loop_rounds n (key n a w h)
 | rangeFunc f ps x y ihx ihy =>
  rintro X kr k a w ⟨ρ', env, hp, h1, h2, h3, h4, h5, h6, h7⟩
  cases h7
 | exit id => intro X kr k a w h; exact wp_exit h
 | scope x ih =>
  intro X kr k a w h
  refine wp_scope_straight (wp_mono (ih X kr k a w h) fun e a' w' hq => ?_)
  cases e with
  | goto l => exact hq
  | normal => exact hq
  | exit id => exact hq
  | ret => exact hq
  | panic ch => exact hq
  | outgrown => exact hq
 | label l => intro X kr k a w h; exact wp_label h
 | goto l =>
  rintro X kr k a w ⟨ρ', env, hp, h1, h2, h3, h4, h5, h6, h7⟩
  cases h7
 | ret => intro X kr k a w h; exact wp_ret h
 | refuse why =>
  rintro X kr k a w ⟨ρ', env, hp, h1, h2, h3, h4, h5, h6, h7⟩
  cases h7
def aHd (tmps : Array Value) (rv : ResultVar) : Sem Value :=
 match rv with
 | .tmp t => pure (tmps.getD t undef)
 | .cell q t => do loadVar t (← asAddr (tmps.getD q undef))
theorem oT (fn : Func) (tmps : Array Value) : results fn tmps = (do
  let vs ← fn.results.mapM (aHd tmps)
  pure (if h : vs.size = 1 then vs[0] else .tuple vs)) := by
 unfold results
 congr 2
theorem cFp {ρ : cI} {w : World} {h : Hp} {x : DV} {x' : Value} {t : TypeId} {k : DV → aH} {r : DV × Hp} (H : HR G ρ h w) (hx : VR ρ x x') (hr : aBw C t x h k = some r) :
  ∃ v v', (do loadVar t (← asAddr x') : Sem Value).run C.P w = .ok v' w ∧ VR ρ v v' ∧ k v = some r := by
 unfold aBw at hr
 split at hr <;> (try (cases hr; done))
 rename_i d i ht hi
 obtain ⟨v, h', hl, hk⟩ := dF hr
 have hconv : ∀ b o, x = .p b o → (Instr.loadAt t x') = (do loadVar t (← asAddr x')) := by
  rintro b o rfl
  cases hx
  simp [Instr.loadAt, Instr.sureAddr, asAddr]
 cases hd : jC d with
 | true =>
  rw [hd] at hl
  simp only [cond_true] at hl
  unfold aI at hl
  split at hl <;> (try (cases hl; done))
  rename_i b o
  split at hl <;> (try (cases hl; done))
  rename_i cs hc
  simp only [bE, bM] at hl
  obtain ⟨rfl, _⟩ := hl
  cases hx with
  | p _ _ L hL =>
   obtain ⟨c1, c2, _, vs, c4, c5, c6⟩ := fC H hc hL
   have hrun := cW (P := C.P) vs rfl c6
   rw [c5] at hrun
   refine ⟨_, .agg vs.toArray, ?_, .a cs vs.toArray (by simpa using c4), hk⟩
   simp only [asAddr, Sem.run_bind, Sem.run_pure, Result.andThen_ok, loadVar, rA ht, hd, if_true, rS hi, hrun]
 | false =>
  rw [hd] at hl
  simp only [cond_false] at hl
  unfold aA at hl
  split at hl <;> (try (cases hl; done))
  rename_i b o
  split at hl <;> (try (cases hl; done))
  rename_i u' hc
  simp only [bE, bM] at hl
  obtain ⟨rfl, _⟩ := hl
  cases hx with
  | p _ _ L hL =>
   unfold cellD rowOf at hc
   split at hc <;> (try (cases hc; done))
   rename_i l hl
   split at hl <;> (try (cases hl; done))
   rename_i kd l0 hb
   simp only [bE] at hl
   subst hl
   split at hc <;> (try (cases hc; done))
   rename_i u0 hu
   split at hc <;> (try (cases hc; done))
   rename_i ho
   simp only [bE] at hc
   subst hc
   obtain ⟨v', h5, h6⟩ := H.cell b kd l0 L o u0 hb hL hu ho
   refine ⟨_, v', ?_, h6, hk⟩
   simp only [asAddr, Sem.run_bind, Sem.run_pure, Result.andThen_ok, loadVar, rA ht, hd, Bool.false_eq_true, if_false, run_load, h5]
theorem wW {ρ : cI} {w : World} {h : Hp} {env : aO} {a : Act} (H : HR G ρ h w) (he : EnvR ρ env a) {r : DV × Hp} : ∀ (l : List ResultVar) (k : List DV → aH), bBq C env h l k = some r →
  ∃ vs vs', (l.mapM (aHd a.tmps)).run C.P w = .ok vs' w ∧ VRs ρ vs vs' ∧ k vs = some r
 | [], k, hr => ⟨[], [], by simp, .nil, hr⟩
 | .tmp t :: l, k, hr => by
  obtain ⟨vs, vs', h1, h2, h3⟩ := wW H he l (fun vs => k (env t :: vs)) hr
  refine ⟨env t :: vs, a.tmps.getD t undef :: vs', ?_, .cons _ _ _ _ (he t) h2, h3⟩
  simp only [List.mapM_cons, Sem.run_bind, aHd, Result.andThen_ok, h1, Sem.run_pure]
 | .cell q t :: l, k, hr => by
  obtain ⟨v, v', h1, h2, h3⟩ := cFp (x' := a.tmps.getD q undef) H (he q) hr
  obtain ⟨vs, vs', h4, h5, h6⟩ := wW H he l (fun vs => k (v :: vs)) h3
  refine ⟨v :: vs, v' :: vs', ?_, .cons _ _ _ _ h2 h5, h6⟩
  simp only [List.mapM_cons, Sem.run_bind, aHd] at h1 ⊢
  simp only [h1, Result.andThen_ok, h4, Sem.run_pure]
theorem aEp {ρ : cI} {w : World} {h h1 : Hp} {env : aO} {a : Act} (H : HR G ρ h w) (he : EnvR ρ env a) {fn : Func} {v : DV} (hr : aQ C fn env h = some (v, h1)) :
  h1 = h ∧ ∃ v', (results fn a.tmps).run C.P w = .ok v' w ∧ VR ρ v v' := by
 obtain ⟨us, vs', h2, h3, hk⟩ := wW H he _ _ hr
 unfold cIk at hk
 split at hk
 ·rename_i u
  simp only [bE, bM] at hk
  obtain ⟨rfl, rfl⟩ := hk
  cases h3 with
  | cons _ v' _ l' hv hn =>
   cases hn
   refine ⟨rfl, v', ?_, hv⟩
   rw [oT, Array.mapM_eq_mapM_toList]
   simp only [Sem.run_bind, Sem.run_map, h2, Result.andThen_ok, Sem.run_pure]
   simp
 ·rename_i hne
  simp only [bE, bM] at hk
  obtain ⟨rfl, rfl⟩ := hk
  have hl := h3.length
  have hne1 : vs'.length ≠ 1 := by
   intro e
   rw [e] at hl
   match us, hl with
   | [x], _ => exact hne x rfl
  refine ⟨rfl, .tuple vs'.toArray, ?_, .t _ _ (by simpa using h3)⟩
  rw [oT, Array.mapM_eq_mapM_toList]
  simp only [Sem.run_bind, Sem.run_map, h2, Result.andThen_ok, Sem.run_pure]
  rw [dif_neg (by simpa using hne1)]
structure POk (P : Program) : Prop where
 mixed : P.follows .mixedOrders = true
 names : ∀ (f : Nat) (fn : Func), P.funcs[f]? = some fn → (fn.name == "runtime.NumGoroutine") = false
theorem wP (K : OkC C rec) (hP : POk C.P) (n : Nat) (f : FuncId) : kJ C.P G f (aG C rec n f) := by
 intro args h v h1 hr ρ w args' H hargs
 unfold aG at hr
 split at hr <;> (try (cases hr; done))
 rename_i fn hf
 split at hr <;> (try (cases hr; done))
 rename_i c hb
 refine .inl ⟨?_, ?_⟩
 ·unfold callFunc
  have hn : ¬ fn.name = "runtime.NumGoroutine" := by simpa using hP.names f fn hf
  simp [hf, hn, hb]
 ·refine calls_of_wp hf hb ?_
  have he : EnvR ρ (aK args) { tmps := args' ++ Array.replicate (fn.ntmps - args'.size) undef, defers := [] } := by
   intro t
   unfold aK
   have hlen := hargs.length
   simp only [Array.length_toList] at hlen
   by_cases ht : t < args.length
   ·have hg : args[t]? = some args[t] := by simp [ht]
    obtain ⟨v', h2, h3⟩ := hargs.get t _ hg
    simp only [Array.getElem?_toList] at h2
    rw [show args.getD t aX = args[t] by simp [List.getD, hg]]
    have : (args' ++ Array.replicate (fn.ntmps - args'.size) undef).getD t undef = v' := by
     simp [Array.getElem?_append_left (show t < args'.size by omega), h2]
    rw [this]
    exact h3
   ·have hg : args.getD t aX = aX := by simp [List.getD, List.getElem?_eq_none (Nat.le_of_not_lt ht)]
    rw [hg]
    have : (args' ++ Array.replicate (fn.ntmps - args'.size) undef).getD t undef = undef := by
     rw [Array.getD_eq_getD_getElem?, Array.getElem?_append_right (by omega)]
     simp only [Array.getElem?_replicate]
     split <;> rfl
    rw [this]
    exact .t [] #[] .nil
  have hst : St [] G fn.ntmps ρ w (aM C rec fn.ntmps n c (fun _ => cH) (aQ C fn) (aQ C fn)) (v, h1) { tmps := args' ++ Array.replicate (fn.ntmps - args'.size) undef, defers := [] } w :=
   ⟨ρ, aK args, h, Ex.refl G ρ, H, he, Kp.refl G w, by simp; omega, rfl, hr⟩
  refine wp_mono (cVo K hP.mixed c _ _ _ _ _ hst) fun e a' w' hq => ?_
  have hfin : St [] G fn.ntmps ρ w (aQ C fn) (v, h1) a' w' → a'.defers = [] ∧ ∃ v', (results fn a'.tmps).run C.P w' = .ok v' w' ∧ kM G ρ w v h1 (.returned v') w' := by
   rintro ⟨ρ', env, h', e1, e2, e3, e4, e5, e6, e7⟩
   obtain ⟨rfl, v', r1, r2⟩ := aEp e2 e3 e7
   exact ⟨e6, v', r1, ρ', v', rfl, e1, r2, e2, e4⟩
  cases e with
  | normal => exact hfin hq
  | ret => exact hfin hq
  | exit id =>
   obtain ⟨ρ', env, h', e1, e2, e3, e4, e5, e6, e7⟩ := hq
   cases e7
  | goto l => exact hq.elim
  | panic ch => exact hq.elim
  | outgrown => exact hq.elim
theorem cEd (hP : POk C.P) (hI : ∀ G g F, C.I g = some F → kJ C.P G g F) : ∀ (n : Nat) (G : Gd) (f : FuncId), kJ C.P G f (fnD C n f)
 | 0, G, f => fun args h v h1 hr => by cases hr
 | n + 1, G, f => wP (rec := fnD C n) ⟨hI, fun G g => cEd hP hI n G g⟩ hP n f
end
end Go.Dd

namespace Go.Dd
open Go.RowKit (Below)
section
variable {C : Cfg} {G : Gd} {rec : FuncId → List DV → Hp → aH} {nt : Nat}
def nN (h : Hp) : Prop := ∀ b o, h.bl.get b = some o → b.toNat < h.next.toNat
theorem HR.isFresh {ρ : cI} {h : Hp} {w : World} (H : HR G ρ h w) : nN h := fun b o hb => by
 obtain ⟨L, hL⟩ := H.dom b o hb
 exact H.lt b L hL
def aPy (C : Cfg) (rec : FuncId → List DV → Hp → aH) (nt : Nat) (ops : Array Oper) (kM : aO → Hp → Prop) : Nat → Array Bool → aO → Hp → Prop
 | 0, listed, env, h => Region.ready .any ops listed = [] ∧ kM env h
 | f + 1, listed, env, h => (Region.ready .any ops listed = [] → kM env h) ∧
   ∀ i ∈ Region.ready .any ops listed, ∃ o v h', ops[i]? = some o ∧ cT nt o.dst = true ∧ bL C rec ops o env h = some (v, h') ∧
    aPy C rec nt ops kM f (listed.setIfInBounds i true) (bO env o.dst v) h'
theorem cKe (K : OkC C rec) {ops : Array Oper} {kM : aO → Hp → Prop} {Q : Exit → Act → World → Prop} : ∀ (fuel : Nat) (listed : Array Bool) (ρ : cI) (env : aO) (h : Hp) (a : Act) (w : World),
  aPy C rec nt ops kM fuel listed env h → HR G ρ h w → EnvR ρ env a → nt ≤ a.tmps.size → a.defers = [] →
  (∀ ρ' env' h' a' w', kM env' h' → Ex G ρ ρ' → HR G ρ' h' w' → EnvR ρ' env' a' → Kp G w w' → nt ≤ a'.tmps.size → a'.defers = [] → Q .normal a' w') →
  wpAny C.P .any ops Q fuel listed a w
 | 0, listed, ρ, env, h, a, w, hp, H, he, hnt, hd, hQ => ⟨hp.1, hQ ρ env h a w hp.2 (Ex.refl G ρ) H he (Kp.refl G w) hnt hd⟩
 | f + 1, listed, ρ, env, h, a, w, hp, H, he, hnt, hd, hQ => by
  refine ⟨fun hr => hQ ρ env h a w (hp.1 hr) (Ex.refl G ρ) H he (Kp.refl G w) hnt hd, fun i hi => ?_⟩
  obtain ⟨o, v, h', ho, hf, hs, hn⟩ := hp.2 i hi
  refine tZ (tG K H he hs) rfl ho H fun ρ' w' v' h2 h3 h4 h5 => ?_
  exact cKe K f _ ρ' _ h' _ w' hn h4 (he.put h2.ext h3 hf hnt) (by rw [kI]; exact hnt) (by rw [iN]; exact hd)
   fun ρ2 env2 hh a2 w2 e0 e1 e2 e3 e4 e5 e6 => hQ ρ2 env2 hh a2 w2 e0 (h2.trans e1) e2 e3 (h5.trans e4) e5 e6
def rJ (C : Cfg) (rec : FuncId → List DV → Hp → aH) (nt : Nat) : Code → (Nat → aO → Hp → Prop) → (aO → Hp → Prop) → (aO → Hp → Prop) → aO → Hp → Prop
 | .skip, _, _, N => N
 | .region _ ops dr, _, _, N => fun env h => if dr then (aPy C rec nt ops (fun e h => nN h → N e h) ops.size (Array.replicate ops.size false) env h ∨
    (eL C.P ops = true ∧ ∃ k r, iF C rec nt ops k env h = some r ∧ ∀ env' h', k env' h' = some r → nN h' → N env' h'))
   else ∃ env' h', xG C rec nt ops ops.toList env h env' h' ∧ (nN h' → N env' h')
 | .seq a b, X, R, N => rJ C rec nt a X R (rJ C rec nt b X R N)
 | .cond c a b, X, R, N => fun env h => (opr env c = .b true ∧ rJ C rec nt a X R N env h) ∨ (opr env c = .b false ∧ rJ C rec nt b X R N env h)
 | .block id a, X, R, N => rJ C rec nt a (fun j => if j = id then N else X j) R N
 | .exit id, X, _, _ => X id
 | .scope a, X, R, N => rJ C rec nt a X R N
 | .ret, _, R, _ => R
 | _, _, _, _ => fun _ _ => False
def StP (G : Gd) (nt : Nat) (ρ : cI) (w0 : World) (N : aO → Hp → Prop) (a : Act) (w : World) : Prop :=
 ∃ ρ' env h, Ex G ρ ρ' ∧ HR G ρ' h w ∧ EnvR ρ' env a ∧ Kp G w0 w ∧ nt ≤ a.tmps.size ∧ a.defers = [] ∧ N env h
def QP (G : Gd) (nt : Nat) (ρ : cI) (w0 : World) (X : Nat → aO → Hp → Prop) (R N : aO → Hp → Prop) : Exit → Act → World → Prop
 | .normal, a, w => StP G nt ρ w0 N a w
 | .exit id, a, w => StP G nt ρ w0 (X id) a w
 | .ret, a, w => StP G nt ρ w0 R a w
 | _, _, _ => False
theorem bZt (K : OkC C rec) (hm : C.P.follows .mixedOrders = true) {ρ : cI} {w0 : World} : ∀ (c : Code) (X : Nat → aO → Hp → Prop) (R N : aO → Hp → Prop) (a : Act) (w : World),
  StP G nt ρ w0 (rJ C rec nt c X R N) a w → c.wp C.P (QP G nt ρ w0 X R N) a w := by
 intro c
 induction c with
 | skip => intro X R N a w h; exact wp_skip h
 | region id ops dr =>
  intro X R N a w h
  obtain ⟨ρ', env, hp, h1, h2, h3, h4, h5, h6, h7⟩ := h
  cases dr with
  | true =>
   simp only [rJ, if_true] at h7
   rcases h7 with h7 | ⟨hok, k, r, h7, h8⟩
   ·refine wp_region_any hm (cKe K ops.size _ ρ' env hp a _ h7 (h2.congr rfl) h3 h5 h6 fun ρ2 env2 h2' a2 w2 e0 e1 e2 e3 e4 e5 e6 => ?_)
    exact ⟨ρ2, env2, h2', h1.trans e1, e2, e3, (h4.trans ((Kp.refl G w).drew)).trans e4, e5, e6, e0 e2.isFresh⟩
   ·exact bBc K hm hok h7 h2 h3 h5 h6 fun ρ2 env2 h2' a2 w2 e1 e2 e3 e4 e5 e6 e7 => ⟨ρ2, env2, h2', h1.trans e1, e2, e3, h4.trans e4, e5, e6, h8 _ _ e7 e2.isFresh⟩
  | false =>
   simp only [rJ, Bool.false_eq_true, if_false] at h7
   obtain ⟨env', h', hr, hk⟩ := h7
   refine wp_region ?_
   have := aMd (Q := QP G nt ρ w0 X R N) K ops.toList 0 ρ' env hp a w (by simp) hr h2 h3 h5 h6 fun ρ2 a2 w2 e1 e2 e3 e4 e5 e6 => ⟨ρ2, env', h', h1.trans e1, e2, e3, h4.trans e4, e5, e6, hk e2.isFresh⟩
   rw [List.range_eq_range']
   simpa using this
 | seq x y ihx ihy =>
  intro X R N a w h
  refine wp_seq (wp_mono (ihx X R (rJ C rec nt y X R N) a w h) fun e a' w' hq => ?_)
  cases e with
  | normal => exact ihy X R N a' w' hq
  | exit id => exact hq
  | ret => exact hq
  | goto l => exact hq
  | panic ch => exact hq
  | outgrown => exact hq
 | cond c x y ihx ihy =>
  intro X R N a w h
  obtain ⟨ρ', env, hp, h1, h2, h3, h4, h5, h6, h7⟩ := h
  have hc := bG h3 c
  rcases h7 with ⟨hcb, h7⟩ | ⟨hcb, h7⟩
  ·rw [hcb] at hc
   generalize hcv : a.eval c = cv at hc
   cases hc
   exact wp_cond_true hcv (ihx X R N a w ⟨ρ', env, hp, h1, h2, h3, h4, h5, h6, h7⟩)
  ·rw [hcb] at hc
   generalize hcv : a.eval c = cv at hc
   cases hc
   exact wp_cond_false hcv (ihy X R N a w ⟨ρ', env, hp, h1, h2, h3, h4, h5, h6, h7⟩)
 | block id x ih =>
  intro X R N a w h
  refine wp_block (wp_mono (ih (fun j => if j = id then N else X j) R N a w h) fun e a' w' hq => ?_)
  cases e with
  | normal => exact hq
  | exit id' =>
   simp only [QP] at hq
   simp only [Exit.inBlock]
   split
   ·rename_i e
    rw [if_pos e] at hq
    exact hq
   ·rename_i e
    rw [if_neg e] at hq
    exact hq
  | ret => exact hq
  | goto l => exact hq
  | panic ch => exact hq
  | outgrown => exact hq
 | loop x ih => rintro X R N a w ⟨ρ', env, hp, h1, h2, h3, h4, h5, h6, h7⟩; exact h7.elim
 | rangeFunc f ps x y ihx ihy => rintro X R N a w ⟨ρ', env, hp, h1, h2, h3, h4, h5, h6, h7⟩; exact h7.elim
 | exit id => intro X R N a w h; exact wp_exit h
 | scope x ih =>
  intro X R N a w h
  refine wp_scope_straight (wp_mono (ih X R N a w h) fun e a' w' hq => ?_)
  cases e with
  | goto l => exact hq
  | normal => exact hq
  | exit id => exact hq
  | ret => exact hq
  | panic ch => exact hq
  | outgrown => exact hq
 | label l => rintro X R N a w ⟨ρ', env, hp, h1, h2, h3, h4, h5, h6, h7⟩; exact h7.elim
 | goto l => rintro X R N a w ⟨ρ', env, hp, h1, h2, h3, h4, h5, h6, h7⟩; exact h7.elim
 | ret => intro X R N a w h; exact wp_ret h
 | refuse why => rintro X R N a w ⟨ρ', env, hp, h1, h2, h3, h4, h5, h6, h7⟩; exact h7.elim
def Le (h2 h1 : Hp) : Prop := ∀ G ρ w, HR G ρ h2 w → HR G ρ h1 w
theorem dJc (K : OkC C rec) (hP : POk C.P) {f : FuncId} {fn : Func} {c : Code} (hf : C.P.funcs[f]? = some fn) (hb : fn.body = some c) {F : List DV → Hp → aH}
  (hF : ∀ args h v h1, F args h = some (v, h1) → nN h → rJ C rec fn.ntmps c (fun _ _ _ => False) (fun env h' => ∃ h2, aQ C fn env h' = some (v, h2) ∧ Le h2 h1)
   (fun env h' => ∃ h2, aQ C fn env h' = some (v, h2) ∧ Le h2 h1) (aK args) h) : kJ C.P G f F := by
 intro args h v h1 hr ρ w args' H hargs
 refine .inl ⟨?_, ?_⟩
 ·unfold callFunc
  have hn : ¬ fn.name = "runtime.NumGoroutine" := by simpa using hP.names f fn hf
  simp [hf, hn, hb]
 ·refine calls_of_wp hf hb ?_
  have he : EnvR ρ (aK args) { tmps := args' ++ Array.replicate (fn.ntmps - args'.size) undef, defers := [] } := by
   intro t
   unfold aK
   have hlen := hargs.length
   simp only [Array.length_toList] at hlen
   by_cases ht : t < args.length
   ·have hg : args[t]? = some args[t] := by simp [ht]
    obtain ⟨v', h2, h3⟩ := hargs.get t _ hg
    simp only [Array.getElem?_toList] at h2
    rw [show args.getD t aX = args[t] by simp [List.getD, hg]]
    have : (args' ++ Array.replicate (fn.ntmps - args'.size) undef).getD t undef = v' := by
     simp [Array.getElem?_append_left (show t < args'.size by omega), h2]
    rw [this]
    exact h3
   ·have hg : args.getD t aX = aX := by simp [List.getD, List.getElem?_eq_none (Nat.le_of_not_lt ht)]
    rw [hg]
    have : (args' ++ Array.replicate (fn.ntmps - args'.size) undef).getD t undef = undef := by
     rw [Array.getD_eq_getD_getElem?, Array.getElem?_append_right (by omega)]
     simp only [Array.getElem?_replicate]
     split <;> rfl
    rw [this]
    exact .t [] #[] .nil
  have hst : StP G fn.ntmps ρ w _ { tmps := args' ++ Array.replicate (fn.ntmps - args'.size) undef, defers := [] } w :=
   ⟨ρ, aK args, h, Ex.refl G ρ, H, he, Kp.refl G w, by simp; omega, rfl, hF args h v h1 hr H.isFresh⟩
  refine wp_mono (bZt K hP.mixed c _ _ _ _ _ hst) fun e a' w' hq => ?_
  have hfin : StP G fn.ntmps ρ w (fun env h' => ∃ h2, aQ C fn env h' = some (v, h2) ∧ Le h2 h1) a' w' → a'.defers = [] ∧ ∃ v', (results fn a'.tmps).run C.P w' = .ok v' w' ∧ kM G ρ w v h1 (.returned v') w' := by
   rintro ⟨ρ', env, h', e1, e2, e3, e4, e5, e6, h2, e7, e8⟩
   obtain ⟨rfl, v', r1, r2⟩ := aEp e2 e3 e7
   exact ⟨e6, v', r1, ρ', v', rfl, e1, r2, e8 _ _ _ e2, e4⟩
  cases e with
  | normal => exact hfin hq
  | ret => exact hfin hq
  | exit id => obtain ⟨ρ', env, h', e1, e2, e3, e4, e5, e6, e7⟩ := hq; exact e7.elim
  | goto l => exact hq.elim
  | panic ch => exact hq.elim
  | outgrown => exact hq.elim
end
end Go.Dd

namespace Go.Dd
open Go.RowKit (Below)
def Fw (ro : Option Nat) : Fence := { Fence.wide with round := ro }
theorem aSj {ro : Option Nat} {n : Nat} {P : Program} {f : FuncId} {args : Array Value} {w : World} {R : Ending → World → Prop} (h : Calls P f args w R) : CallsIn (Fw ro) n P f args w R := by
 have e : CallsIn Fence.wide n P f args w R := callsIn_wide.2 h
 exact e
theorem stepsIn_fw {ro : Option Nat} {P : Program} {m m' : Machine} : StepsIn (Machine.fenced P (Fw ro)) P m m' ↔ Steps P m m' := by
 exact stepsIn_wide (P := P)
def fX (o : Oper) : Bool := match o.op with
 | .defer _ => false
 | _ => true
section
variable {ro : Option Nat} {n : Nat} {P : Program} {Q : Exit → Act → World → Prop}
theorem cGk {o : Oper} {ρ : Operand → Value} (h : fX o = true) : o.semAt ro ρ = execOp ρ o := by
 refine Oper.semAt_eq ro ρ o fun c e => ?_
 unfold fX at h
 rw [e] at h
 cases h
theorem dSb {o : Oper} {a : Act} {w : World} {K : Act → World → Prop} (hd : fX o = true) (h : o.wp P a w K Q) : o.wpIn (Fw ro) n P a w K Q := by
 refine ⟨fun _ _ => trivial, ?_⟩
 show o.uponIn (Fw ro) n P a K Q ((o.semAt ro a.eval).run P w)
 rw [cGk hd]
 unfold Oper.wp at h
 generalize (execOp a.eval o).run P w = r at h
 cases r with
 | ok x w' =>
  cases x <;> first
   | exact h
   | exact h.elim
   | exact ⟨fun e => (by cases e), aSj h⟩
   | exact ⟨fun e => (by cases e), fun c cs _ => (let ⟨v, w2, r, s⟩ := h c cs; ⟨v, w2, r, stepsIn_fw.2 s⟩)⟩
 | halt x w' => cases x <;> exact h
theorem aLt {ops : Array Oper} {i : Nat} {K K' : Act → World → Prop} {a : Act} {w : World} (hd : ∀ o ∈ ops.toList, fX o = true) (hQ : ¬ LetsOut Q) (hK : ∀ a w, K a w → K' a w) (h : wpOp P ops Q i K a w) : wpOpIn (Fw ro) n P ops Q i K' a w := by
 unfold wpOp at h
 unfold wpOpIn
 cases ho : ops[i]? with
 | none => rw [ho] at h; exact hK _ _ h
 | some o =>
  rw [ho] at h
  dsimp only at h ⊢
  have hm : o ∈ ops.toList := by
   have := Array.mem_of_getElem? ho
   exact Array.mem_toList_iff.2 this
  split
  ·rename_i hw
   rw [if_pos hw] at h
   rcases h with h | h
   ·exact Oper.wpIn_mono hK (dSb (hd o hm) h)
   ·exact absurd h.2 hQ
  ·rename_i hw
   rw [if_neg hw] at h
   exact ⟨fun _ _ => trivial, hK _ _ h⟩
theorem aQo {ops : Array Oper} (hd : ∀ o ∈ ops.toList, fX o = true) (hQ : ¬ LetsOut Q) : ∀ (l : List Nat) (a : Act) (w : World), wpOps P ops Q l a w → wpOpsIn (Fw ro) n P ops Q l a w
 | [], a, w, h => h
 | i :: l, a, w, h => by
  rw [wpOps_cons] at h
  rw [wpOpsIn_cons]
  exact aLt hd hQ (aQo hd hQ l) h
theorem aPl {ops : Array Oper} {md : Region.Mode} (hd : ∀ o ∈ ops.toList, fX o = true) (hQ : ¬ LetsOut Q) : ∀ (fuel : Nat) (listed : Array Bool) (a : Act) (w : World), wpAny P md ops Q fuel listed a w → wpAnyIn (Fw ro) n P md ops Q fuel listed a w
 | 0, listed, a, w, h => h
 | fuel + 1, listed, a, w, h => ⟨h.1, fun i hi => aLt hd hQ (aPl hd hQ fuel _) (h.2 i hi)⟩
def dT : Code → Bool
 | .skip => true
 | .region _ ops _ => ops.toList.all fX
 | .seq x y => dT x && dT y
 | .cond _ x y => dT x && dT y
 | .block _ x => dT x
 | .loop x => dT x
 | .exit _ => true
 | .ret => true
 | _ => false
end
section
variable {C : Cfg} {G : Gd} {rec : FuncId → List DV → Hp → aH} {nt n : Nat}
theorem bZh {DD : List Deferred} {ρ : cI} {w0 : World} {X : Nat → K} {kr k : K} {r : DV × Hp} : ¬ LetsOut (QQ DD G nt ρ w0 X kr k r) := fun ⟨_, _, h⟩ => h
theorem bDw {ro : Option Nat} {N : Nat} {DD : List Deferred} (K : OkC C rec) (hm : C.P.follows .mixedOrders = true) {ρ : cI} {w0 : World} {r : DV × Hp} : ∀ (c : Code), dT c = true → ∀ (X : Nat → Dd.K) (kr k : Dd.K) (a : Act) (w : World),
  St DD G nt ρ w0 (aM C rec nt n c X kr k) r a w → c.wpIn (Fw ro) N C.P (QQ DD G nt ρ w0 X kr k r) a w := by
 intro c
 induction c with
 | skip => intro _ X kr k a w h; exact wpIn_skip h
 | region id ops dr =>
  intro hpc X kr k a w h
  have hd : ∀ o ∈ ops.toList, fX o = true := List.all_eq_true.1 hpc
  obtain ⟨ρ', env, hp, h1, h2, h3, h4, h5, h6, h7⟩ := h
  change (Bool.rec (motive := fun _ => Dd.K) (gT C rec nt ops ops.toList k) (Bool.rec (motive := fun _ => Dd.K) cH (iF C rec nt ops k) (eL C.P ops)) dr) env hp = some r at h7
  cases dr with
  | true =>
   dsimp only at h7
   cases hok : eL C.P ops with
   | false => rw [hok] at h7; cases h7
   | true =>
    rw [hok] at h7
    exact wpIn_region_any hm (aPl hd bZh _ _ _ _ (aQh K hok h7 h2 h3 h5 h6 fun ρ2 env2 h2' a2 w2 e1 e2 e3 e4 e5 e6 e7 => ⟨ρ2, env2, h2', h1.trans e1, e2, e3, h4.trans e4, e5, e6, e7⟩))
  | false =>
   simp only [cond_false] at h7
   obtain ⟨env', h', hr, hk⟩ := lY ops.toList k env hp r h7
   refine wpIn_region ?_
   have := aMd (Q := QQ DD G nt ρ w0 X kr k r) K ops.toList 0 ρ' env hp a w (by simp) hr h2 h3 h5 h6 fun ρ2 a2 w2 e1 e2 e3 e4 e5 e6 => ⟨ρ2, env', h', h1.trans e1, e2, e3, h4.trans e4, e5, e6, hk⟩
   rw [List.range_eq_range']
   exact aQo hd bZh _ _ _ (by simpa using this)
 | seq x y ihx ihy =>
  intro hpc X kr k a w h
  simp only [dT, Bool.and_eq_true] at hpc
  refine wpIn_seq (wpIn_mono (ihx hpc.1 X kr (aM C rec nt n y X kr k) a w h) fun e a' w' hq => ?_)
  cases e with
  | normal => exact ihy hpc.2 X kr k a' w' hq
  | exit id => exact hq
  | ret => exact hq
  | goto l => exact hq
  | panic ch => exact hq
  | outgrown => exact hq
 | cond c x y ihx ihy =>
  intro hpc X kr k a w h
  simp only [dT, Bool.and_eq_true] at hpc
  obtain ⟨ρ', env, hp, h1, h2, h3, h4, h5, h6, h7⟩ := h
  change aT (opr env c) (aM C rec nt n x X kr k env hp) (aM C rec nt n y X kr k env hp) = some r at h7
  have hc := bG h3 c
  unfold aT at h7
  split at h7 <;> (try (cases h7; done))
  ·rename_i hcb
   rw [hcb] at hc
   generalize hcv : a.eval c = cv at hc
   cases hc
   exact wpIn_cond_true hcv (ihx hpc.1 X kr k a w ⟨ρ', env, hp, h1, h2, h3, h4, h5, h6, h7⟩)
  ·rename_i hcb
   rw [hcb] at hc
   generalize hcv : a.eval c = cv at hc
   cases hc
   exact wpIn_cond_false hcv (ihy hpc.2 X kr k a w ⟨ρ', env, hp, h1, h2, h3, h4, h5, h6, h7⟩)
 | block id x ih =>
  intro hpc X kr k a w h
  refine wpIn_block (wpIn_mono (ih hpc (fun j => bif Nat.beq j id then k else X j) kr k a w h) fun e a' w' hq => ?_)
  cases e with
  | normal => exact hq
  | exit id' =>
   simp only [QQ] at hq
   simp only [Exit.inBlock, QQ]
   split
   ·rename_i e
    subst e
    have hb : Nat.beq id' id' = true := Nat.beq_refl id'
    rw [hb] at hq
    exact hq
   ·rename_i e
    have : Nat.beq id' id = false := by
     cases hb : Nat.beq id' id with
     | false => rfl
     | true => exact absurd (Nat.eq_of_beq_eq_true hb) e
    rw [this] at hq
    exact hq
  | ret => exact hq
  | goto l => exact hq
  | panic ch => exact hq
  | outgrown => exact hq
 | loop x ih =>
  intro hpc X kr k a w h
  have key : ∀ (m : Nat) (a : Act) (w : World), St DD G nt ρ w0 (aL (fun kk => aM C rec nt n x X kr kk) m) r a w → Code.roundsIn (Fw ro) N C.P x (QQ DD G nt ρ w0 X kr k r) m a w := by
   intro m
   induction m with
   | zero =>
    rintro a w ⟨ρ', env, hp, h1, h2, h3, h4, h5, h6, h7⟩
    cases h7
   | succ m ihm =>
    intro a w hs
    rw [roundsIn_succ]
    refine wpIn_mono (ih hpc X kr (aL (fun kk => aM C rec nt n x X kr kk) m) a w hs) fun e a' w' hq => ?_
    cases e with
    | normal => exact ihm a' w' hq
    | exit id => exact hq
    | ret => exact hq
    | goto l => exact hq
    | panic ch => exact hq
    | outgrown => exact hq
  exact wpIn_loop_rounds n (key n a w h)
 | exit id => intro _ X kr k a w h; exact wpIn_exit h
 | ret => intro _ X kr k a w h; exact wpIn_ret h
 | _ => intro hpc; cases hpc
end
end Go.Dd

namespace Go.Dd
open Go.RowKit (Below)
section
variable {G G' : Gd} {ρ : cI} {h : Hp} {w : World}
theorem HR.earlyO (H : HR G ρ h w) {b : Pos} (hb : ρ b = none) (hlt : b.toNat < h.next.toNat) (ob : Obj) :
  HR ⟨G.B, fun k => G.X k ∨ k = w.heap.size, G.N, G.W, G.ok⟩ (lU ρ b ⟨w.heap.size, 0, 0, none⟩) h (w.alloc ob) := by
 have hext : Ext ρ (lU ρ b ⟨w.heap.size, 0, 0, none⟩) := by
  intro x L hx
  by_cases e : x = b
  ·subst e; rw [hb] at hx; cases hx
  ·rw [aV _ _ e]; exact hx
 have hrow : h.bl.get b = none := by
  cases hr : h.bl.get b with
  | none => rfl
  | some o => obtain ⟨L, hL⟩ := H.dom b o hr; rw [hb] at hL; cases hL
 have hne : ∀ x o, h.bl.get x = some o → x ≠ b := fun x o hx e => by subst e; rw [hrow] at hx; cases hx
 have hcl : ∀ {x a}, Claims (lU ρ b ⟨w.heap.size, 0, 0, none⟩) h x a → Claims ρ h x a := by
  rintro x a ⟨k, l, L, h1, h2, h3⟩
  rw [aV _ _ (hne x _ h1)] at h2
  exact ⟨k, l, L, h1, h2, h3⟩
 have hblt : ∀ {x a}, Claims ρ h x a → a.block < w.heap.size := fun hc => by
  obtain ⟨v, hv⟩ := H.lt_cell hc
  exact dY hv
 refine { gl := fun k hk => by rw [Below.heap_alloc _ _ _ (Nat.lt_of_lt_of_le hk H.sz.1)]; exact H.gl k hk, sz := ⟨by have := H.sz.1; simp; omega, fun k hk => ?_⟩, nx := H.nx, ro := fun x a h1 h2 => H.ro x a (hcl h1) h2, dom := ?_, lt := ?_, cell := ?_, spare := ?_, free := ?_, inj := ?_, ex := ?_, grone := H.grone, itr := ?_, itj := ?_ }
 ·rcases hk with hk | hk
  ·have := H.sz.2 k hk; simp; omega
  ·simp; omega
 ·intro x o hx
  obtain ⟨L, hL⟩ := H.dom x o hx
  exact ⟨L, hext _ _ hL⟩
 ·intro x L hx
  by_cases e : x = b
  ·subst e; exact hlt
  ·rw [aV _ _ e] at hx; exact H.lt x L hx
 ·intro x k l L i v hx hL hi hv
  rw [aV _ _ (hne x _ hx)] at hL
  obtain ⟨v', h5, h6⟩ := H.cell x k l L i v hx hL hi hv
  exact ⟨v', by rw [dK (dY h5)]; exact h5, h6.mono hext⟩
 ·intro x l L es j hx hL hj
  rw [aV _ _ (hne x _ hx)] at hL
  obtain ⟨v', h5⟩ := H.spare x l L es j hx hL hj
  exact ⟨v', by rw [dK (dY h5)]; exact h5⟩
 ·intro x a hc hr
  have hlt' := hblt (hcl hc)
  obtain ⟨h3, h4, h5⟩ := H.free x a (hcl hc) hr
  refine ⟨by rw [fW (by omega)]; exact h3, h4, ?_⟩
  rintro (hk | hk)
  ·exact h5 hk
  ·omega
 ·intro x x' a hc hc' hr
  exact H.inj x x' a (hcl hc) (hcl hc') hr
 ·intro x l L hx hL
  have : x ≠ b := by rcases hx with hx | hx <;> exact hne x _ hx
  rw [aV _ _ this] at hL
  exact H.ex x l L hx hL
 ·intro x o L h0 hx hL
  rw [aV _ _ (hne x _ hx)] at hL
  obtain ⟨⟨h1, h1'⟩, h2, bs, h3, h4⟩ := H.itr x o L h0 hx hL
  have hlt' : L.bl < w.heap.size := by
   rcases Nat.lt_or_ge L.bl w.heap.size with h | h
   ·exact h
   ·simp [Array.getElem?_eq_none h] at h3
  refine ⟨⟨h1, ?_⟩, h2, bs, by rw [Below.heap_alloc _ _ _ hlt']; exact h3, h4.mono hext⟩
  rintro (hk | hk)
  ·exact h1' hk
  ·omega
 ·intro x o x' o' L L' h0 h0' hx hx' hL hL' he
  rw [aV _ _ (hne x _ hx)] at hL
  rw [aV _ _ (hne x' _ hx')] at hL'
  exact H.itj x o x' o' L L' h0 h0' hx hx' hL hL' he
theorem aQb {w : World} {l : Nat} {o o' : Obj} (hl : w.heap[l]? = some o) (ho : o.isCells = false) (ho' : o'.isCells = false) (a : Addr) : (w.putObj l o').cell? a = w.cell? a := by
 by_cases e : a.block = l
 ·have h1 : (w.putObj l o').heap[a.block]? = some o' := by rw [e]; exact World.putObj_heap_same (Array.getElem?_eq_some_iff.1 hl).1
  have h2 : w.heap[a.block]? = some o := by rw [e]; exact hl
  unfold World.cell?
  rw [h1, h2]
  cases o <;> cases ho <;> cases o' <;> cases ho' <;> rfl
 ·unfold World.cell?
  rw [World.putObj_heap_other e]
theorem aTa {w : World} {l : Nat} {o' : Obj} {a : Addr} (e : a.block ≠ l) : (w.putObj l o').frozen? a = w.frozen? a := by
 unfold World.frozen?
 rw [World.putObj_heap_other e]
theorem HR.putX (H : HR G ρ h w) {l : Nat} {o o' : Obj} (hB : G.B ≤ l) (hX : G.X l) (hl : w.heap[l]? = some o) (ho : o.isCells = false) (ho' : o'.isCells = false) : HR G ρ h (w.putObj l o') where
 gl := fun k hk => by rw [World.putObj_heap_other (by omega)]; exact H.gl k hk
 sz := by
  have e : (w.putObj l o').heap.size = w.heap.size := by simp [World.putObj]
  rw [e]
  exact H.sz
 nx := H.nx
 ro := H.ro
 dom := H.dom
 lt := H.lt
 cell := fun b k L i v v' h1 h2 h3 h4 => by
  obtain ⟨x, h5, h6⟩ := H.cell b k L i v v' h1 h2 h3 h4
  exact ⟨x, by rw [aQb hl ho ho']; exact h5, h6⟩
 spare := fun b k L es j h1 h2 h3 => by
  obtain ⟨x, h5⟩ := H.spare b k L es j h1 h2 h3
  exact ⟨x, by rw [aQb hl ho ho']; exact h5⟩
 free := fun b a h1 h2 => by
  obtain ⟨h3, h4, h5⟩ := H.free b a h1 h2
  exact ⟨by rw [aTa (by intro e; rw [e] at h5; exact h5 hX)]; exact h3, h4, h5⟩
 inj := H.inj
 ex := H.ex
 grone := H.grone
 itr := fun b o2 L h0 h1 h2 => by
  obtain ⟨⟨h3, h4⟩, h5, x, h6, h7⟩ := H.itr b o2 L h0 h1 h2
  exact ⟨⟨h3, h4⟩, h5, x, by rw [World.putObj_heap_other (by intro e; rw [e] at h4; exact h4 hX)]; exact h6, h7⟩
 itj := H.itj
theorem Kp.putX {w0 : World} (k : Kp G w0 w) {l : Nat} {o o' : Obj} (hO : Own G l) (hs : ∀ k, G.X k → k < w0.heap.size) (hB : G.B ≤ w0.heap.size) (hl : w.heap[l]? = some o) : Kp G w0 (w.putObj l o') where
 low := k.low.grown (grownBy_putObj' w l o') (Nat.le_trans hB k.low.size) (fun j e => by cases e; exact hO.1)
 ex := fun j hj => by rw [World.putObj_heap_other (by intro e; subst e; exact hO.2 hj)]; exact k.ex j hj
end
end Go.Dd

namespace Go.Dd
open Go.RowKit (Below)
structure ItC where
 gf : FuncId
 nt : Nat
 pre : Code
 b0 : Nat
 test : Code
 b1 : Nat
 rid : Nat
 front : List Oper
 y : Oper
 back : List Oper
 after : Code
 post : Code
 step : Code
 yd : Tmp
 yt : Tmp
 yx : Tmp
def ItC.ops (I : ItC) : Array Oper := (I.front ++ I.y :: I.back).toArray
def ItC.round (I : ItC) : Code := .seq I.test (.seq (.block I.b1 (.seq (.seq (.region I.rid I.ops false) I.after) I.post)) I.step)
def ItC.code (I : ItC) : Code := .seq I.pre (.block I.b0 (.loop I.round))
def jS : Nat → K := fun _ => cH
def ylB (v : DV) (b : Pos) : Bool := match v with
 | .yl b' => b' == b
 | _ => false
section
variable (C : Cfg) (rec : FuncId → List DV → Hp → aH) (n : Nat) (I : ItC)
noncomputable def pM (b : Bool) (kr k : K) (e1 : aO) : Hp → aH := fun h =>
 cnd (cT I.nt (some I.yd)) (gT C rec I.nt I.ops I.back (aM C rec I.nt n I.after jS kr k) (bO e1 (some I.yd) (.b b)) h)
noncomputable def aOu (nt : Nat) (p : Tmp) (x y : Code) (env : aO) (X : Nat → K) (kr kk : K) : K := fun e1 h1 =>
 cnd (cT nt (some p)) (aM C rec nt n x jS cH (aM C rec nt n y
   (fun i _ h2 => pM C rec n I false (fun _ h3 => X i env h3) cH e1 h2)
   (fun _ h2 => pM C rec n I false (fun _ h3 => kr env h3) cH e1 h2)
   (fun _ h2 => pM C rec n I true cH (aM C rec I.nt n I.post jS cH (aM C rec I.nt n I.step jS cH kk)) e1 h2))
  (bO env (some p) (e1 I.yx)) h1)
noncomputable def mT (nt : Nat) (g : Operand) (p : Tmp) (x y : Code) (X : Nat → K) (kr k : K) : K := fun env h =>
 match opr env g with
 | .f gf [] cap => cnd (Nat.beq gf I.gf) (aM C rec I.nt n I.pre jS cH
   (aL (fun kk => aM C rec I.nt n I.test (fun j => bif Nat.beq j I.b0 then (fun _ h => k env h) else cH) cH
    (gT C rec I.nt I.ops I.front (fun e1 h1 => cnd (ylB (e1 I.yt) h.next) (aOu C rec n I nt p x y env X kr kk e1 h1)))) n)
   (aK (.yl h.next :: cap)) (resv 2 h))
 | _ => none
end
structure ItOk (P : Program) (I : ItC) : Prop where
 pre : dT I.pre = true
 test : dT I.test = true
 after : dT I.after = true
 post : dT I.post = true
 step : dT I.step = true
 ops : ∀ o ∈ I.ops.toList, fX o = true
 dst : I.y.dst = some I.yd
 guard : I.y.guard = none
 op : ∃ tys, I.y.op = .call ⟨.value (.tmp I.yt), #[.tmp I.yx], tys⟩
 fn : ∃ fn, P.funcs[I.gf]? = some fn ∧ fn.body = some I.code ∧ fn.ntmps = I.nt ∧ fn.results = #[] ∧ (fn.name == "runtime.NumGoroutine") = false
theorem aPn {ρ : cI} {args : List DV} {args' : Array Value} (hargs : VRs ρ args args'.toList) (nt : Nat) (ds : List Deferred) : EnvR ρ (aK args) { tmps := args' ++ Array.replicate (nt - args'.size) undef, defers := ds } := by
 intro t
 unfold aK
 have hlen := hargs.length
 simp only [Array.length_toList] at hlen
 by_cases ht : t < args.length
 ·have hg : args[t]? = some args[t] := by simp [ht]
  obtain ⟨v', h2, h3⟩ := hargs.get t _ hg
  simp only [Array.getElem?_toList] at h2
  rw [show args.getD t aX = args[t] by simp [List.getD, hg]]
  have : (args' ++ Array.replicate (nt - args'.size) undef).getD t undef = v' := by
   simp [Array.getElem?_append_left (show t < args'.size by omega), h2]
  rw [this]
  exact h3
 ·have hg : args.getD t aX = aX := by simp [List.getD, List.getElem?_eq_none (Nat.le_of_not_lt ht)]
  rw [hg]
  have : (args' ++ Array.replicate (nt - args'.size) undef).getD t undef = undef := by
   rw [Array.getD_eq_getD_getElem?, Array.getElem?_append_right (by omega)]
   simp only [Array.getElem?_replicate]
   split <;> rfl
  rw [this]
  exact .t [] #[] .nil
def GD (G : Gd) (D : Nat) : Gd := ⟨G.B, fun k => G.X k ∨ k = D, G.N, G.W, G.ok⟩
theorem Ex.ofGD {G : Gd} {D : Nat} {ρ ρ' : cI} (h : Ex (GD G D) ρ ρ') : Ex G ρ ρ' := ⟨h.ext, h.new⟩
theorem Kp.ofGD {G : Gd} {D : Nat} {w w' : World} (h : Kp (GD G D) w w') : Kp G w w' := ⟨h.low, fun k hk => h.ex k (.inl hk)⟩
section
variable {C : Cfg} {G : Gd} {rec : FuncId → List DV → Hp → aH} {n : Nat} {I : ItC} {N : Nat}
def StM (DD : List Deferred) (G : Gd) (nt : Nat) (ρ : cI) (w0 : World) (k : K) (r : DV × Hp) (a : Act) (w : World) : Prop :=
 ∃ D ρ' env h, Ex G ρ ρ' ∧ HR (GD G D) ρ' h w ∧ EnvR ρ' env a ∧ Kp G w0 w ∧ nt ≤ a.tmps.size ∧ a.defers = { target := .collected D, args := #[] } :: DD ∧ Own G D ∧ w.heap[D]? = some (.deferred (some [])) ∧ k env h = some r
def QM (DD : List Deferred) (G : Gd) (nt : Nat) (ρ : cI) (w0 : World) (X : Nat → K) (kr k : K) (r : DV × Hp) : Exit → Act → World → Prop
 | .normal, a, w => StM DD G nt ρ w0 k r a w
 | .exit id, a, w => StM DD G nt ρ w0 (X id) r a w
 | .ret, a, w => StM DD G nt ρ w0 kr r a w
 | _, _, _ => False
structure Iv (G : Gd) (ρ : cI) (w0 : World) (D l : Nat) (rc : Loop) (ρ' : cI) (h : Hp) (W : World) : Prop where
 ex : Ex G ρ ρ'
 hr : HR (GD (GD G D) l) ρ' h W
 kp : Kp G w0 W
 hl : W.heap[l]? = some (.loop rc)
 hD : W.heap[D]? = some (.deferred (some []))
def SS (G : Gd) (ρ : cI) (w0 : World) (D l : Nat) (rc : Loop) (ds : List Deferred) (nt : Nat) (K : K) (r : DV × Hp) (a : Act) (W : World) : Prop :=
 ∃ ρ' env h, Iv G ρ w0 D l rc ρ' h W ∧ EnvR ρ' env a ∧ nt ≤ a.tmps.size ∧ a.defers = ds ∧ K env h = some r
def QS (G : Gd) (ρ : cI) (w0 : World) (D l : Nat) (rc : Loop) (ds : List Deferred) (nt : Nat) (X : Nat → K) (kr k : K) (r : DV × Hp) : Exit → Act → World → Prop
 | .normal, a, w => SS G ρ w0 D l rc ds nt k r a w
 | .exit id, a, w => SS G ρ w0 D l rc ds nt (X id) r a w
 | .ret, a, w => SS G ρ w0 D l rc ds nt kr r a w
 | _, _, _ => False
theorem Iv.step {ρ : cI} {w0 : World} {D l : Nat} {rc : Loop} {ρ' ρ2 : cI} {h h2 : Hp} {W W2 : World} (v : Iv G ρ w0 D l rc ρ' h W) (e : Ex (GD (GD G D) l) ρ' ρ2) (H : HR (GD (GD G D) l) ρ2 h2 W2) (k : Kp (GD (GD G D) l) W W2) : Iv G ρ w0 D l rc ρ2 h2 W2 where
 ex := v.ex.trans e.ofGD.ofGD
 hr := H
 kp := v.kp.trans k.ofGD.ofGD
 hl := by rw [k.ex l (.inr rfl)]; exact v.hl
 hD := by rw [k.ex D (.inl (.inr rfl))]; exact v.hD
theorem jU {ro : Option Nat} (K : OkC C rec) (hm : C.P.follows .mixedOrders = true) {ρ : cI} {w0 : World} {D l : Nat} {rc : Loop} {ds : List Deferred} {nt : Nat} {X : Nat → Dd.K} {kr k : Dd.K} {r : DV × Hp} {a : Act} {W : World} (c : Code) (hc : dT c = true)
  (h : SS G ρ w0 D l rc ds nt (aM C rec nt n c X kr k) r a W) : c.wpIn (Fw ro) N C.P (QS G ρ w0 D l rc ds nt X kr k r) a W := by
 obtain ⟨ρ', env, hp, v, he, hnt, hd, hk⟩ := h
 refine wpIn_mono (bDw (DD := ds) (G := GD (GD G D) l) (ρ := ρ') (w0 := W) K hm c hc X kr k a W ⟨ρ', env, hp, Ex.refl _ _, v.hr, he, Kp.refl _ _, hnt, hd, hk⟩) fun e a' w' hq => ?_
 cases e with
 | normal => obtain ⟨ρ2, env2, h2, e1, e2, e3, e4, e5, e6, e7⟩ := hq; exact ⟨ρ2, env2, h2, v.step e1 e2 e4, e3, e5, e6, e7⟩
 | exit id => obtain ⟨ρ2, env2, h2, e1, e2, e3, e4, e5, e6, e7⟩ := hq; exact ⟨ρ2, env2, h2, v.step e1 e2 e4, e3, e5, e6, e7⟩
 | ret => obtain ⟨ρ2, env2, h2, e1, e2, e3, e4, e5, e6, e7⟩ := hq; exact ⟨ρ2, env2, h2, v.step e1 e2 e4, e3, e5, e6, e7⟩
 | goto l => exact hq
 | panic ch => exact hq
 | outgrown => exact hq
theorem bPs {G : Gd} {ro : Option Nat} (K : OkC C rec) {nt : Nat} {DD : List Deferred} {ops : Array Oper} {Q : Exit → Act → World → Prop} {env' : aO} {h' : Hp} (hops : ∀ o ∈ ops.toList, fX o = true) (hQo : ¬ LetsOut Q) (rest : List Nat) : ∀ (l : List Oper) (i : Nat) (ρ : cI) (env : aO) (h : Hp) (a : Act) (w : World),
  (∀ j : Nat, j < l.length → l[j]? = ops[i + j]?) → xG C rec nt ops l env h env' h' → HR G ρ h w → EnvR ρ env a → nt ≤ a.tmps.size → a.defers = DD →
  (∀ ρ' a' w', Ex G ρ ρ' → HR G ρ' h' w' → EnvR ρ' env' a' → Kp G w w' → nt ≤ a'.tmps.size → a'.defers = DD → wpOpsIn (Fw ro) N C.P ops Q rest a' w') → wpOpsIn (Fw ro) N C.P ops Q (List.range' i l.length ++ rest) a w
 | [], i, ρ, env, h, a, w, _, hr, H, he, hnt, hd, hQ => by
  obtain ⟨rfl, rfl⟩ := hr
  exact hQ ρ a w (Ex.refl G ρ) H he (Kp.refl G w) hnt hd
 | o :: os, i, ρ, env, h, a, w, hl, hr, H, he, hnt, hd, hQ => by
  obtain ⟨hf, v, h1, hs, hr'⟩ := hr
  have hi : ops[i]? = some o := by simpa using (hl 0 (by simp)).symm
  simp only [List.length_cons, List.range'_succ, List.cons_append]
  rw [wpOpsIn_cons]
  refine aLt (K := fun a w => wpOpsIn (Fw ro) N C.P ops Q (List.range' (i + 1) os.length ++ rest) a w) hops hQo (fun _ _ h => h) (tZ (tG K H he hs) rfl hi H fun ρ' w' v' h2 h3 h4 h5 => ?_)
  refine bPs (DD := DD) K hops hQo rest os (i + 1) ρ' _ h1 _ w' (fun j hj => ?_) hr' h4 (he.put h2.ext h3 hf hnt) (by rw [kI]; exact hnt) (by rw [iN]; exact hd) fun ρ2 a2 w2 e1 e2 e3 e4 e5 e6 => ?_
  ·have := hl (j + 1) (by simpa using hj)
   simpa [Nat.add_assoc, Nat.add_comm 1 j] using this
  ·exact hQ ρ2 a2 w2 (h2.trans e1) e2 e3 (h5.trans e4) e5 e6
theorem aYe {ro : Option Nat} (K : OkC C rec) {ρ : cI} {w0 : World} {D l : Nat} {rc : Loop} {ds : List Deferred} {nt : Nat} {k : Dd.K} {r : DV × Hp} {a : Act} {W : World} {ops : Array Oper} {Q : Exit → Act → World → Prop} (hops : ∀ o ∈ ops.toList, fX o = true) (L : List Oper) (i : Nat) (hL : ∀ j : Nat, j < L.length → L[j]? = ops[i + j]?)
  (hQ : ¬ LetsOut Q) (h : SS G ρ w0 D l rc ds nt (gT C rec nt ops L k) r a W) (rest : List Nat) (hn : ∀ a W, SS G ρ w0 D l rc ds nt k r a W → wpOpsIn (Fw ro) N C.P ops Q rest a W) : wpOpsIn (Fw ro) N C.P ops Q (List.range' i L.length ++ rest) a W := by
 obtain ⟨ρ', env, hp, v, he, hnt, hd, hk⟩ := h
 obtain ⟨env', h', hr, hk'⟩ := lY L k env hp r hk
 exact bPs (G := GD (GD G D) l) (DD := ds) K hops hQ rest L i ρ' env hp a W hL hr v.hr he hnt hd fun ρ2 a2 w2 e1 e2 e3 e4 e5 e6 => hn a2 w2 ⟨ρ2, env', h', v.step e1 e2 e4, e3, e5, e6, hk'⟩
end
end Go.Dd

namespace Go.Dd
open Go.RowKit (Below)
theorem bMm {P : Program} {o : Oper} {a : Act} {W : World} {t x p : Tmp} {tys : Array TypeId} {l : Nat} {rc : Loop} (ho : o.op = .call ⟨.value (.tmp t), #[.tmp x], tys⟩) (ht : a.eval (.tmp t) = .func (.yield l) #[] #[])
  (hl : W.heap[l]? = some (.loop rc)) (hp : rc.params = #[p]) : (execOp a.eval o).run P W = .ok (.round l rc.fn (rc.tmps.setIfInBounds p (a.eval (.tmp x))) rc.assign rc.body) W := by
 have hy := run_yield (P := P) (args := #[a.eval (.tmp x)]) hl (by rw [hp]; rfl)
 rw [hp] at hy
 unfold execOp
 rw [ho]
 simp only [resolve, ht, Deferred.ofValue, Sem.run_bind, Sem.run_pure, Result.andThen, List.map_toArray, List.map_cons, List.map_nil]
 simp only [Array.map, List.map] at *
 simpa [invoke] using hy
section
variable {C : Cfg} {G : Gd} {rec : FuncId → List DV → Hp → aH} {n : Nat} {I : ItC} {N : Nat}
def nJ (f : FuncId) (tmps : Array Value) (p : Tmp) (x y : Code) (D : Nat) (st : LoopState) (pe : Option Code) : Loop := { state := st, pending := pe, fn := f, tmps := tmps, params := #[p], assign := x, body := y, defers := D }
theorem Iv.put {ρ : cI} {w0 : World} {D l : Nat} {rc : Loop} {ρ' : cI} {h : Hp} {W : World} (v : Iv G ρ w0 D l rc ρ' h W) (rc' : Loop) (hD : D ≠ l) (hO : Own G l) (hs : ∀ k, G.X k → k < w0.heap.size) (hB : G.B ≤ w0.heap.size) : Iv G ρ w0 D l rc' ρ' h (W.putObj l (.loop rc')) where
 ex := v.ex
 hr := v.hr.putX hO.1 (.inr rfl) v.hl rfl rfl
 kp := v.kp.putX hO hs hB v.hl
 hl := World.putObj_heap_same (Array.getElem?_eq_some_iff.1 v.hl).1
 hD := by rw [World.putObj_heap_other hD]; exact v.hD
def QI (G : Gd) (ρ : cI) (w0 : World) (D l nt : Nat) (rc : LoopState → Option Code → Loop) (env : aO) (X : Nat → K) (kr k : K) (r : DV × Hp) : Exit → Act → World → Prop
 | .normal, a, w => SS G ρ w0 D l (rc .ready none) [] nt (fun _ h => k env h) r a w
 | .ret, a, w => ∃ c J, ((c = .ret ∧ J = kr) ∨ ∃ i, c = .exit i ∧ J = X i) ∧ SS G ρ w0 D l (rc .done (some c)) [] nt (fun _ h => J env h) r a w
 | _, _, _ => False
theorem ItC.ops_size (I : ItC) : I.ops.size = I.front.length + (I.back.length + 1) := by simp [ItC.ops]
theorem ItC.ops_front (I : ItC) (j : Nat) (h : j < I.front.length) : I.front[j]? = I.ops[0 + j]? := by
 simp [ItC.ops, List.getElem?_append_left h]
theorem ItC.ops_y (I : ItC) : I.ops[I.front.length]? = some I.y := by simp [ItC.ops]
theorem ItC.ops_back (I : ItC) (j : Nat) (h : j < I.back.length) : I.back[j]? = I.ops[I.front.length + 1 + j]? := by
 simp only [ItC.ops, List.getElem?_toArray]
 rw [List.getElem?_append_right (by omega), show I.front.length + 1 + j - I.front.length = j + 1 by omega, List.getElem?_cons_succ]
theorem ItC.ops_range (I : ItC) : List.range I.ops.size = List.range' 0 I.front.length ++ I.front.length :: (List.range' (I.front.length + 1) I.back.length ++ []) := by
 rw [I.ops_size, List.range_eq_range', ← List.range'_append_1, List.append_nil, Nat.zero_add, List.range'_succ]
section
variable {ρ : cI} {w0 : World} {D l : Nat} {nt : Nat} {p : Tmp} {x y : Code} {f0 : FuncId} {a0 : Act} {env : aO} {X : Nat → Dd.K} {kr k : Dd.K} {r : DV × Hp} {b : Pos}
theorem bKy (K : OkC C rec) (hm : C.P.follows .mixedOrders = true) (iOk : ItOk C.P I) {rc : LoopState → Option Code → Loop} {kk : Dd.K} {Qr : Exit → Act → World → Prop} (hQr : ¬ LetsOut Qr)
  (ih : ∀ a W, SS G ρ w0 D l (rc .ready none) [] I.nt kk r a W → Qr .normal a W) {a : Act} {W : World}
  (h : SS G ρ w0 D l (rc .ready none) [] I.nt (gT C rec I.nt I.ops I.back (aM C rec I.nt n I.after jS cH (aM C rec I.nt n I.post jS cH (aM C rec I.nt n I.step jS cH kk)))) r a W) :
  wpOpsIn (Fw none) N C.P I.ops (Exit.then (I.after.wpIn (Fw none) N C.P (Exit.then (I.post.wpIn (Fw none) N C.P (Exit.inBlock I.b1 (Exit.then (I.step.wpIn (Fw none) N C.P Qr) Qr))) (Exit.inBlock I.b1 (Exit.then (I.step.wpIn (Fw none) N C.P Qr) Qr)))) (Exit.then (I.post.wpIn (Fw none) N C.P (Exit.inBlock I.b1 (Exit.then (I.step.wpIn (Fw none) N C.P Qr) Qr))) (Exit.inBlock I.b1 (Exit.then (I.step.wpIn (Fw none) N C.P Qr) Qr))))
   (List.range' (I.front.length + 1) I.back.length ++ []) a W := by
 refine aYe K iOk.ops I.back (I.front.length + 1) (fun j hj => I.ops_back j hj) ?_ h [] fun a1 W1 h1 => ?_
 ·rintro ⟨a, w, q⟩
  exact hQr ⟨a, w, q⟩
 show I.after.wpIn (Fw none) N C.P _ a1 W1
 refine wpIn_mono (jU K hm I.after iOk.after h1) fun e a2 W2 hq => ?_
 cases e with
 | normal =>
  show I.post.wpIn (Fw none) N C.P _ a2 W2
  refine wpIn_mono (jU K hm I.post iOk.post hq) fun e a3 W3 hq => ?_
  cases e with
  | normal =>
   show I.step.wpIn (Fw none) N C.P Qr a3 W3
   refine wpIn_mono (jU K hm I.step iOk.step hq) fun e a4 W4 hq => ?_
   cases e with
   | normal => exact ih a4 W4 hq
   | exit id => obtain ⟨_, _, _, _, _, _, _, q⟩ := hq; cases q
   | ret => obtain ⟨_, _, _, _, _, _, _, q⟩ := hq; cases q
   | goto l => exact hq.elim
   | panic ch => exact hq.elim
   | outgrown => exact hq.elim
  | exit id => obtain ⟨_, _, _, _, _, _, _, q⟩ := hq; cases q
  | ret => obtain ⟨_, _, _, _, _, _, _, q⟩ := hq; cases q
  | goto l => exact hq.elim
  | panic ch => exact hq.elim
  | outgrown => exact hq.elim
 | exit id => obtain ⟨_, _, _, _, _, _, _, q⟩ := hq; cases q
 | ret => obtain ⟨_, _, _, _, _, _, _, q⟩ := hq; cases q
 | goto l => exact hq.elim
 | panic ch => exact hq.elim
 | outgrown => exact hq.elim
theorem zM (K : OkC C rec) (hm : C.P.follows .mixedOrders = true) (iOk : ItOk C.P I) {rc : Loop} {J : Dd.K} {Qr : Exit → Act → World → Prop} (hQr : ¬ LetsOut Qr)
  (ih : ∀ a W, SS G ρ w0 D l rc [] I.nt J r a W → Qr .ret a W) {a : Act} {W : World}
  (h : SS G ρ w0 D l rc [] I.nt (gT C rec I.nt I.ops I.back (aM C rec I.nt n I.after jS J cH)) r a W) :
  wpOpsIn (Fw none) N C.P I.ops (Exit.then (I.after.wpIn (Fw none) N C.P (Exit.then (I.post.wpIn (Fw none) N C.P (Exit.inBlock I.b1 (Exit.then (I.step.wpIn (Fw none) N C.P Qr) Qr))) (Exit.inBlock I.b1 (Exit.then (I.step.wpIn (Fw none) N C.P Qr) Qr)))) (Exit.then (I.post.wpIn (Fw none) N C.P (Exit.inBlock I.b1 (Exit.then (I.step.wpIn (Fw none) N C.P Qr) Qr))) (Exit.inBlock I.b1 (Exit.then (I.step.wpIn (Fw none) N C.P Qr) Qr))))
   (List.range' (I.front.length + 1) I.back.length ++ []) a W := by
 refine aYe K iOk.ops I.back (I.front.length + 1) (fun j hj => I.ops_back j hj) ?_ h [] fun a1 W1 h1 => ?_
 ·rintro ⟨a, w, q⟩
  exact hQr ⟨a, w, q⟩
 show I.after.wpIn (Fw none) N C.P _ a1 W1
 refine wpIn_mono (jU K hm I.after iOk.after h1) fun e a2 W2 hq => ?_
 cases e with
 | normal => obtain ⟨_, _, _, _, _, _, _, q⟩ := hq; cases q
 | exit id => obtain ⟨_, _, _, _, _, _, _, q⟩ := hq; cases q
 | ret => exact ih a2 W2 hq
 | goto l => exact hq.elim
 | panic ch => exact hq.elim
 | outgrown => exact hq.elim
end
end
end Go.Dd

namespace Go.Dd
open Go.RowKit (Below)
section
variable {C : Cfg} {G : Gd} {rec : FuncId → List DV → Hp → aH} {n : Nat} {I : ItC} {N : Nat}
variable {ρ : cI} {w0 : World} {D l : Nat} {nt : Nat} {p : Tmp} {x y : Code} {f0 : FuncId} {a0 : Act} {env : aO} {X : Nat → Dd.K} {kr k : Dd.K} {r : DV × Hp} {b : Pos}
noncomputable def aRm (C : Cfg) (rec : FuncId → List DV → Hp → aH) (n : Nat) (I : ItC) (nt : Nat) (p : Tmp) (x y : Code) (env : aO) (X : Nat → K) (kr k : K) (b : Pos) (kk : K) : K :=
 aM C rec I.nt n I.test (fun j => bif Nat.beq j I.b0 then (fun _ h => k env h) else cH) cH
  (gT C rec I.nt I.ops I.front (fun e1 h1 => cnd (ylB (e1 I.yt) b) (aOu C rec n I nt p x y env X kr kk e1 h1)))
theorem dOn {v : DV} {b : Pos} (h : ylB v b = true) : v = .yl b := by
 unfold ylB at h
 split at h
 ·rename_i b'
  have : b' = b := by simpa using h
  rw [this]
 ·cases h
theorem pZ {c : Bool} {q : aH} {z : DV × Hp} (h : cnd c q = some z) : c = true ∧ q = some z := by
 cases c with
 | false => cases h
 | true => exact ⟨rfl, h⟩
theorem Iv.base {rc : Loop} {ρ' : cI} {h : Hp} {W : World} (v : Iv G ρ w0 D l rc ρ' h W) : Iv G ρ' w0 D l rc ρ' h W := ⟨Ex.refl _ _, v.hr, v.kp, v.hl, v.hD⟩
theorem Iv.up {rc : Loop} {ρ' ρ2 : cI} {h : Hp} {W : World} (v : Iv G ρ' w0 D l rc ρ2 h W) (e : Ex G ρ ρ') : Iv G ρ w0 D l rc ρ2 h W := ⟨e.trans v.ex, v.hr, v.kp, v.hl, v.hD⟩
theorem SS.out {rc : Loop} {ds : List Deferred} {nt : Nat} {a : Act} {W : World} (h : SS G ρ w0 D l rc ds nt cH r a W) : False := by
 obtain ⟨_, _, _, _, _, _, _, q⟩ := h
 cases q
theorem cTt (K : OkC C rec) (hm : C.P.follows .mixedOrders = true) (iOk : ItOk C.P I) (hx : dT x = true) (hy : dT y = true) (hDl : D ≠ l) (hOl : Own G l) (hs : ∀ k, G.X k → k < w0.heap.size) (hB : G.B ≤ w0.heap.size)
  (hb : ρ b = some ⟨l, 0, 0, none⟩) (he0 : EnvR ρ env a0) (hnt0 : nt ≤ a0.tmps.size) :
  ∀ (m : Nat) (a : Act) (W : World), SS G ρ w0 D l (nJ f0 a0.tmps p x y D .ready none) [] I.nt (aL (aRm C rec n I nt p x y env X kr k b) m) r a W →
   Code.roundsIn (Fw none) N C.P I.round (Exit.inBlock I.b0 (QI G ρ w0 D l I.nt (nJ f0 a0.tmps p x y D) env X kr k r)) m a W := by
 intro m
 induction m with
 | zero => intro a W h; exact h.out.elim
 | succ m ih =>
  intro a W h
  rw [roundsIn_succ]
  change SS G ρ w0 D l _ [] I.nt (aRm C rec n I nt p x y env X kr k b (aL (aRm C rec n I nt p x y env X kr k b) m)) r a W at h
  refine wpIn_seq (wpIn_mono (jU K hm I.test iOk.test h) fun e a1 W1 hq => ?_)
  cases e with
  | exit id =>
   obtain ⟨ρ', e', h', v, h2, h3, h4, h5⟩ := hq
   dsimp only at h5
   show Exit.inBlock I.b0 (QI G ρ w0 D l I.nt (nJ f0 a0.tmps p x y D) env X kr k r) (.exit id) a1 W1
   cases hid : Nat.beq id I.b0 with
   | false => rw [hid] at h5; cases h5
   | true =>
    rw [hid] at h5
    have e0 : id = I.b0 := Nat.eq_of_beq_eq_true hid
    unfold Exit.inBlock
    simp only
    rw [if_pos e0]
    exact ⟨ρ', e', h', v, h2, h3, h4, h5⟩
  | ret => exact (SS.out hq).elim
  | goto l => exact hq.elim
  | panic ch => exact hq.elim
  | outgrown => exact hq.elim
  | normal =>
   have hQr : ¬ LetsOut (Exit.then (Code.roundsIn (Fw none) N C.P I.round (Exit.inBlock I.b0 (QI G ρ w0 D l I.nt (nJ f0 a0.tmps p x y D) env X kr k r)) m) (Exit.inBlock I.b0 (QI G ρ w0 D l I.nt (nJ f0 a0.tmps p x y D) env X kr k r))) := fun ⟨_, _, q⟩ => q
   show (Code.seq _ _).wpIn (Fw none) N C.P _ a1 W1
   refine wpIn_seq (wpIn_block (wpIn_seq (wpIn_seq (wpIn_region ?_))))
   rw [I.ops_range]
   refine aYe K iOk.ops I.front 0 (fun j hj => I.ops_front j hj) ?_ hq _ fun a2 W2 h2 => ?_
   ·rintro ⟨_, _, q⟩
    exact q
   obtain ⟨ρ', e1, h1, v, he, hnt, hd, hk⟩ := h2
   obtain ⟨hyl, hk⟩ := pZ hk
   obtain ⟨hfp, hk⟩ := pZ hk
   have hyv := he I.yt
   rw [dOn hyl] at hyv
   obtain ⟨L, hL, hyv'⟩ : ∃ L, ρ' b = some L ∧ a2.tmps.getD I.yt undef = .func (.yield L.bl) #[] #[] := by
    generalize hz : a2.tmps.getD I.yt undef = z at hyv
    cases hyv with
    | yl _ L h => exact ⟨L, h, rfl⟩
   rw [v.ex.ext _ _ hb] at hL
   cases hL
   obtain ⟨tys, hop⟩ := iOk.op
   have hrun := bMm (P := C.P) (a := a2) (W := W2) hop hyv' v.hl rfl
   rw [wpOpsIn_cons]
   unfold wpOpIn
   rw [I.ops_y]
   have hw : Region.wanted I.y (yielded I.ops a2.tmps) = true := by simp [Region.wanted, iOk.guard]
   simp only [hw, if_true]
   refine ⟨fun _ _ => trivial, ?_⟩
   show I.y.uponIn (Fw none) N C.P a2 _ _ ((execOp a2.eval I.y).run C.P W2)
   rw [hrun]
   refine ⟨fun e => (by cases e), roundIn_of_wpIn (F := Fw none) trivial ?_⟩
   have put : ∀ (rc' : Loop) {ρ1 ρ2 : cI} {h2 : Hp} {W3 : World} {rc : Loop}, Iv G ρ1 w0 D l rc ρ2 h2 W3 → Iv G ρ1 w0 D l rc' ρ2 h2 (W3.putObj l (.loop rc')) := fun rc' _ _ _ _ _ v => v.put rc' hDl hOl hs hB
   have hass : SS G ρ' w0 D l (nJ f0 a0.tmps p x y D .ready none) [] nt (aM C rec nt n x jS cH (aM C rec nt n y
     (fun i _ h2 => pM C rec n I false (fun _ h3 => X i env h3) cH e1 h2)
     (fun _ h2 => pM C rec n I false (fun _ h3 => kr env h3) cH e1 h2)
     (fun _ h2 => pM C rec n I true cH (aM C rec I.nt n I.post jS cH (aM C rec I.nt n I.step jS cH (aL (aRm C rec n I nt p x y env X kr k b) m))) e1 h2))) r
     { tmps := a0.tmps.setIfInBounds p (a2.eval (.tmp I.yx)), defers := [] } W2 :=
    ⟨ρ', bO env (some p) (e1 I.yx), h1, v.base, (he0.mono v.ex.ext).put (fun _ _ h => h) (he I.yx) hfp hnt0, by simpa using hnt0, rfl, hk⟩
   refine wpIn_mono (jU (ro := some l) K hm x hx hass) fun e a3 W3 hq => ?_
   cases e with
   | exit id => exact (SS.out hq).elim
   | ret => exact (SS.out hq).elim
   | goto l => exact hq.elim
   | panic ch => exact hq.elim
   | outgrown => exact hq.elim
   | normal =>
    obtain ⟨ρ3, e3, h3, v3, he3, hnt3, hd3, hk3⟩ := hq
    refine ⟨_, run_beginRound v3.hl rfl, ?_⟩
    have v4 := put (nJ f0 a0.tmps p x y D .busy none) v3
    have key : ∀ (bb : Bool) (kr' k' : Dd.K) {ρ5 : cI} {h5 : Hp} {W5 : World} {rc : Loop}, Iv G ρ w0 D l rc ρ5 h5 W5 → Ext ρ' ρ5 → pM C rec n I bb kr' k' e1 h5 = some r →
      SS G ρ w0 D l rc [] I.nt (gT C rec I.nt I.ops I.back (aM C rec I.nt n I.after jS kr' k')) r (a2.put (some I.yd) (.bool bb)) W5 := by
     intro bb kr' k' ρ5 h5 W5 rc v5 hext hbk
     obtain ⟨hf5, hk5⟩ := pZ hbk
     exact ⟨ρ5, _, h5, v5, he.put hext (.b bb) hf5 hnt, by rw [kI]; exact hnt, by rw [iN]; exact hd, hk5⟩
    refine wpIn_mono (jU (ro := some l) K hm y hy ⟨ρ3, e3, h3, v4, he3, hnt3, hd3, hk3⟩) fun e a5 W5 hq => ?_
    cases e with
    | normal =>
     obtain ⟨ρ5, e5, h5, v5, he5, hnt5, hd5, hk5⟩ := hq
     refine ⟨_, _, run_endRound none v5.hl, ?_⟩
     show wpOpsIn (Fw none) N C.P I.ops _ _ (a2.put I.y.dst (.bool true)) _
     rw [iOk.dst]
     exact bKy K hm iOk hQr (fun a W h => ih a W h) (key true _ _ ((put (nJ f0 a0.tmps p x y D .ready none) v5).up v.ex) v5.ex.ext hk5)
    | exit i =>
     obtain ⟨ρ5, e5, h5, v5, he5, hnt5, hd5, hk5⟩ := hq
     refine ⟨_, _, run_endRound (some (.exit i)) v5.hl, ?_⟩
     show wpOpsIn (Fw none) N C.P I.ops _ _ (a2.put I.y.dst (.bool false)) _
     rw [iOk.dst]
     exact zM K hm iOk hQr (fun a W h => ⟨_, X i, .inr ⟨i, rfl, rfl⟩, h⟩) (key false _ _ ((put (nJ f0 a0.tmps p x y D .done (some (.exit i))) v5).up v.ex) v5.ex.ext hk5)
    | ret =>
     obtain ⟨ρ5, e5, h5, v5, he5, hnt5, hd5, hk5⟩ := hq
     refine ⟨_, _, run_endRound (some .ret) v5.hl, ?_⟩
     show wpOpsIn (Fw none) N C.P I.ops _ _ (a2.put I.y.dst (.bool false)) _
     rw [iOk.dst]
     exact zM K hm iOk hQr (fun a W h => ⟨_, kr, .inl ⟨rfl, rfl⟩, h⟩) (key false _ _ ((put (nJ f0 a0.tmps p x y D .done (some .ret)) v5).up v.ex) v5.ex.ext hk5)
    | goto l => exact hq.elim
    | panic ch => exact hq.elim
    | outgrown => exact hq.elim
end
end Go.Dd

namespace Go.Dd
open Go.RowKit (Below)
section
variable {C : Cfg} {G : Gd} {rec : FuncId → List DV → Hp → aH} {n : Nat} {I : ItC} {N : Nat}
theorem aFr {P : Program} {fn : Func} (h : fn.results = #[]) (tmps : Array Value) (w : World) : ∃ v, (results fn tmps).run P w = .ok v w := by
 rw [oT, h]
 exact ⟨.tuple #[], by simp [go_sem]⟩
theorem bZz (K : OkC C rec) (hm : C.P.follows .mixedOrders = true) (iOk : ItOk C.P I) {DD : List Deferred} {nt : Nat} {ρ : cI} {w0 : World} {g : Operand} {p : Tmp} {x y : Code} (hx : dT x = true) (hy : dT y = true)
  {X : Nat → Dd.K} {kr k : Dd.K} {r : DV × Hp} {a : Act} {w : World} (h : St DD G nt ρ w0 (mT C rec n I nt g p x y X kr k) r a w) :
  (Code.rangeFunc g #[p] x y).wpIn (Fw none) N C.P (QM DD G nt ρ w0 X kr k r) a w := by
 obtain ⟨ρ1, env, h0, e1, H, he, kp, hnt, hd, hk⟩ := h
 unfold mT at hk
 split at hk <;> (try (cases hk; done))
 rename_i gf cap hg
 obtain ⟨hgf, hk2⟩ := pZ hk
 clear hk
 have hgf' : gf = I.gf := Nat.eq_of_beq_eq_true hgf
 subst hgf'
 have hv := bG he g
 rw [hg] at hv
 obtain ⟨lb, hlb, hge⟩ : ∃ lb, VRs ρ1 cap lb.toList ∧ a.eval g = .func (.func I.gf) #[] lb := by
  generalize a.eval g = z at hv
  cases hv with
  | f _ _ _ x' y' h1 h2 =>
   refine ⟨y', h2, ?_⟩
   have : x' = #[] := by
    obtain ⟨q⟩ := x'
    cases h1
    rfl
   rw [this]
 obtain ⟨fnI, hf, hb, hntI, hres, hname⟩ := iOk.fn
 refine wpIn_rangeFunc ?_
 intro fn _
 obtain ⟨W1, hW1⟩ : ∃ W1, (w.alloc (.deferred (some []))).alloc (.loop (nJ fn a.tmps p x y w.heap.size .ready none)) = W1 := ⟨_, rfl⟩
 have hL1 : W1.heap[w.heap.size + 1]? = some (.loop (nJ fn a.tmps p x y w.heap.size .ready none)) := by
  rw [← hW1]
  have := World.alloc_heap_new (w.alloc (.deferred (some []))) (.loop (nJ fn a.tmps p x y w.heap.size .ready none))
  rwa [World.size_alloc] at this
 have hD1 : W1.heap[w.heap.size]? = some (.deferred (some [])) := by
  rw [← hW1]
  exact (Below.heap_alloc _ _ _ (by simp)).trans (World.alloc_heap_new w _)
 obtain ⟨iargs, hia⟩ : ∃ iargs : Array Value, #[Value.func (.yield (w.heap.size + 1)) #[] #[]] ++ lb = iargs := ⟨_, rfl⟩
 refine ⟨w.heap.size + 1, [{ target := .collected w.heap.size, args := #[] }], W1, { target := .fn (.func I.gf) lb, args := #[Value.func (.yield (w.heap.size + 1)) #[] #[]] }, W1, I.gf,
  iargs, W1, ?_, ?_, fun _ _ => trivial, ?_, fun e => (by cases e), ?_⟩
 ·rw [← hW1]
  exact run_enterLoop_outer _ _ _ _ _
 ·simp only [resolve, hge]
  simp [go_sem]
 ·have hn : ¬ fnI.name = "runtime.NumGoroutine" := by simpa using hname
  unfold invoke
  simp only
  rw [hia]
  unfold callFunc
  simp [hf, hn, hb]
 ·
  have hno : ∀ b : Pos, h0.next.toNat ≤ b.toNat → ρ1 b = none := fun b hb => by
   cases e : ρ1 b with
   | none => rfl
   | some L => have := H.lt b L e; omega
  obtain ⟨n1, n2⟩ := rD 2 h0
  have hN2 : (resv 2 h0).next.toNat = h0.next.toNat + 2 := by rw [n1, dH]
  have hsucc := eDy h0.next
  have H1 := H.reserve 2
  have H2 := H1.earlyO (b := h0.next.succ) (hno _ (by omega)) (by omega) (.deferred (some []))
  have hne : h0.next ≠ h0.next.succ := fun e => by have := congrArg Pos.toNat e; omega
  have H3 := H2.earlyO (b := h0.next) (by rw [aV _ _ hne]; exact hno _ (Nat.le_refl _)) (by omega) (.loop (nJ fn a.tmps p x y w.heap.size .ready none))
  rw [hW1] at H3
  obtain ⟨ρ2, hρ2⟩ : ∃ ρ2, lU (lU ρ1 h0.next.succ ⟨w.heap.size, 0, 0, none⟩) h0.next ⟨(w.alloc (.deferred (some []))).heap.size, 0, 0, none⟩ = ρ2 := ⟨_, rfl⟩
  rw [hρ2] at H3
  have hb2 : ρ2 h0.next = some ⟨w.heap.size + 1, 0, 0, none⟩ := by rw [← hρ2, bV, World.size_alloc]
  have ex2 : Ex G ρ1 ρ2 := by
   refine ⟨fun b L hL => ?_, fun b L hL => ?_⟩
   ·have h1 : b ≠ h0.next := fun e => by rw [e, hno _ (Nat.le_refl _)] at hL; cases hL
    have h2 : b ≠ h0.next.succ := fun e => by rw [e, hno _ (by omega)] at hL; cases hL
    rw [← hρ2, aV _ _ h1, aV _ _ h2]
    exact hL
   ·have hx := H.nx
    by_cases h1 : b = h0.next
    ·exact .inr (by rw [h1]; exact hx)
    ·by_cases h2 : b = h0.next.succ
     ·exact .inr (by rw [h2]; omega)
     ·rw [← hρ2, aV _ _ h1, aV _ _ h2] at hL
      exact .inl hL
  have H4 : HR (GD (GD G w.heap.size) (w.heap.size + 1)) ρ2 (resv 2 h0) W1 := H3.weak rfl (fun k hk => by rw [World.size_alloc]; exact hk) (by have := H.nx; show G.N ≤ (resv 2 h0).next.toNat; omega) rfl
  have kp1 : Kp G w W1 := by
   rw [← hW1]
   refine (dV H.sz _).trans (dV ⟨?_, fun k hk => ?_⟩ _)
   ·have := H.sz.1; simp; omega
   ·have := H.sz.2 k hk; simp; omega
  have hOD : Own G w.heap.size := ⟨H.sz.1, fun hX => Nat.lt_irrefl _ (H.sz.2 _ hX)⟩
  have hOl : Own G (w.heap.size + 1) := ⟨by have := H.sz.1; omega, fun hX => by have := H.sz.2 _ hX; omega⟩
  have hbody : I.code.wpIn (Fw none) (N - 1) C.P (QI G ρ2 w w.heap.size (w.heap.size + 1) I.nt (nJ fn a.tmps p x y w.heap.size) env X kr k r)
    { tmps := iargs ++ Array.replicate (fnI.ntmps - iargs.size) undef, defers := [] } W1 := by
   have hargs : VRs ρ2 (.yl h0.next :: cap) iargs.toList := by
    rw [← hia]
    have := VRs.cons (ρ := ρ2) _ _ _ _ (.yl h0.next _ hb2) (hlb.mono ex2.ext)
    simpa using this
   have hss : SS G ρ2 w w.heap.size (w.heap.size + 1) (nJ fn a.tmps p x y w.heap.size .ready none) [] I.nt
     (aM C rec I.nt n I.pre jS cH (aL (aRm C rec n I nt p x y env X kr k h0.next) n)) r
     { tmps := iargs ++ Array.replicate (fnI.ntmps - iargs.size) undef, defers := [] } W1 :=
    ⟨ρ2, _, _, ⟨Ex.refl _ _, H4, kp1, hL1, hD1⟩, aPn hargs _ _, by rw [hntI]; simp; omega, rfl, hk2⟩
   refine wpIn_seq (wpIn_mono (jU K hm I.pre iOk.pre hss) fun e a1 W2 hq => ?_)
   cases e with
   | exit id => exact (SS.out hq).elim
   | ret => exact (SS.out hq).elim
   | goto l => exact hq.elim
   | panic ch => exact hq.elim
   | outgrown => exact hq.elim
   | normal =>
    show (Code.block I.b0 (.loop I.round)).wpIn (Fw none) (N - 1) C.P _ a1 W2
    exact wpIn_block (wpIn_loop_rounds n (cTt K hm iOk hx hy (by omega) hOl H.sz.2 H.sz.1 hb2 (he.mono ex2.ext) hnt n a1 W2 hq))
  refine callsIn_of_wp hf hb trivial (wpIn_mono hbody fun e a' W' hq => ?_)
  have fin : ∀ (rc : Loop) (J : Dd.K), rc.state ≠ .busy → SS G ρ2 w w.heap.size (w.heap.size + 1) rc [] I.nt (fun _ h => J env h) r a' W' →
    a'.defers = [] ∧ (Instr.endLoop (w.heap.size + 1)).run C.P W' = .ok rc.pending (W'.putObj (w.heap.size + 1) (.loop { rc with state := .exhausted })) ∧
    StM DD G nt ρ w0 J r { a with defers := [{ target := .collected w.heap.size, args := #[] }] ++ a.defers } (W'.putObj (w.heap.size + 1) (.loop { rc with state := .exhausted })) := by
   rintro rc J hst ⟨ρ', e', h', v, _, _, hd', hk'⟩
   have v' := v.put { rc with state := .exhausted } (by omega) hOl H.sz.2 H.sz.1
   refine ⟨hd', run_endLoop v.hl hst, w.heap.size, ρ', env, h', e1.trans (ex2.trans v.ex), v'.hr.weak rfl (fun k hk => .inl hk) (Nat.le_refl _) rfl, he.mono (ex2.trans v.ex).ext, kp.trans v'.kp, hnt, ?_, hOD, v'.hD, hk'⟩
   rw [← hd]
   rfl
  obtain ⟨vv, hvv⟩ := aFr (P := C.P) hres a'.tmps W'
  cases e with
  | normal =>
   obtain ⟨q1, q2, q3⟩ := fin _ k (by intro e; cases e) hq
   exact ⟨q1, vv, hvv, _, _, q2, q3⟩
  | ret =>
   obtain ⟨c, J, hcj, hss⟩ := hq
   obtain ⟨q1, q2, q3⟩ := fin _ J (by intro e; cases e) hss
   refine ⟨q1, vv, hvv, _, _, q2, ?_⟩
   rcases hcj with ⟨rfl, rfl⟩ | ⟨i, rfl, rfl⟩
   ·exact wpIn_ret q3
   ·exact wpIn_exit q3
  | exit id => exact hq.elim
  | goto l => exact hq.elim
  | panic ch => exact hq.elim
  | outgrown => exact hq.elim
end
end Go.Dd

namespace Go.Dd
open Go.RowKit (Below)
noncomputable def dFj (ps : Array Tmp) (k : Tmp → K) : K := match ps.toList with
 | [p] => k p
 | _ => cH
section
variable (C : Cfg) (rec : FuncId → List DV → Hp → aH) (nt n : Nat) (I : ItC)
noncomputable def nS (c : Code) : (Nat → K) → K → K → K :=
 Code.rec (motive := fun _ => (Nat → K) → K → K → K)
  (fun _ _ k => k)
  (fun _ ops dr _ _ k => Bool.rec (motive := fun _ => K) (gT C rec nt ops ops.toList k) (Bool.rec (motive := fun _ => K) cH (iF C rec nt ops k) (eL C.P ops)) dr)
  (fun _ _ iha ihb X kr k => iha X kr (ihb X kr k))
  (fun c _ _ iha ihb X kr k => fun env h => aT (opr env c) (iha X kr k env h) (ihb X kr k env h))
  (fun id _ ih X kr k => ih (fun j => bif Nat.beq j id then k else X j) kr k)
  (fun _ ih X kr _ => aL (fun kk => ih X kr kk) n)
  (fun g ps x y _ _ X kr k => dFj ps fun p => mT C rec n I nt g p x y X kr k)
  (fun id X _ _ => X id)
  (fun _ _ _ _ _ => cH)
  (fun _ _ _ _ => cH)
  (fun _ _ _ _ => cH)
  (fun _ kr _ => kr)
  (fun _ _ _ _ => cH) c
noncomputable def iD (f : FuncId) (args : List DV) (h : Hp) : aH :=
 match C.P.funcs[f]? with
 | some fn => match fn.body with
  | some c => nS C rec fn.ntmps n I c (fun _ => cH) (aQ C fn) (aQ C fn) (aK args) h
  | none => none
 | none => none
end
def gC : Code → Bool
 | .skip => true
 | .region _ ops _ => ops.toList.all fX
 | .seq x y => gC x && gC y
 | .cond _ x y => gC x && gC y
 | .block _ x => gC x
 | .loop x => gC x
 | .rangeFunc _ _ x y => dT x && dT y
 | .exit _ => true
 | .ret => true
 | _ => false
def GDs (G : Gd) (Ds : List Nat) : Gd := ⟨G.B, fun k => G.X k ∨ k ∈ Ds, G.N, G.W, G.ok⟩
def mkD (D : Nat) : Deferred := { target := .collected D, args := #[] }
theorem Ex.ofGDs {G : Gd} {Ds : List Nat} {ρ ρ' : cI} (h : Ex (GDs G Ds) ρ ρ') : Ex G ρ ρ' := ⟨h.ext, h.new⟩
theorem Kp.ofGDs {G : Gd} {Ds : List Nat} {w w' : World} (h : Kp (GDs G Ds) w w') : Kp G w w' := ⟨h.low, fun k hk => h.ex k (.inl hk)⟩
section
variable {C : Cfg} {G : Gd} {rec : FuncId → List DV → Hp → aH} {nt n : Nat} {I : ItC}
def StL (G : Gd) (nt : Nat) (ρ : cI) (w0 : World) (k : K) (r : DV × Hp) (a : Act) (w : World) : Prop :=
 ∃ Ds ρ' env h, Ex G ρ ρ' ∧ HR (GDs G Ds) ρ' h w ∧ EnvR ρ' env a ∧ Kp G w0 w ∧ nt ≤ a.tmps.size ∧ a.defers = Ds.map mkD ∧ Ds.Nodup ∧ (∀ D ∈ Ds, Own G D ∧ w.heap[D]? = some (.deferred (some []))) ∧ k env h = some r
def QL (G : Gd) (nt : Nat) (ρ : cI) (w0 : World) (X : Nat → K) (kr k : K) (r : DV × Hp) : Exit → Act → World → Prop
 | .normal, a, w => StL G nt ρ w0 k r a w
 | .exit id, a, w => StL G nt ρ w0 (X id) r a w
 | .ret, a, w => StL G nt ρ w0 kr r a w
 | _, _, _ => False
theorem cAn {N : Nat} (K : OkC C rec) (hm : C.P.follows .mixedOrders = true) (iOk : ItOk C.P I) {ρ : cI} {w0 : World} {r : DV × Hp} : ∀ (c : Code), gC c = true → ∀ (X : Nat → Dd.K) (kr k : Dd.K) (a : Act) (w : World),
  StL G nt ρ w0 (nS C rec nt n I c X kr k) r a w → c.wpIn (Fw none) N C.P (QL G nt ρ w0 X kr k r) a w := by
 have plain : ∀ (c : Code), dT c = true → ∀ (X : Nat → Dd.K) (kr k : Dd.K) (a : Act) (w : World), StL G nt ρ w0 (aM C rec nt n c X kr k) r a w → c.wpIn (Fw none) N C.P (QL G nt ρ w0 X kr k r) a w := by
  rintro c hc X kr k a w ⟨Ds, ρ', env, h, e1, e2, e3, e4, e5, e6, e7, e8, e9⟩
  have back : ∀ (J : Dd.K) (a' : Act) (w' : World), St (Ds.map mkD) (GDs G Ds) nt ρ' w J r a' w' → StL G nt ρ w0 J r a' w' := by
   rintro J a' w' ⟨ρ2, env2, h2, q1, q2, q3, q4, q5, q6, q7⟩
   exact ⟨Ds, ρ2, env2, h2, e1.trans q1.ofGDs, q2, q3, e4.trans q4.ofGDs, q5, q6, e7, fun D hD => ⟨(e8 D hD).1, by rw [q4.ex D (.inr hD)]; exact (e8 D hD).2⟩, q7⟩
  refine wpIn_mono (bDw (DD := Ds.map mkD) (G := GDs G Ds) (ρ := ρ') (w0 := w) K hm c hc X kr k a w ⟨ρ', env, h, Ex.refl _ _, e2, e3, Kp.refl _ _, e5, e6, e9⟩) fun e a' w' hq => ?_
  cases e with
  | normal => exact back _ _ _ hq
  | exit id => exact back _ _ _ hq
  | ret => exact back _ _ _ hq
  | goto l => exact hq
  | panic ch => exact hq
  | outgrown => exact hq
 intro c
 induction c with
 | skip => intro _ X kr k a w h; exact wpIn_skip h
 | region id ops dr => intro hpc X kr k a w h; exact plain (.region id ops dr) hpc X kr k a w h
 | seq x y ihx ihy =>
  intro hpc X kr k a w h
  simp only [gC, Bool.and_eq_true] at hpc
  refine wpIn_seq (wpIn_mono (ihx hpc.1 X kr (nS C rec nt n I y X kr k) a w h) fun e a' w' hq => ?_)
  cases e with
  | normal => exact ihy hpc.2 X kr k a' w' hq
  | exit id => exact hq
  | ret => exact hq
  | goto l => exact hq
  | panic ch => exact hq
  | outgrown => exact hq
 | cond c x y ihx ihy =>
  intro hpc X kr k a w h
  simp only [gC, Bool.and_eq_true] at hpc
  obtain ⟨Ds, ρ', env, hp, h1, h2, h3, h4, h5, h6, h8, h9, h7⟩ := h
  change aT (opr env c) (nS C rec nt n I x X kr k env hp) (nS C rec nt n I y X kr k env hp) = some r at h7
  have hc := bG h3 c
  unfold aT at h7
  split at h7 <;> (try (cases h7; done))
  ·rename_i hcb
   rw [hcb] at hc
   generalize hcv : a.eval c = cv at hc
   cases hc
   exact wpIn_cond_true hcv (ihx hpc.1 X kr k a w ⟨Ds, ρ', env, hp, h1, h2, h3, h4, h5, h6, h8, h9, h7⟩)
  ·rename_i hcb
   rw [hcb] at hc
   generalize hcv : a.eval c = cv at hc
   cases hc
   exact wpIn_cond_false hcv (ihy hpc.2 X kr k a w ⟨Ds, ρ', env, hp, h1, h2, h3, h4, h5, h6, h8, h9, h7⟩)
 | block id x ih =>
  intro hpc X kr k a w h
  refine wpIn_block (wpIn_mono (ih hpc (fun j => bif Nat.beq j id then k else X j) kr k a w h) fun e a' w' hq => ?_)
  cases e with
  | normal => exact hq
  | exit id' =>
   simp only [QL] at hq
   simp only [Exit.inBlock, QL]
   split
   ·rename_i e
    subst e
    have hb : Nat.beq id' id' = true := Nat.beq_refl id'
    rw [hb] at hq
    exact hq
   ·rename_i e
    have : Nat.beq id' id = false := by
     cases hb : Nat.beq id' id with
     | false => rfl
     | true => exact absurd (Nat.eq_of_beq_eq_true hb) e
    rw [this] at hq
    exact hq
  | ret => exact hq
  | goto l => exact hq
  | panic ch => exact hq
  | outgrown => exact hq
 | loop x ih =>
  intro hpc X kr k a w h
  have key : ∀ (m : Nat) (a : Act) (w : World), StL G nt ρ w0 (aL (fun kk => nS C rec nt n I x X kr kk) m) r a w → Code.roundsIn (Fw none) N C.P x (QL G nt ρ w0 X kr k r) m a w := by
   intro m
   induction m with
   | zero =>
    rintro a w ⟨Ds, ρ', env, hp, h1, h2, h3, h4, h5, h6, h8, h9, h7⟩
    cases h7
   | succ m ihm =>
    intro a w hs
    rw [roundsIn_succ]
    refine wpIn_mono (ih hpc X kr (aL (fun kk => nS C rec nt n I x X kr kk) m) a w hs) fun e a' w' hq => ?_
    cases e with
    | normal => exact ihm a' w' hq
    | exit id => exact hq
    | ret => exact hq
    | goto l => exact hq
    | panic ch => exact hq
    | outgrown => exact hq
  exact wpIn_loop_rounds n (key n a w h)
 | rangeFunc g ps x y ihx ihy =>
  intro hpc X kr k a w h
  simp only [gC, Bool.and_eq_true] at hpc
  obtain ⟨Ds, ρ', env, hp, h1, h2, h3, h4, h5, h6, h8, h9, h7⟩ := h
  change dFj ps (fun p => mT C rec n I nt g p x y X kr k) env hp = some r at h7
  obtain ⟨p, hps, h7⟩ : ∃ p, ps = #[p] ∧ mT C rec n I nt g p x y X kr k env hp = some r := by
   unfold dFj at h7
   obtain ⟨l⟩ := ps
   match l, h7 with
   | [p], h7 => exact ⟨p, rfl, h7⟩
   | [], h7 => cases h7
   | _ :: _ :: _, h7 => cases h7
  subst hps
  have back : ∀ (J : Dd.K) (a' : Act) (w' : World), StM (Ds.map mkD) (GDs G Ds) nt ρ' w J r a' w' → StL G nt ρ w0 J r a' w' := by
   rintro J a' w' ⟨D, ρ2, env2, h2, q1, q2, q3, q4, q5, q6, q7, q8, q9⟩
   have hn : D ∉ Ds := fun hD => q7.2 (.inr hD)
   refine ⟨D :: Ds, ρ2, env2, h2, h1.trans q1.ofGDs, q2.weak rfl (fun k hk => ?_) (Nat.le_refl _) rfl, q3, h4.trans q4.ofGDs, q5, q6, List.nodup_cons.2 ⟨hn, h8⟩, fun E hE => ?_, q9⟩
   ·rcases hk with hk | hk
    ·exact .inl (.inl hk)
    ·rcases List.mem_cons.1 hk with rfl | hk
     ·exact .inr rfl
     ·exact .inl (.inr hk)
   ·rcases List.mem_cons.1 hE with rfl | hE
    ·exact ⟨⟨q7.1, fun hX => q7.2 (.inl hX)⟩, q8⟩
    ·exact ⟨(h9 E hE).1, by rw [q4.ex E (.inr hE)]; exact (h9 E hE).2⟩
  refine wpIn_mono (bZz (DD := Ds.map mkD) (G := GDs G Ds) (ρ := ρ') (w0 := w) K hm iOk hpc.1 hpc.2 ⟨ρ', env, hp, Ex.refl _ _, h2, h3, Kp.refl _ _, h5, h6, h7⟩) fun e a' w' hq => ?_
  cases e with
  | normal => exact back _ _ _ hq
  | exit id => exact back _ _ _ hq
  | ret => exact back _ _ _ hq
  | goto l => exact hq
  | panic ch => exact hq
  | outgrown => exact hq
 | exit id => intro _ X kr k a w h; exact wpIn_exit h
 | ret => intro _ X kr k a w h; exact wpIn_ret h
 | _ => intro hpc; cases hpc
theorem bFe {N : Nat} {fn : Func} {ρ : cI} {w0 : World} {v : DV} {h1 : Hp} {a : Act} : ∀ (Ds : List Nat) (w : World), (∃ ρ' env h, Ex G ρ ρ' ∧ HR (GDs G Ds) ρ' h w ∧ EnvR ρ' env a ∧ Kp G w0 w ∧ aQ C fn env h = some (v, h1)) →
  G.B ≤ w0.heap.size → (∀ k, G.X k → k < w0.heap.size) → Ds.Nodup → (∀ D ∈ Ds, Own G D ∧ w.heap[D]? = some (.deferred (some []))) →
  LeavesInM (Fw none) N C.P fn a.tmps (kM G ρ w0 v h1) (Ds.map mkD) .returning w
 | [], w, ⟨ρ', env, h, e1, e2, e3, e4, e5⟩, _, _, _, _ => by
  obtain ⟨rfl, v', r1, r2⟩ := aEp e2 e3 e5
  exact ⟨v', r1, ρ', v', rfl, e1, r2, e2.weak rfl (fun k hk => .inl hk) (Nat.le_refl _) rfl, e4⟩
 | D :: Ds, w, ⟨ρ', env, h, e1, e2, e3, e4, e5⟩, hB, hs, hnd, hD => by
  obtain ⟨o1, o2⟩ := hD D (by simp)
  have hnd' := List.nodup_cons.1 hnd
  refine ⟨by simp, .inl ⟨D, _, rfl, run_takeDeferred o2, ?_⟩⟩
  refine bFe Ds _ ⟨ρ', env, h, e1, (e2.putX (l := D) (o := .deferred (some [])) (o' := .deferred none) o1.1 (.inr (by simp)) o2 rfl rfl).weak rfl (fun k hk => ?_) (Nat.le_refl _) rfl, e3, e4.putX o1 hs hB o2, e5⟩ hB hs hnd'.2 fun E hE => ?_
  ·rcases hk with hk | hk
   ·exact .inl hk
   ·exact .inr (List.mem_cons_of_mem _ hk)
  ·have hne : E ≠ D := fun e => hnd'.1 (by rw [← e]; exact hE)
   exact ⟨(hD E (List.mem_cons_of_mem _ hE)).1, by rw [World.putObj_heap_other hne]; exact (hD E (List.mem_cons_of_mem _ hE)).2⟩
theorem cDk (K : OkC C rec) (hP : POk C.P) (iOk : ItOk C.P I) (n : Nat) (f : FuncId) (hc : ∀ fn c, C.P.funcs[f]? = some fn → fn.body = some c → gC c = true) : kJ C.P G f (iD C rec n I f) := by
 intro args h v h1 hr ρ w args' H hargs
 unfold iD at hr
 split at hr <;> (try (cases hr; done))
 rename_i fn hf
 split at hr <;> (try (cases hr; done))
 rename_i c hb
 refine .inl ⟨?_, ?_⟩
 ·unfold callFunc
  have hn : ¬ fn.name = "runtime.NumGoroutine" := by simpa using hP.names f fn hf
  simp [hf, hn, hb]
 ·refine (callsIn_wide (n := 3)).1 ?_
  show CallsIn (Fw none) 3 C.P f args' w _
  refine callsIn_of_wp_marks hf hb trivial ?_
  have he := aPn hargs fn.ntmps []
  have hst : StL G fn.ntmps ρ w (nS C rec fn.ntmps n I c (fun _ => cH) (aQ C fn) (aQ C fn)) (v, h1) { tmps := args' ++ Array.replicate (fn.ntmps - args'.size) undef, defers := [] } w :=
   ⟨[], ρ, aK args, h, Ex.refl G ρ, H.weak rfl (fun k hk => by rcases hk with hk | hk; exact hk; cases hk) (Nat.le_refl _) rfl, he, Kp.refl G w, by simp; omega, rfl, List.nodup_nil, (by simp), hr⟩
  refine wpIn_mono (cAn K hP.mixed iOk c (hc fn c hf hb) _ _ _ _ _ hst) fun e a' w' hq => ?_
  have hfin : StL G fn.ntmps ρ w (aQ C fn) (v, h1) a' w' → LeavesInM (Fw none) 3 C.P fn a'.tmps (kM G ρ w v h1) a'.defers .returning w' := by
   rintro ⟨Ds, ρ', env, h', e1, e2, e3, e4, e5, e6, e7, e8, e9⟩
   rw [e6]
   exact bFe Ds w' ⟨ρ', env, h', e1, e2, e3, e4, e9⟩ H.sz.1 H.sz.2 e7 e8
  cases e with
  | normal => exact hfin hq
  | ret => exact hfin hq
  | exit id =>
   obtain ⟨Ds, ρ', env, h', e1, e2, e3, e4, e5, e6, e7, e8, e9⟩ := hq
   cases e9
  | goto l => exact hq.elim
  | panic ch => exact hq.elim
  | outgrown => exact hq.elim
end
end Go.Dd

namespace Go.Dd
noncomputable section
def WT.get (t : WT) : Nat → Int :=
 WT.rec (motive := fun _ => Nat → Int) (fun _ => .ofNat 0)
  (fun _ v _ ihl ihr k => bif Nat.beq k 0 then v else bif Nat.beq (Nat.mod k 2) 1 then ihl (Nat.div k 2) else ihr (Nat.div (Nat.sub k 1) 2)) t
def eEr (x : Int) (fuel : Nat) : Nat → WT → WT :=
 Nat.rec (motive := fun _ => Nat → WT → WT) (fun _ t => t)
  (fun _ ih k t => WT.rec (motive := fun _ => WT)
   (bif Nat.beq k 0 then .n .e x .e else bif Nat.beq (Nat.mod k 2) 1 then .n (ih (Nat.div k 2) .e) (.ofNat 0) .e else .n .e (.ofNat 0) (ih (Nat.div (Nat.sub k 1) 2) .e))
   (fun l v r _ _ => bif Nat.beq k 0 then .n l x r else bif Nat.beq (Nat.mod k 2) 1 then .n (ih (Nat.div k 2) l) v r else .n l v (ih (Nat.div (Nat.sub k 1) 2) r)) t) fuel
def WT.set (t : WT) (k : Nat) (x : Int) : WT := eEr x 24 k t
theorem WT.get_e (k : Nat) : WT.e.get k = 0 := rfl
theorem eEo (l : WT) (v : Int) (r : WT) (k : Nat) : (WT.n l v r).get k = if k = 0 then v else if k % 2 = 1 then l.get (k / 2) else r.get ((k - 1) / 2) := by
 show (bif Nat.beq k 0 then v else bif Nat.beq (Nat.mod k 2) 1 then l.get (Nat.div k 2) else r.get (Nat.div (Nat.sub k 1) 2)) = _
 cases h0 : Nat.beq k 0 with
 | true => have := Nat.eq_of_beq_eq_true h0; subst this; rfl
 | false =>
  have n0 : k ≠ 0 := by intro e; subst e; cases h0
  rw [if_neg n0]
  cases h1 : Nat.beq (Nat.mod k 2) 1 with
  | true => have : k % 2 = 1 := Nat.eq_of_beq_eq_true h1; rw [if_pos this]; rfl
  | false =>
   have n1 : k % 2 ≠ 1 := by intro e; have e' : Nat.mod k 2 = 1 := e; rw [e'] at h1; cases h1
   rw [if_neg n1]; rfl
theorem eEz (x : Int) (f k : Nat) (t : WT) : eEr x (f + 1) k t = match t with
  | .e => if k = 0 then .n .e x .e else if k % 2 = 1 then .n (eEr x f (k / 2) .e) 0 .e else .n .e 0 (eEr x f ((k - 1) / 2) .e)
  | .n l v r => if k = 0 then .n l x r else if k % 2 = 1 then .n (eEr x f (k / 2) l) v r else .n l v (eEr x f ((k - 1) / 2) r) := by
 have hb : ∀ {α : Type} (a b c : α), (bif Nat.beq k 0 then a else bif Nat.beq (Nat.mod k 2) 1 then b else c) = if k = 0 then a else if k % 2 = 1 then b else c := by
  intro α a b c
  cases h0 : Nat.beq k 0 with
  | true => have := Nat.eq_of_beq_eq_true h0; subst this; rfl
  | false =>
   have n0 : k ≠ 0 := by intro e; subst e; cases h0
   rw [if_neg n0]
   cases h1 : Nat.beq (Nat.mod k 2) 1 with
   | true => have : k % 2 = 1 := Nat.eq_of_beq_eq_true h1; rw [if_pos this]; rfl
   | false =>
    have n1 : k % 2 ≠ 1 := by intro e; have e' : Nat.mod k 2 = 1 := e; rw [e'] at h1; cases h1
    rw [if_neg n1]; rfl
 cases t with
 | e => exact hb _ _ _
 | n l v r => exact hb _ _ _
theorem eEu (x : Int) : ∀ (f k : Nat) (t : WT) (j : Nat), k + 1 < 2 ^ f → (eEr x f k t).get j = if j = k then x else t.get j
 | 0, k, t, j, h => by simp at h
 | f + 1, k, t, j, h => by
  have h2 : 2 ^ (f + 1) = 2 * 2 ^ f := by rw [Nat.pow_succ]; omega
  have ih := fun k t j (h : k + 1 < 2 ^ f) => eEu x f k t j h
  rw [eEz]
  cases t with
  | e =>
   simp only
   split
   ·subst_vars
    rw [eEo]
    split
    ·rfl
    ·simp [WT.get_e]
   ·split
    ·rw [eEo]
     split
     ·subst_vars; rw [if_neg (by omega)]; rfl
     ·split
      ·rw [ih _ _ _ (by omega), WT.get_e, WT.get_e]
       by_cases hj : j = k
       ·rw [if_pos hj, if_pos (by omega)]
       ·rw [if_neg hj, if_neg (by omega)]
      ·rw [WT.get_e, if_neg (by omega)]; rfl
    ·rw [eEo]
     split
     ·subst_vars; rw [if_neg (by omega)]; rfl
     ·split
      ·rw [WT.get_e, if_neg (by omega)]; rfl
      ·rw [ih _ _ _ (by omega), WT.get_e, WT.get_e]
       by_cases hj : j = k
       ·rw [if_pos hj, if_pos (by omega)]
       ·rw [if_neg hj, if_neg (by omega)]
  | n l v r =>
   simp only
   split
   ·subst_vars
    rw [eEo, eEo]
    split
    ·rfl
    ·rfl
   ·split
    ·rw [eEo, eEo]
     split
     ·subst_vars; rw [if_neg (by omega)]
     ·split
      ·rw [ih _ _ _ (by omega)]
       by_cases hj : j = k
       ·rw [if_pos hj, if_pos (by omega)]
       ·rw [if_neg hj, if_neg (by omega)]
      ·rw [if_neg (by omega)]
    ·rw [eEo, eEo]
     split
     ·subst_vars; rw [if_neg (by omega)]
     ·split
      ·rw [if_neg (by omega)]
      ·rw [ih _ _ _ (by omega)]
       by_cases hj : j = k
       ·rw [if_pos hj, if_pos (by omega)]
       ·rw [if_neg hj, if_neg (by omega)]
theorem WT.get_set (t : WT) (k : Nat) (x : Int) (j : Nat) (h : k < 16000000) : (t.set k x).get j = if j = k then x else t.get j :=
 eEu x 24 k t j (by omega)
def iE (n : Nat) (t : WT) : List DV := (List.range n).map fun i => .i .i64 (t.get i)
def fU : Pos := .o (.o (.o (.o (.o (.o (.o (.o (.o (.o .h)))))))))
def oP : Pos := .i (.o (.o (.o (.o (.o (.o (.o (.o (.o .h)))))))))
def lS (S : Nat) (t : WT) : Ob := .row .ex [.l fU 0 S S, .i .i64 (t.get 0), .i .i64 (t.get 1), .m oP]
def cSk (g : Nat) (n : Nat) (t : WT) (o : Ob) : Prop :=
 match g with
 | 0 => 2 ≤ n ∧ o = .row .ex (iE n t)
 | 1 => o = .big n t
 | S => match n with
  | 0 => o = lS S t
  | 1 => o = .big S t
  | k + 2 => o = .big (k + 2) t
def dFu (g : Nat) (t : WT) (o : Ob) : Prop :=
 match g with
 | 0 => ∃ es, o = .mp es ∧ ∀ a : Int, iG (.int .i64) (.i .i64 a) es = some (if 0 ≤ a ∧ t.get a.toNat ≠ 0 then some (.b true) else none)
 | _ => o = .mi t
def Rep (g : Nat) : Ob → Ob → Prop
 | .big n t, o => cSk g n t o
 | .mi t, o => dFu g t o
 | o, o' => o' = o
structure Sim (g : Nat) (h h' : Hp) : Prop where
 next : h'.next = h.next
 get : ∀ b o, h.bl.get b = some o → ∃ o', h'.bl.get b = some o' ∧ Rep g o o'
def SimR (g : Nat) (r r' : aH) : Prop := ∀ v h, r = some (v, h) → ∃ h', r' = some (v, h') ∧ Sim g h h'
def SimP (g : Nat) (p p' : Hp → aH) : Prop := ∀ h h', Sim g h h' → SimR g (p h) (p' h')
variable {h h' : Hp} {g : Nat}
theorem Sim.row (S : Sim g h h') {b : Pos} {k : Kind} {l : List DV} (hb : h.bl.get b = some (.row k l)) : h'.bl.get b = some (.row k l) := by
 obtain ⟨o', h1, h2⟩ := S.get b _ hb
 rw [h1, show o' = .row k l from h2]
theorem Sim.it (S : Sim g h h') {b : Pos} {s : List Nat} {p : Nat} (hb : h.bl.get b = some (.it s p)) : h'.bl.get b = some (.it s p) := by
 obtain ⟨o', h1, h2⟩ := S.get b _ hb
 rw [h1, show o' = .it s p from h2]
theorem Sim.mp (S : Sim g h h') {b : Pos} {es : List (DV × DV)} (hb : h.bl.get b = some (.mp es)) : h'.bl.get b = some (.mp es) := by
 obtain ⟨o', h1, h2⟩ := S.get b _ hb
 rw [h1, show o' = .mp es from h2]
theorem Sim.set (S : Sim g h h') {o o' : Ob} (hr : Rep g o o') (b n : Pos) : Sim g ⟨n, Tr.set o b h.bl⟩ ⟨n, Tr.set o' b h'.bl⟩ := by
 refine ⟨rfl, fun x ob hx => ?_⟩
 by_cases e : x = b
 ·subst e
  simp only [eDv, bE] at hx ⊢
  subst hx
  exact ⟨o', rfl, hr⟩
 ·simp only [eDu _ _ _ _ e] at hx ⊢
  exact S.get x ob hx
theorem Sim.setR (S : Sim g h h') (k : Kind) (l : List DV) (b n : Pos) : Sim g ⟨n, Tr.set (.row k l) b h.bl⟩ ⟨n, Tr.set (.row k l) b h'.bl⟩ := S.set (show Rep g (.row k l) (.row k l) from rfl) b n
theorem Sim.setM (S : Sim g h h') (es : List (DV × DV)) (b n : Pos) : Sim g ⟨n, Tr.set (.mp es) b h.bl⟩ ⟨n, Tr.set (.mp es) b h'.bl⟩ := S.set (show Rep g (.mp es) (.mp es) from rfl) b n
theorem Sim.setI (S : Sim g h h') (s : List Nat) (p : Nat) (b n : Pos) : Sim g ⟨n, Tr.set (.it s p) b h.bl⟩ ⟨n, Tr.set (.it s p) b h'.bl⟩ := S.set (show Rep g (.it s p) (.it s p) from rfl) b n
theorem Sim.new (S : Sim g h h') {o o' : Ob} (hr : Rep g o o') : Sim g ⟨h.next.succ, Tr.set o h.next h.bl⟩ ⟨h'.next.succ, Tr.set o' h'.next h'.bl⟩ := by
 rw [S.next]; exact S.set hr _ _
theorem SimR.none (r : aH) : SimR g none r := fun v h e => by cases e
theorem SimR.some (S : Sim g h h') (v : DV) : SimR g (some (v, h)) (some (v, h')) := fun u k e => by
 simp only [bE, bM] at e
 obtain ⟨rfl, rfl⟩ := e
 exact ⟨h', rfl, S⟩
theorem eDx {F : Hp → aH} (hF : PureP F) : SimP g F F := fun h h' S v k e => by
 obtain ⟨rfl, h2⟩ := hF h v k e
 exact ⟨h', h2 h', S⟩
theorem Sim.rowOf (S : Sim g h h') {b : Pos} {l : List DV} (hb : rowOf b h = some l) : rowOf b h' = some l := by
 unfold Dd.rowOf at hb ⊢
 split at hb <;> (try (cases hb; done))
 rename_i k l0 h0
 rw [S.row h0]; exact hb
theorem Sim.cellsAt (S : Sim g h h') {b : Pos} {o n : Nat} {cs : List DV} (hb : cellsAt b o n h = some cs) : cellsAt b o n h' = some cs := by
 unfold Dd.cellsAt at hb ⊢
 split at hb <;> (try (cases hb; done))
 rename_i l h0
 rw [S.rowOf h0]; exact hb
theorem Sim.cellD (S : Sim g h h') {b : Pos} {o : Nat} {v : DV} (hb : cellD b o h = some v) : cellD b o h' = some v := by
 unfold Dd.cellD at hb ⊢
 split at hb <;> (try (cases hb; done))
 rename_i l h0
 rw [S.rowOf h0]; exact hb
theorem Sim.storeAt (S : Sim g h h') {b : Pos} {o : Nat} {vs : List DV} {k : Hp} (hb : dP b o vs h = some k) : ∃ k', dP b o vs h' = some k' ∧ Sim g k k' := by
 unfold dP at hb ⊢
 split at hb <;> (try (cases hb; done))
 rename_i kd l h0
 rw [S.row h0]
 dsimp only
 split at hb <;> (try (cases hb; done))
 rename_i hw
 rw [if_pos hw]
 split at hb <;> (try (cases hb; done))
 rename_i l' hp
 simp only [bE] at hb
 subst hb
 try simp only [hp]
 exact ⟨_, rfl, by rw [S.next]; exact S.set (show Rep g (.row kd l') (.row kd l') from rfl) _ _⟩
theorem aDe (cs : List DV) : SimP g (bD cs) (bD cs) := fun h h' S v k e => by
 simp only [bD, bE, bM] at e ⊢
 obtain ⟨rfl, rfl⟩ := e
 exact ⟨_, ⟨by rw [S.next], rfl⟩, S.new rfl⟩
theorem aBx (b : Pos) (cs : List DV) : SimP g (iZ b cs) (iZ b cs) := fun h h' S v k e => by
 simp only [iZ, bE, bM] at e ⊢
 obtain ⟨rfl, rfl⟩ := e
 exact ⟨_, ⟨rfl, rfl⟩, by rw [S.next]; first | exact S.setR _ _ _ _ | exact S.setM _ _ _ | exact S.setI _ _ _ _⟩
theorem cSt (x : DV) : SimP g (bN x) (bN x) := by
 unfold bN
 cases fK x with
 | none => exact fun h h' S => SimR.none _
 | some cs => exact aDe cs
theorem bNk (b : Pos) (x : DV) : SimP g (wX b x) (wX b x) := by
 unfold wX
 cases fK x with
 | none => exact fun h h' S => SimR.none _
 | some cs => exact aBx b cs
theorem kN (x : DV) : SimP g (aA x) (aA x) := fun h h' S v k e => by
 unfold aA at e ⊢
 split at e <;> (try (cases e; done))
 split at e <;> (try (cases e; done))
 rename_i hc
 simp only [bE, bM] at e
 obtain ⟨rfl, rfl⟩ := e
 simp only [S.cellD hc]
 exact ⟨_, rfl, S⟩
theorem kP (n : Nat) (x : DV) : SimP g (aI n x) (aI n x) := fun h h' S v k e => by
 unfold aI at e ⊢
 split at e <;> (try (cases e; done))
 split at e <;> (try (cases e; done))
 rename_i hc
 simp only [bE, bM] at e
 obtain ⟨rfl, rfl⟩ := e
 simp only [S.cellsAt hc]
 exact ⟨_, rfl, S⟩
theorem kU (n : Nat) (x y : DV) : SimP g (aC n x y) (aC n x y) := fun h h' S v k e => by
 unfold aC at e ⊢
 split at e <;> (try (cases e; done))
 rename_i b o cs hc
 try rw [hc]
 try dsimp only
 split at e <;> (try (cases e; done))
 rename_i hn
 rw [if_pos hn]
 split at e <;> (try (cases e; done))
 rename_i k0 hs
 simp only [bE, bM] at e
 obtain ⟨rfl, rfl⟩ := e
 obtain ⟨k', h1, h2⟩ := S.storeAt hs
 try simp only [h1]
 exact ⟨_, rfl, h2⟩
theorem bLp (size : Nat) (x : DV) (lo hi : Option DV) : SimP g (cS size x lo hi) (cS size x lo hi) := fun h h' S v k e => by
 unfold cS at e ⊢
 split at e <;> (try (cases e; done))
 ·split at e <;> (try (cases e; done))
  rename_i en he
  try simp only [he]
  split at e <;> (try (cases e; done))
  rename_i s hs
  try simp only [hs]
  split at e <;> (try (cases e; done))
  ·rename_i l0 hb
   rw [S.row hb]
   simp only [bE, bM] at e
   obtain ⟨rfl, rfl⟩ := e
   exact ⟨_, rfl, S⟩
  ·rename_i l0 hb
   rw [S.row hb]
   simp only [bE, bM] at e
   obtain ⟨rfl, rfl⟩ := e
   exact ⟨_, rfl, S⟩
  ·rename_i k0 l0 n1 n2 hb
   rw [S.row hb]
   cases k0 with
   | ro => exact absurd rfl n1
   | ex => exact absurd rfl n2
   | gr es =>
    dsimp only
    split at e
    ·rename_i hcs
     simp only [bE, bM] at e
     obtain ⟨rfl, rfl⟩ := e
     rw [if_pos hcs]
     exact ⟨_, rfl, S⟩
    ·rename_i hcs
     simp only [bE, bM] at e
     obtain ⟨rfl, rfl⟩ := e
     rw [if_neg hcs]
     exact ⟨_, rfl, S⟩
   | sp =>
    dsimp only
    split at e
    ·rename_i hcs
     simp only [bE, bM] at e
     obtain ⟨rfl, rfl⟩ := e
     rw [if_pos hcs]
     exact ⟨_, rfl, S⟩
    ·rename_i hcs
     simp only [bE, bM] at e
     obtain ⟨rfl, rfl⟩ := e
     rw [if_neg hcs]
     exact ⟨_, rfl, S⟩
 all_goals
  split at e <;> (try (cases e; done))
  rename_i en he
  try simp only [he]
  split at e <;> (try (cases e; done))
  rename_i s hs
  try simp only [hs]
  simp only [bE, bM] at e
  obtain ⟨rfl, rfl⟩ := e
  exact ⟨_, rfl, S⟩
theorem aWm (x : DV) (lo : Option DV) (hi mx : DV) : SimP g (lQ x lo hi mx) (lQ x lo hi mx) := fun h h' S v k e => by
 unfold lQ at e ⊢
 split at e <;> (try (cases e; done))
 all_goals
  split at e <;> (try (cases e; done))
 ·rename_i m e1
  try simp only [e1]
  split at e <;> (try (cases e; done))
  rename_i n e2
  try simp only [e2]
  simp only [bE, bM] at e
  obtain ⟨rfl, rfl⟩ := e
  exact ⟨_, rfl, S⟩
 ·rename_i m e1
  try simp only [e1]
  split at e <;> (try (cases e; done))
  rename_i n e2
  try simp only [e2]
  simp only [bE, bM] at e
  obtain ⟨rfl, rfl⟩ := e
  exact ⟨_, rfl, S⟩
 ·rename_i n1 n2 e1 e2
  try simp only [e1, e2]
  simp only [bE, bM] at e
  obtain ⟨rfl, rfl⟩ := e
  exact ⟨_, rfl, S⟩
 ·rename_i n1 n2 e1 e2
  try simp only [e1, e2]
  simp only [bE, bM] at e
  obtain ⟨rfl, rfl⟩ := e
  exact ⟨_, rfl, S⟩
theorem bJd (x : DV) : SimP g (iA x) (iA x) := fun h h' S v k e => by
 unfold iA at e ⊢
 split at e <;> (try (cases e; done))
 ·simp only [bE, bM] at e
  obtain ⟨rfl, rfl⟩ := e
  exact ⟨_, rfl, S⟩
 ·split at e <;> (try (cases e; done))
  rename_i cs hc
  simp only [S.cellsAt hc]
  split at e <;> (try (cases e; done))
  rename_i l hl
  try simp only [hl]
  simp only [bE, bM] at e
  obtain ⟨rfl, rfl⟩ := e
  exact ⟨_, rfl, S⟩
theorem wS (z : List DV) (n : Nat) (ps : List (Nat × Nat × DV)) : SimP g (aN z n ps) (aN z n ps) := fun h h' S v k e => by
 unfold aN at e ⊢
 split at e <;> (try (cases e; done))
 rename_i cs hf
 try simp only [hf]
 simp only [bE, bM] at e ⊢
 obtain ⟨rfl, rfl⟩ := e
 exact ⟨_, ⟨by rw [S.next], rfl⟩, S.new rfl⟩
theorem qP (b : Pos) (z : List DV) (n : Nat) (ps : List (Nat × Nat × DV)) : SimP g (aS b z n ps) (aS b z n ps) := fun h h' S v k e => by
 unfold aS at e ⊢
 split at e <;> (try (cases e; done))
 rename_i cs hf
 try simp only [hf]
 simp only [bE, bM] at e ⊢
 obtain ⟨rfl, rfl⟩ := e
 exact ⟨_, ⟨rfl, rfl⟩, by rw [S.next]; first | exact S.setR _ _ _ _ | exact S.setM _ _ _ | exact S.setI _ _ _ _⟩
theorem aQa : SimP g dX dX := fun h h' S v k e => by
 simp only [dX, bE, bM] at e ⊢
 obtain ⟨rfl, rfl⟩ := e
 exact ⟨_, ⟨by rw [S.next], rfl⟩, S.new rfl⟩
theorem Sim.entries (S : Sim g h h') {x : DV} {es : List (DV × DV)} (he : jP x h = some es) : jP x h' = some es := by
 unfold jP at he ⊢
 split at he <;> (try (cases he; done))
 ·exact he
 ·split at he <;> (try (cases he; done))
  rename_i hb
  rw [S.mp hb]; exact he
theorem aVc (d : TypeDesc) (z : DV) (ok : Bool) (x key : DV) : SimP g (gL d z ok x key) (gL d z ok x key) := fun h h' S v k e => by
 unfold gL at e ⊢
 split at e <;> (try (cases e; done))
 rename_i es he
 simp only [S.entries he]
 split at e <;> (try (cases e; done))
 all_goals
  rename_i hf
  try simp only [hf]
  simp only [bE, bM] at e
  obtain ⟨rfl, rfl⟩ := e
  exact ⟨_, rfl, S⟩
theorem aUb (d : TypeDesc) (x key y : DV) : SimP g (gK d x key y) (gK d x key y) := fun h h' S v k e => by
 unfold gK at e ⊢
 split at e <;> (try (cases e; done))
 split at e <;> (try (cases e; done))
 rename_i b _ es hb
 rw [S.mp hb]
 dsimp only
 split at e <;> (try (cases e; done))
 rename_i hf
 try simp only [hf]
 simp only [bE, bM] at e
 obtain ⟨rfl, rfl⟩ := e
 exact ⟨_, rfl, by rw [S.next]; first | exact S.setR _ _ _ _ | exact S.setM _ _ _ | exact S.setI _ _ _ _⟩
theorem aJm (d : TypeDesc) (z x key : DV) : SimP g (iK d z x key) (iK d z x key) := fun h h' S v k e => by
 unfold iK at e ⊢
 split at e <;> (try (cases e; done))
 split at e <;> (try (cases e; done))
 rename_i b _ es hb
 rw [S.mp hb]
 dsimp only
 split at e <;> (try (cases e; done))
 all_goals
  rename_i hf
  try simp only [hf]
  simp only [bE, bM] at e
  obtain ⟨rfl, rfl⟩ := e
  exact ⟨_, rfl, by rw [S.next]; first | exact S.setR _ _ _ _ | exact S.setM _ _ _ | exact S.setI _ _ _ _⟩
theorem zU (x s y : DV) : SimP g (fP x s y) (fP x s y) := fun h h' S v k e => by
 unfold fP at e ⊢
 split at e <;> (try (cases e; done))
 split at e <;> (try (cases e; done))
 rename_i es hb
 rw [S.mp hb]
 dsimp only
 split at e <;> (try (cases e; done))
 rename_i hf
 try simp only [hf]
 simp only [bE, bM] at e
 obtain ⟨rfl, rfl⟩ := e
 exact ⟨_, rfl, by rw [S.next]; first | exact S.setR _ _ _ _ | exact S.setM _ _ _ | exact S.setI _ _ _ _⟩
theorem aBc (size bytes : Nat) (z : List DV) (n c : DV) : SimP g (cG size bytes z n c) (cG size bytes z n c) := fun h h' S v k e => by
 unfold cG at e ⊢
 split at e <;> (try (cases e; done))
 split at e <;> (try (cases e; done))
 rename_i hc
 rw [if_pos hc]
 simp only [bE, bM] at e ⊢
 obtain ⟨rfl, rfl⟩ := e
 exact ⟨_, ⟨by rw [S.next], rfl⟩, S.new rfl⟩
theorem bOg (z : List DV) (x : DV) : SimP g (jH z x) (jH z x) := fun h h' S v k e => by
 unfold jH at e ⊢
 split at e <;> (try (cases e; done))
 ·simp only [bE, bM] at e
  obtain ⟨rfl, rfl⟩ := e
  exact ⟨_, rfl, S⟩
 ·simp only [bE, bM] at e
  obtain ⟨rfl, rfl⟩ := e
  exact ⟨_, rfl, S⟩
 ·split at e
  ·rename_i hn
   simp only [bE, bM] at e
   obtain ⟨rfl, rfl⟩ := e
   simp only [hn, if_true]
   exact ⟨_, rfl, S⟩
  ·rename_i hn
   rw [if_neg hn]
   split at e <;> (try (cases e; done))
   rename_i k0 hs
   simp only [bE, bM] at e
   obtain ⟨rfl, rfl⟩ := e
   obtain ⟨k', h1, h2⟩ := S.storeAt hs
   try simp only [h1]
   exact ⟨_, rfl, h2⟩
theorem Sim.src (S : Sim g h h') {size : Nat} {x : DV} {r : Nat × List DV} (hs : aBj size x h = some r) : aBj size x h' = some r := by
 unfold aBj at hs ⊢
 split at hs <;> (try (cases hs; done))
 ·exact hs
 ·exact hs
 ·split at hs <;> (try (cases hs; done))
  rename_i hc
  simp only [S.cellsAt hc]; exact hs
 ·split at hs <;> (try (cases hs; done))
  rename_i hc
  simp only [S.cellsAt hc]; exact hs
 ·exact hs
theorem aWo (size bytes : Nat) (s x : DV) : SimP g (aW size bytes s x) (aW size bytes s x) := fun h h' S v k e => by
 unfold aW at e ⊢
 split at e <;> (try (cases e; done))
 rename_i n new hs
 simp only [S.src hs]
 split at e <;> (try (cases e; done))
 ·split at e
  ·rename_i hn
   rw [if_pos hn]
   simp only [bE, bM] at e
   obtain ⟨rfl, rfl⟩ := e
   exact ⟨_, rfl, S⟩
  ·rename_i hn
   rw [if_neg hn]
   split at e <;> (try (cases e; done))
   rename_i hr
   rw [if_pos hr]
   simp only [bE, bM] at e ⊢
   obtain ⟨rfl, rfl⟩ := e
   exact ⟨_, ⟨by rw [S.next], rfl⟩, S.new rfl⟩
 ·split at e <;> (try (cases e; done))
  rename_i hn
  rw [if_pos hn]
  simp only [bE, bM] at e
  obtain ⟨rfl, rfl⟩ := e
  exact ⟨_, rfl, S⟩
 ·rename_i b o len cap
  split at e
  ·rename_i hle
   rw [if_pos hle]
   split at e <;> (try (cases e; done))
   rename_i k0 hst
   simp only [bE, bM] at e
   obtain ⟨rfl, rfl⟩ := e
   obtain ⟨k', h1, h2⟩ := S.storeAt hst
   try simp only [h1]
   exact ⟨_, rfl, h2⟩
  ·rename_i hle
   rw [if_neg hle]
   split at e <;> (try (cases e; done))
   rename_i k0 l old hb hold
   rw [S.row hb, S.cellsAt hold]
   dsimp only
   split at e <;> (try (cases e; done))
   rename_i hroom
   rw [if_pos hroom]
   split at e <;> (try (cases e; done))
   ·simp only [bE, bM] at e ⊢
    obtain ⟨rfl, rfl⟩ := e
    exact ⟨_, ⟨by rw [S.next], rfl⟩, S.new rfl⟩
   ·simp only [bE, bM] at e ⊢
    obtain ⟨rfl, rfl⟩ := e
    exact ⟨_, ⟨by rw [S.next], rfl⟩, S.new rfl⟩
   ·split at e <;> (try (cases e; done))
    rename_i hes
    rw [if_pos hes]
    simp only [bE, bM] at e ⊢
    obtain ⟨rfl, rfl⟩ := e
    refine ⟨_, ⟨by rw [S.next], rfl⟩, ?_⟩
    have S1 : Sim g ⟨h.next, Tr.set (.row .sp (bQ o l)) b h.bl⟩ ⟨h'.next, Tr.set (.row .sp (bQ o l)) b h'.bl⟩ := by
     rw [S.next]; exact S.set (show Rep g (.row .sp (bQ o l)) (.row .sp (bQ o l)) from rfl) _ _
    exact S1.new rfl
 ·rename_i b o len cap
  split at e
  ·rename_i hn
   rw [if_pos hn]
   split at e <;> (try (cases e; done))
   rename_i hc
   rw [if_pos hc]
   simp only [bE, bM] at e
   obtain ⟨rfl, rfl⟩ := e
   exact ⟨_, rfl, S⟩
  ·rename_i hn
   rw [if_neg hn]
   split at e <;> (try (cases e; done))
   rename_i hc
   rw [if_neg hc]
   split at e <;> (try (cases e; done))
   rename_i old hold
   simp only [S.cellsAt hold]
   split at e <;> (try (cases e; done))
   rename_i hr
   rw [if_pos hr]
   simp only [bE, bM] at e ⊢
   obtain ⟨rfl, rfl⟩ := e
   exact ⟨_, ⟨by rw [S.next], rfl⟩, S.new rfl⟩
theorem bMq (x : DV) : SimP g (mV x) (mV x) := fun h h' S v k e => by
 unfold mV at e ⊢
 split at e <;> (try (cases e; done))
 simp only [bE, bM] at e ⊢
 obtain ⟨rfl, rfl⟩ := e
 exact ⟨_, ⟨by rw [S.next], rfl⟩, S.new rfl⟩
theorem cEx (x : DV) : SimP g (sY x) (sY x) := fun h h' S v k e => by
 unfold sY at e ⊢
 split at e <;> (try (cases e; done))
 split at e <;> (try (cases e; done))
 rename_i b _ l pos hb
 rw [S.it hb]
 dsimp only
 split at e
 ·rename_i c hc
  try simp only [hc]
  split at e <;> (try (cases e; done))
  rename_i hlt
  rw [if_pos hlt]
  simp only [bE, bM] at e ⊢
  obtain ⟨rfl, rfl⟩ := e
  exact ⟨_, ⟨rfl, rfl⟩, by rw [S.next]; first | exact S.setR _ _ _ _ | exact S.setM _ _ _ | exact S.setI _ _ _ _⟩
 ·rename_i hc
  try simp only [hc]
  simp only [bE, bM] at e ⊢
  obtain ⟨rfl, rfl⟩ := e
  exact ⟨_, ⟨rfl, rfl⟩, S⟩
end
end Go.Dd

namespace Go.Dd
theorem SimP.none {gg : Nat} (p : Hp → aH) : SimP gg (fun _ => Option.none) p := fun h h' S => SimR.none _
theorem SimP.val {gg : Nat} (v : DV) : SimP gg (fun h => some (v, h)) (fun h => some (v, h)) := fun h h' S => SimR.some S v
section
variable {gg : Nat} {P : Program} {I2 I1 : FuncId → Option (List DV → Hp → aH)} {rec2 rec1 : FuncId → List DV → Hp → aH}
theorem aQj (b : Builtin) (ts : List TypeId) (args : List DV) : SimP gg (jJ ⟨P, I2⟩ b ts args) (jJ ⟨P, I1⟩ b ts args) := by
 unfold jJ
 cases b <;> try exact SimP.none _
 case len =>
  match ts, args with
  | [t], [x] =>
   dsimp only
   cases P.underlying t with
   | none => exact SimP.none _
   | some d => cases d <;> first | exact SimP.none _ | exact eDx (aBz x) | exact eDx (mF x)
  | [], _ => exact SimP.none _
  | [_], [] => exact SimP.none _
  | [_], _ :: _ :: _ => exact SimP.none _
  | _ :: _ :: _, _ => exact SimP.none _
 case min =>
  show SimP gg (rR args) (rR args)
  unfold rR
  match args with
  | [x, y] => exact eDx (aQq x y)
  | [] => exact SimP.none _
  | [_] => exact SimP.none _
  | _ :: _ :: _ :: _ => exact SimP.none _
 case max =>
  show SimP gg (rY args) (rY args)
  unfold rY
  match args with
  | [x, y] => exact eDx (aQw x y)
  | [] => exact SimP.none _
  | [_] => exact SimP.none _
  | _ :: _ :: _ :: _ => exact SimP.none _
 case clear =>
  match ts, args with
  | [t], [x] =>
   dsimp only
   cases P.underlying t with
   | none => exact SimP.none _
   | some d =>
    cases d <;> try exact SimP.none _
    rename_i e
    dsimp only
    cases P.info? e with
    | none => exact SimP.none _
    | some i =>
     dsimp only
     cases i.zero with
     | none => exact SimP.none _
     | some z =>
      dsimp only
      by_cases h0 : 0 < z.cells.size
      ·simp only [h0, if_true]; exact bOg _ _
      ·simp only [h0, if_false]; exact SimP.none _
  | [], _ => exact SimP.none _
  | [_], [] => exact SimP.none _
  | [_], _ :: _ :: _ => exact SimP.none _
  | _ :: _ :: _, _ => exact SimP.none _
 case append =>
  match ts, args with
  | [t, u], [s, x] =>
   dsimp only
   have hmain : ∀ e, SimP gg (fun h => match P.info? e with
     | some i => match i.zero with
      | some z => if 0 < i.size ∧ 0 < i.bytes ∧ z.cells.size = i.size then aW i.size i.bytes s x h else none
      | none => none
     | none => none) (fun h => match P.info? e with
     | some i => match i.zero with
      | some z => if 0 < i.size ∧ 0 < i.bytes ∧ z.cells.size = i.size then aW i.size i.bytes s x h else none
      | none => none
     | none => none) := by
    intro e
    cases P.info? e with
    | none => exact SimP.none _
    | some i =>
     dsimp only
     cases i.zero with
     | none => exact SimP.none _
     | some z =>
      dsimp only
      split
      ·exact aWo _ _ _ _
      ·exact SimP.none _
   cases P.underlying t with
   | none => exact SimP.none _
   | some d =>
    cases d <;> try exact SimP.none _
    rename_i e
    cases P.underlying u with
    | none => exact SimP.none _
    | some d2 => cases d2 <;> first | exact SimP.none _ | exact hmain e
  | [], _ => exact SimP.none _
  | [_], _ => exact SimP.none _
  | [_, _], [] => exact SimP.none _
  | [_, _], [_] => exact SimP.none _
  | [_, _], _ :: _ :: _ :: _ => exact SimP.none _
  | _ :: _ :: _ :: _, _ => exact SimP.none _
theorem aBn (HC : ∀ g args, SimP gg (bU ⟨P, I2⟩ rec2 g args) (bU ⟨P, I1⟩ rec1 g args)) (o : Oper) (env : aO) : SimP gg (jB ⟨P, I2⟩ rec2 o env) (jB ⟨P, I1⟩ rec1 o env) := by
 obtain ⟨dst, op, ty, pos, after, guard⟩ := o
 unfold jB
 cases op <;> (try dsimp only) <;> try exact SimP.none _
 case move x => exact SimP.val _
 case assign x => exact SimP.val _
 case pick c x y => exact eDx (aCg _ _ _)
 case alloc t =>
  cases P.info? t with
  | none => exact SimP.none _
  | some i =>
   try dsimp only
   cases i.zero with
   | none => exact SimP.none _
   | some z => exact aDe _
 case box t x => exact cSt _
 case build t ps =>
  cases P.underlying t with
  | none => exact SimP.none _
  | some d =>
   cases d <;> (try dsimp only) <;> try exact SimP.none _
   case array n e =>
    cases P.info? t with
    | none => exact SimP.none _
    | some i =>
     try dsimp only
     split
     ·exact eDx (lA _ _)
     ·exact SimP.none _
   rename_i fs
   cases P.info? t with
   | none => exact SimP.none _
   | some i =>
    try dsimp only
    cases i.zero with
    | none => exact SimP.none _
    | some z =>
     try dsimp only
     generalize fs.toList.mapM (fun f => (P.info? f.type).map fun fi => (f.offset, fi.size)) = pl
     cases pl with
     | none => exact SimP.none _
     | some pl =>
      try dsimp only
      generalize ps.toList.mapM (fun (q : Nat × Operand) => (pl[q.1]?).map fun s => (s.1, s.2, opr env q.2)) = l
      cases l with
      | none => exact SimP.none _
      | some l => exact eDx (lA _ _)
 case buildSlice t n ps =>
  cases P.underlying t with
  | none => exact SimP.none _
  | some d =>
   cases d <;> (try dsimp only) <;> try exact SimP.none _
   rename_i e
   cases P.info? e with
   | none => exact SimP.none _
   | some i =>
    try dsimp only
    cases i.zero with
    | none => exact SimP.none _
    | some z =>
     try dsimp only
     split
     ·exact wS _ _ _
     ·exact SimP.none _
 case load t x =>
  cases P.underlying t with
  | none => exact SimP.none _
  | some d =>
   cases P.info? t with
   | none => exact SimP.none _
   | some i =>
    try dsimp only
    cases jC d with
    | true => exact kP _ _
    | false => exact kN _
 case store t x y =>
  cases P.info? t with
  | none => exact SimP.none _
  | some i => exact kU _ _ _
 case nilCheck x => exact eDx (aRe _)
 case binOp op t x y yt =>
  cases P.underlying t with
  | none => exact SimP.none _
  | some d => cases d <;> first | exact eDx (aPt _ _ _ _) | exact eDx (aRh _ _ _ _)
 case unOp op t x => exact eDx (bBu _ _)
 case convert src dst x =>
  cases P.underlying src with
  | none => exact SimP.none _
  | some d =>
   cases P.underlying dst with
   | none => cases d <;> exact SimP.none _
   | some d2 =>
    cases d2 <;> cases d <;> (try dsimp only) <;> first | exact SimP.none _ | exact eDx (oK _ _) | exact eDx (oR _) | skip
    all_goals
     rename_i e
     cases P.underlying e with
     | none => exact SimP.none _
     | some d3 =>
      cases d3 <;> (try dsimp only) <;> try exact SimP.none _
      rename_i k
      cases k <;> first | exact SimP.none _ | exact bJd _
 case makeFunc fn first cap =>
  cases fn <;> first | exact SimP.none _ | exact SimP.val _
 case slice t x lo hi mx =>
  cases P.underlying t with
  | none => exact SimP.none _
  | some d =>
   cases mx with
   | none =>
    cases d <;> (try dsimp only) <;> first | exact SimP.none _ | exact eDx (mW _ _ _) | skip
    rename_i e
    cases P.info? e with
    | none => exact SimP.none _
    | some i => exact bLp _ _ _ _
   | some m =>
    cases d <;> (try dsimp only) <;> try exact SimP.none _
    rename_i e
    cases P.info? e with
    | none => exact SimP.none _
    | some i =>
     cases hi with
     | none => exact SimP.none _
     | some hv => exact aWm _ _ _ _
 case fieldAddr t x f =>
  cases P.underlying t with
  | none => exact SimP.none _
  | some d =>
   cases d <;> (try dsimp only) <;> try exact SimP.none _
   rename_i fs
   cases fs[f]? with
   | none => exact SimP.none _
   | some fl =>
    try dsimp only
    cases P.info? fl.type with
    | none => exact SimP.none _
    | some i =>
     try dsimp only
     split
     ·exact SimP.none _
     ·exact eDx (yV _ _)
 case field t x f =>
  cases P.underlying t with
  | none => exact SimP.none _
  | some d =>
   cases d <;> (try dsimp only) <;> try exact SimP.none _
   rename_i fs
   cases fs[f]? with
   | none => exact SimP.none _
   | some fl =>
    try dsimp only
    cases P.underlying fl.type with
    | none => exact SimP.none _
    | some d2 =>
     cases P.info? fl.type with
     | none => exact SimP.none _
     | some i =>
      try dsimp only
      cases jC d2 with
      | true => exact eDx (zT _ _ _)
      | false => exact eDx (zG _ _)
 case indexAddr t x ix =>
  cases P.underlying t with
  | none => exact SimP.none _
  | some d =>
   cases d <;> (try dsimp only) <;> try exact SimP.none _
   ·rename_i e
    cases P.info? e with
    | none => exact SimP.none _
    | some i => exact eDx (mM _ _ _)
   ·rename_i n e
    cases P.info? e with
    | none => exact SimP.none _
    | some i => exact eDx (nQ _ _ _ _)
 case index t x ix =>
  cases P.underlying t with
  | none => exact SimP.none _
  | some d => cases d <;> first | exact SimP.none _ | exact eDx (sV _ _)
 case extract x i => exact eDx (pH _ _)
 case range t x =>
  cases P.underlying t with
  | none => exact SimP.none _
  | some d => cases d <;> first | exact SimP.none _ | exact bMq _
 case next x str =>
  cases str with
  | true => simp only [if_true]; exact cEx _
  | false => simp only [Bool.false_eq_true, if_false]; exact SimP.none _
 case makeMap t r => cases r <;> first | exact SimP.none _ | exact aQa
 case lookup t x k ok =>
  cases P.underlying t with
  | none => exact SimP.none _
  | some d =>
   cases d <;> (try dsimp only) <;> try exact SimP.none _
   rename_i kt et
   cases P.underlying kt with
   | none => exact SimP.none _
   | some d2 =>
    cases P.info? et with
    | none => exact SimP.none _
    | some i =>
     try dsimp only
     cases i.zero with
     | none => exact SimP.none _
     | some z =>
      try dsimp only
      cases jO d2 with
      | true => exact aVc _ _ _ _ _
      | false => exact SimP.none _
 case mapUpdate t m k x =>
  cases P.underlying t with
  | none => exact SimP.none _
  | some d =>
   cases d <;> (try dsimp only) <;> try exact SimP.none _
   rename_i kt et
   cases P.underlying kt with
   | none => exact SimP.none _
   | some d2 =>
    try dsimp only
    cases jO d2 with
    | true => exact aUb _ _ _ _
    | false => exact SimP.none _
 case mapEntry t m k =>
  cases P.underlying t with
  | none => exact SimP.none _
  | some d =>
   cases d <;> (try dsimp only) <;> try exact SimP.none _
   rename_i kt et
   cases P.underlying kt with
   | none => exact SimP.none _
   | some d2 =>
    cases P.info? et with
    | none => exact SimP.none _
    | some i =>
     try dsimp only
     cases i.zero with
     | none => exact SimP.none _
     | some z =>
      try dsimp only
      cases jO d2 with
      | true => exact aJm _ _ _ _
      | false => exact SimP.none _
 case entryStore t m s x => exact zU _ _ _
 case makeSlice t n c =>
  cases P.underlying t with
  | none => exact SimP.none _
  | some d =>
   cases d <;> (try dsimp only) <;> try exact SimP.none _
   rename_i e
   cases P.info? e with
   | none => exact SimP.none _
   | some i =>
    try dsimp only
    cases i.zero with
    | none => exact SimP.none _
    | some z =>
     try dsimp only
     split
     ·exact aBc _ _ _ _ _
     ·exact SimP.none _
 case call c =>
  obtain ⟨callee, args, ats⟩ := c
  cases callee with
  | value f =>
   try dsimp only
   unfold dD
   cases opr env f <;> first | exact SimP.none _ | exact HC _ _
  | invoke r m => exact SimP.none _
  | builtin b => exact aQj _ _ _
theorem kR (HC : ∀ g args, SimP gg (bU ⟨P, I2⟩ rec2 g args) (bU ⟨P, I1⟩ rec1 g args)) (all : Array Oper) (o : Oper) (env : aO) :
  SimP gg (bL ⟨P, I2⟩ rec2 all o env) (bL ⟨P, I1⟩ rec1 all o env) := by
 unfold bL
 cases o.guard with
 | none => exact aBn HC o env
 | some g =>
  obtain ⟨j, want⟩ := g
  dsimp only
  unfold gD
  cases bIf all j env <;> try exact SimP.none _
  ·rename_i x
   dsimp only
   split
   ·exact aBn HC o env
   ·exact SimP.val _
  ·rename_i vs
   cases vs with
   | nil => exact SimP.val _
   | cons a b => exact SimP.none _
def SimK (gg : Nat) (k k' : K) : Prop := ∀ env, SimP gg (k env) (k' env)
theorem eEc {r r' : aH} {k k' : DV → Hp → aH} (h : SimR gg r r') (hk : ∀ v, SimP gg (k v) (k' v)) : SimR gg (bnd r k) (bnd r' k') := by
 intro v h1 e
 obtain ⟨u, h0, e1, e2⟩ := dF e
 obtain ⟨h0', f1, S⟩ := h u h0 e1
 obtain ⟨h1', g1, S1⟩ := hk u h0 h0' S v h1 e2
 exact ⟨h1', by rw [f1]; exact g1, S1⟩
theorem eEs {b b' : Bool} {r r' : aH} (hb : b = true → b' = true) (h : SimR gg r r') : SimR gg (cnd b r) (cnd b' r') := by
 cases b with
 | false => exact fun v k e => by cases e
 | true => rw [hb rfl]; exact h
theorem pW (HC : ∀ g args, SimP gg (bU ⟨P, I2⟩ rec2 g args) (bU ⟨P, I1⟩ rec1 g args)) (nt : Nat) (all : Array Oper) {k k' : K} (hk : SimK gg k k') :
  ∀ l : List Oper, SimK gg (gT ⟨P, I2⟩ rec2 nt all l k) (gT ⟨P, I1⟩ rec1 nt all l k')
 | [] => hk
 | o :: l => fun env h h' S => by
  change SimR gg (cnd (cT nt o.dst) (bnd (bL ⟨P, I2⟩ rec2 all o env h) fun v h1 => gT ⟨P, I2⟩ rec2 nt all l k (bO env o.dst v) h1))
   (cnd (cT nt o.dst) (bnd (bL ⟨P, I1⟩ rec1 all o env h') fun v h1 => gT ⟨P, I1⟩ rec1 nt all l k' (bO env o.dst v) h1))
  exact eEs id (eEc (kR HC all o env h h' S) fun v => pW HC nt all hk l _)
theorem aAz {gg : Nat} (b : Pos) : SimP gg (jL b) (jL b) := by
 intro h h' S v k e
 simp only [jL, bE, bM] at e ⊢
 obtain ⟨rfl, rfl⟩ := e
 exact ⟨_, ⟨rfl, rfl⟩, by rw [S.next]; first | exact S.setR _ _ _ _ | exact S.setM _ _ _ | exact S.setI _ _ _ _⟩
theorem dPj (o : Oper) (b : Pos) (env : aO) : SimP gg (dQ ⟨P, I2⟩ o b env) (dQ ⟨P, I1⟩ o b env) := by
 obtain ⟨dst, op, ty, pos, after, guard⟩ := o
 unfold dQ
 cases op <;> (try dsimp only) <;> try exact SimP.none _
 case alloc t =>
  cases P.info? t with
  | none => exact SimP.none _
  | some i =>
   dsimp only
   cases i.zero with
   | none => exact SimP.none _
   | some z => exact aBx _ _
 case makeMap t r => cases r with
  | none => exact aAz _
  | some _ => exact SimP.none _
 case box t x => exact bNk _ _
 case buildSlice t n ps =>
  cases P.underlying t with
  | none => exact SimP.none _
  | some d =>
   cases d <;> (try dsimp only) <;> try exact SimP.none _
   rename_i e
   cases P.info? e with
   | none => exact SimP.none _
   | some i =>
    dsimp only
    cases i.zero with
    | none => exact SimP.none _
    | some z =>
     dsimp only
     split
     ·exact qP _ _ _ _
     ·exact SimP.none _
theorem SimR.same {r r' : aH} (h : SimR gg r r') {v : DV} (hs : aZ r v = true) : aZ r' v = true := by
 unfold aZ at hs ⊢
 split at hs
 ·rename_i x k
  obtain ⟨k', e, _⟩ := h x k rfl
  rw [e]; exact hs
 ·cases hs
inductive SimHs (gg : Nat) : List (Option Nat × Hp) → List (Option Nat × Hp) → Prop
 | nil : SimHs gg [] []
 | cons {j : Option Nat} {h h' : Hp} {l l' : List (Option Nat × Hp)} (S : Sim gg h h') (T : SimHs gg l l') : SimHs gg ((j, h) :: l) ((j, h') :: l')
theorem sJ (m : Array Nat) (i : Nat) (v : DV) {look look' : Hp → aH} (hl : SimP gg look look') : ∀ (dirty : Bool) {hs hs' : List (Option Nat × Hp)}, SimHs gg hs hs' →
  eJ m i v look dirty hs = true → eJ m i v look' dirty hs' = true
 | dirty, _, _, .nil, h => h
 | dirty, _, _, .cons (j := j) S T, h => by
  unfold eJ at h ⊢
  rw [Bool.and_eq_true] at h ⊢
  refine ⟨?_, ?_⟩
  ·have h1 := h.1
   cases dirty with
   | true => exact SimR.same (hl _ _ S) h1
   | false => exact h1
  ·have h2 := h.2
   cases j with
   | none => exact h2
   | some j =>
    dsimp only at h2 ⊢
    cases ho : gM m j i with
    | true => rfl
    | false =>
     rw [ho] at h2
     exact sJ m i v hl true T h2
inductive SimSeen (gg : Nat) : List Seen → List Seen → Prop
 | nil : SimSeen gg [] []
 | cons {i : Nat} {look look' : Hp → aH} {v : DV} {l l' : List Seen} (S : SimP gg look look') (T : SimSeen gg l l') : SimSeen gg (⟨i, look, v⟩ :: l) (⟨i, look', v⟩ :: l')
theorem SimSeen.all {m : Array Nat} {i : Nat} {h h' : Hp} (S : Sim gg h h') : ∀ {l l' : List Seen}, SimSeen gg l l' →
  l.all (fun q => gM m q.at_ i || aZ (q.look h) q.v) = true → l'.all (fun q => gM m q.at_ i || aZ (q.look h') q.v) = true
 | _, _, .nil, e => e
 | _, _, .cons (i := i0) (v := v) S1 T, e => by
  rw [List.all_cons, Bool.and_eq_true] at e ⊢
  refine ⟨?_, SimSeen.all S T e.2⟩
  have h1 := e.1
  rw [Bool.or_eq_true] at h1 ⊢
  exact h1.imp id fun hs => SimR.same (S1 _ _ S) hs
theorem mN (HC : ∀ g args, SimP gg (bU ⟨P, I2⟩ rec2 g args) (bU ⟨P, I1⟩ rec1 g args)) (nt : Nat) (all : Array Oper) (m : Array Nat) (p0 : Pos) {k k' : K} (hk : SimK gg k k') :
  ∀ (l : List Oper) (i c : Nat) (dirty : Bool) {rd rd' : List Seen} {hs hs' : List (Option Nat × Hp)}, SimSeen gg rd rd' → SimHs gg hs hs' →
   SimK gg (eF ⟨P, I2⟩ rec2 nt all m p0 l k i c dirty rd hs) (eF ⟨P, I1⟩ rec1 nt all m p0 l k' i c dirty rd' hs')
 | [], i, c, dirty, rd, rd', hs, hs', R, T => hk
 | o :: l, i, c, dirty, rd, rd', hs, hs', R, T => fun env h h' S => by
  change SimR gg (cnd (cT nt o.dst) (
   match bS P o.op with
   | .pure => bnd (bL ⟨P, I2⟩ rec2 all o env h) fun v h' => eF ⟨P, I2⟩ rec2 nt all m p0 l k (i + 1) c dirty rd hs (bO env o.dst v) h'
   | .reads => bnd (bL ⟨P, I2⟩ rec2 all o env h) fun v h' =>
     cnd (eJ m i v (bL ⟨P, I2⟩ rec2 all o env) dirty hs) (eF ⟨P, I2⟩ rec2 nt all m p0 l k (i + 1) c dirty (⟨i, bL ⟨P, I2⟩ rec2 all o env, v⟩ :: rd) hs (bO env o.dst v) h')
   | .makes => bnd (dQ ⟨P, I2⟩ o (bB c p0) env h) fun v h' => eF ⟨P, I2⟩ rec2 nt all m p0 l k (i + 1) (c + 1) true rd hs (bO env o.dst v) h'
   | .acts => bnd (bL ⟨P, I2⟩ rec2 all o env h) fun v h' =>
     cnd (rd.all (fun q => gM m q.at_ i || aZ (q.look h') q.v)) (eF ⟨P, I2⟩ rec2 nt all m p0 l k (i + 1) c false rd ((some i, h') :: hs) (bO env o.dst v) h')))
   (cnd (cT nt o.dst) (
   match bS P o.op with
   | .pure => bnd (bL ⟨P, I1⟩ rec1 all o env h') fun v h' => eF ⟨P, I1⟩ rec1 nt all m p0 l k' (i + 1) c dirty rd' hs' (bO env o.dst v) h'
   | .reads => bnd (bL ⟨P, I1⟩ rec1 all o env h') fun v h' =>
     cnd (eJ m i v (bL ⟨P, I1⟩ rec1 all o env) dirty hs') (eF ⟨P, I1⟩ rec1 nt all m p0 l k' (i + 1) c dirty (⟨i, bL ⟨P, I1⟩ rec1 all o env, v⟩ :: rd') hs' (bO env o.dst v) h')
   | .makes => bnd (dQ ⟨P, I1⟩ o (bB c p0) env h') fun v h' => eF ⟨P, I1⟩ rec1 nt all m p0 l k' (i + 1) (c + 1) true rd' hs' (bO env o.dst v) h'
   | .acts => bnd (bL ⟨P, I1⟩ rec1 all o env h') fun v h' =>
     cnd (rd'.all (fun q => gM m q.at_ i || aZ (q.look h') q.v)) (eF ⟨P, I1⟩ rec1 nt all m p0 l k' (i + 1) c false rd' ((some i, h') :: hs') (bO env o.dst v) h')))
  refine eEs id ?_
  cases bS P o.op with
  | pure => exact eEc (kR HC all o env h h' S) fun v => mN HC nt all m p0 hk l _ _ _ R T _
  | reads =>
   exact eEc (kR HC all o env h h' S) fun v h1 h1' S1 => eEs (sJ m i v (kR HC all o env) dirty T)
    (mN HC nt all m p0 hk l _ _ _ (.cons (kR HC all o env) R) T _ _ _ S1)
  | makes => exact eEc (dPj o _ env h h' S) fun v => mN HC nt all m p0 hk l _ _ _ R T _
  | acts =>
   exact eEc (kR HC all o env h h' S) fun v h1 h1' S1 => eEs (SimSeen.all S1 R)
    (mN HC nt all m p0 hk l _ _ _ R (.cons S1 T) _ _ _ S1)
theorem Sim.resv {gg : Nat} {h h' : Hp} (S : Sim gg h h') (k : Nat) : Sim gg (resv k h) (resv k h') := by
 cases k with
 | zero => exact S
 | succ k => exact ⟨by show bB (k + 1) h'.next = bB (k + 1) h.next; rw [S.next], S.get⟩
theorem cEu (HC : ∀ g args, SimP gg (bU ⟨P, I2⟩ rec2 g args) (bU ⟨P, I1⟩ rec1 g args)) (nt : Nat) (ops : Array Oper) {k k' : K} (hk : SimK gg k k') :
  SimK gg (iF ⟨P, I2⟩ rec2 nt ops k) (iF ⟨P, I1⟩ rec1 nt ops k') := fun env h h' S => by
 unfold iF
 rw [S.next]
 exact mN HC nt ops _ _ hk _ _ _ _ .nil (.cons (S.resv _) .nil) env _ _ (S.resv _)
theorem aJy {c : DV} {a b a' b' : aH} (ha : SimR gg a a') (hb : SimR gg b b') : SimR gg (aT c a b) (aT c a' b') := by
 unfold aT
 cases c <;> try exact SimR.none _
 rename_i x
 cases x
 ·exact hb
 ·exact ha
theorem pV {b b' : K → K} (hb : ∀ k k', SimK gg k k' → SimK gg (b k) (b' k')) : ∀ (n d : Nat), SimK gg (aL b n) (aL b' (n + d))
 | 0, d => fun env h h' S v k e => by cases e
 | n + 1, d => by
  rw [show n + 1 + d = (n + d) + 1 from by omega]
  exact hb _ _ (pV hb n d)
theorem fR (HC : ∀ g args, SimP gg (bU ⟨P, I2⟩ rec2 g args) (bU ⟨P, I1⟩ rec1 g args)) (nt n d : Nat) : ∀ (c : Code) (X X' : Nat → K) (kr kr' k k' : K), (∀ j, SimK gg (X j) (X' j)) → SimK gg kr kr' → SimK gg k k' →
  SimK gg (aM ⟨P, I2⟩ rec2 nt n c X kr k) (aM ⟨P, I1⟩ rec1 nt (n + d) c X' kr' k') := by
 intro c
 have hfail : ∀ k', SimK gg cH k' := fun k' env h h' S v k e => by cases e
 induction c with
 | skip => intro X X' kr kr' k k' hX hr hk; exact hk
 | region id ops dr =>
  intro X X' kr kr' k k' hX hr hk
  change SimK gg (Bool.rec (motive := fun _ => K) (gT ⟨P, I2⟩ rec2 nt ops ops.toList k) (Bool.rec (motive := fun _ => K) cH (iF ⟨P, I2⟩ rec2 nt ops k) (eL P ops)) dr)
   (Bool.rec (motive := fun _ => K) (gT ⟨P, I1⟩ rec1 nt ops ops.toList k') (Bool.rec (motive := fun _ => K) cH (iF ⟨P, I1⟩ rec1 nt ops k') (eL P ops)) dr)
  cases dr with
  | false => exact pW HC nt ops hk _
  | true =>
   cases eL P ops with
   | false => exact hfail _
   | true => exact cEu HC nt ops hk
 | seq x y ihx ihy => intro X X' kr kr' k k' hX hr hk; exact ihx _ _ _ _ _ _ hX hr (ihy _ _ _ _ _ _ hX hr hk)
 | cond c x y ihx ihy =>
  intro X X' kr kr' k k' hX hr hk env h h' S
  exact aJy (ihx _ _ _ _ _ _ hX hr hk env h h' S) (ihy _ _ _ _ _ _ hX hr hk env h h' S)
 | block id x ih =>
  intro X X' kr kr' k k' hX hr hk
  refine ih _ _ _ _ _ _ (fun j => ?_) hr hk
  cases hj : Nat.beq j id with
  | true => exact hk
  | false => exact hX j
 | loop x ih =>
  intro X X' kr kr' k k' hX hr hk
  exact pV (fun k k' hk => ih _ _ _ _ _ _ hX hr hk) n d
 | rangeFunc f ps x y ihx ihy => intro X X' kr kr' k k' hX hr hk; exact hfail _
 | exit id => intro X X' kr kr' k k' hX hr hk; exact hX id
 | scope x ih => intro X X' kr kr' k k' hX hr hk; exact ih _ _ _ _ _ _ hX hr hk
 | label l => intro X X' kr kr' k k' hX hr hk; exact hk
 | goto l => intro X X' kr kr' k k' hX hr hk; exact hfail _
 | ret => intro X X' kr kr' k k' hX hr hk; exact hr
 | refuse why => intro X X' kr kr' k k' hX hr hk; exact hfail _
theorem bLi {h h' : Hp} (S : Sim gg h h') (t : TypeId) (x : DV) {k k' : DV → aH} (hk : ∀ v, SimR gg (k v) (k' v)) : SimR gg (aBw ⟨P, I2⟩ t x h k) (aBw ⟨P, I1⟩ t x h' k') := by
 unfold aBw
 dsimp only
 cases P.underlying t with
 | none => exact SimR.none _
 | some d =>
  cases P.info? t with
  | none => exact SimR.none _
  | some i =>
   dsimp only
   refine eEc ?_ fun v _ _ _ => hk v
   cases jC d with
   | true => exact kP _ _ h h' S
   | false => exact kN _ h h' S
theorem rN {h h' : Hp} (S : Sim gg h h') (env : aO) : ∀ (l : List ResultVar) (k k' : List DV → aH), (∀ vs, SimR gg (k vs) (k' vs)) → SimR gg (bBq ⟨P, I2⟩ env h l k) (bBq ⟨P, I1⟩ env h' l k')
 | [], k, k', hk => hk []
 | .tmp t :: l, k, k', hk => rN S env l _ _ fun vs => hk _
 | .cell a t :: l, k, k', hk => bLi S t (env a) fun v => rN S env l _ _ fun vs => hk _
theorem qN (fn : Func) : SimK gg (aQ ⟨P, I2⟩ fn) (aQ ⟨P, I1⟩ fn) := fun env h h' S => by
 unfold aQ
 refine rN S env _ _ _ fun vs => ?_
 unfold cIk
 match vs with
 | [v] => exact SimR.some S _
 | [] => exact SimR.some S _
 | _ :: _ :: _ => exact SimR.some S _
theorem kK (HC : ∀ g args, SimP gg (bU ⟨P, I2⟩ rec2 g args) (bU ⟨P, I1⟩ rec1 g args)) (n d : Nat) (f : FuncId) (args : List DV) :
  SimP gg (aG ⟨P, I2⟩ rec2 n f args) (aG ⟨P, I1⟩ rec1 (n + d) f args) := by
 intro h h' S
 unfold aG
 dsimp only
 cases P.funcs[f]? with
 | none => exact SimR.none _
 | some fn =>
  dsimp only
  cases fn.body with
  | none => exact SimR.none _
  | some c => exact fR HC fn.ntmps n d c _ _ _ _ _ _ (fun _ _ _ _ _ _ _ e => by cases e) (qN fn) (qN fn) _ h h' S
end
theorem cBj {gg : Nat} {P : Program} {I2 I1 : FuncId → Option (List DV → Hp → aH)} (d : Nat) (h0 : ∀ g, I2 g = none → I1 g = none)
  (hI : ∀ g F, I2 g = some F → ∀ n args, SimP gg (F args) (bU ⟨P, I1⟩ (fnD ⟨P, I1⟩ (n + d)) g args)) : ∀ (n : Nat) (f : FuncId) (args : List DV), SimP gg (fnD ⟨P, I2⟩ n f args) (fnD ⟨P, I1⟩ (n + d) f args)
 | 0, f, args => fun h h' S v k e => by cases e
 | n + 1, f, args => by
  rw [show n + 1 + d = (n + d) + 1 from by omega]
  refine kK (fun g az => ?_) n d f args
  unfold bU
  dsimp only
  cases hg : I2 g with
  | none =>
   rw [h0 g hg]
   exact cBj d h0 hI n g az
  | some F =>
   have := hI g F hg n az
   unfold bU at this
   exact this
end Go.Dd

namespace Go.Dd
section
variable {gg : Nat} {P : Program} {I2 I1 : FuncId → Option (List DV → Hp → aH)} {rec2 rec1 : FuncId → List DV → Hp → aH}
theorem nC {c : Bool} {q q' : aH} (h : SimR gg q q') : SimR gg (cnd c q) (cnd c q') := by
 cases c with
 | false => exact SimR.none _
 | true => exact h
theorem eEa (k' : K) : SimK gg cH k' := fun env h h' S v k e => by cases e
theorem aAc (HC : ∀ g args, SimP gg (bU ⟨P, I2⟩ rec2 g args) (bU ⟨P, I1⟩ rec1 g args)) (n d : Nat) (I : ItC) (b : Bool) {kr kr' k k' : K} (hr : SimK gg kr kr') (hk : SimK gg k k') (e1 : aO) :
  SimP gg (pM ⟨P, I2⟩ rec2 n I b kr k e1) (pM ⟨P, I1⟩ rec1 (n + d) I b kr' k' e1) := fun h h' S =>
 nC (pW HC I.nt I.ops (fR HC I.nt n d I.after _ _ _ _ _ _ (fun _ => eEa _) hr hk) _ _ h h' S)
theorem bMw (HC : ∀ g args, SimP gg (bU ⟨P, I2⟩ rec2 g args) (bU ⟨P, I1⟩ rec1 g args)) (n d : Nat) (I : ItC) (nt : Nat) (p : Tmp) (x y : Code) (env : aO) {X X' : Nat → K} {kr kr' kk kk' : K} (hX : ∀ j, SimK gg (X j) (X' j)) (hr : SimK gg kr kr') (hk : SimK gg kk kk') :
  SimK gg (aOu ⟨P, I2⟩ rec2 n I nt p x y env X kr kk) (aOu ⟨P, I1⟩ rec1 (n + d) I nt p x y env X' kr' kk') := fun e1 h h' S =>
 nC (fR HC nt n d x _ _ _ _ _ _ (fun _ => eEa _) (eEa _)
  (fR HC nt n d y _ _ _ _ _ _ (fun i _ => aAc HC n d I false (fun _ => hX i env) (eEa _) e1) (fun _ => aAc HC n d I false (fun _ => hr env) (eEa _) e1)
   (fun _ => aAc HC n d I true (eEa _) (fR HC I.nt n d I.post _ _ _ _ _ _ (fun _ => eEa _) (eEa _) (fR HC I.nt n d I.step _ _ _ _ _ _ (fun _ => eEa _) (eEa _) hk)) e1)) _ h h' S)
theorem aYh (HC : ∀ g args, SimP gg (bU ⟨P, I2⟩ rec2 g args) (bU ⟨P, I1⟩ rec1 g args)) (n d : Nat) (I : ItC) (nt : Nat) (g : Operand) (p : Tmp) (x y : Code) {X X' : Nat → K} {kr kr' k k' : K} (hX : ∀ j, SimK gg (X j) (X' j)) (hr : SimK gg kr kr') (hk : SimK gg k k') :
  SimK gg (mT ⟨P, I2⟩ rec2 n I nt g p x y X kr k) (mT ⟨P, I1⟩ rec1 (n + d) I nt g p x y X' kr' k') := by
 intro env h h' S
 unfold mT
 cases opr env g with
 | f gf first cap =>
  cases first with
  | cons _ _ => exact SimR.none _
  | nil =>
   refine nC ?_
   rw [S.next]
   refine fR HC I.nt n d I.pre _ _ _ _ _ _ (fun _ => eEa _) (eEa _) (pV (fun kk kk' hkk => ?_) n d) _ _ _ (S.resv 2)
   refine fR HC I.nt n d I.test _ _ _ _ _ _ (fun j => ?_) (eEa _) (pW HC I.nt I.ops ?_ I.front)
   ·cases Nat.beq j I.b0 with
    | true => exact fun _ => hk env
    | false => exact eEa _
   ·intro e1 h1 h1' S1
    exact nC (c := ylB (e1 I.yt) h.next) (bMw HC n d I nt p x y env hX hr hkk e1 h1 h1' S1)
 | _ => exact SimR.none _
theorem bNm (HC : ∀ g args, SimP gg (bU ⟨P, I2⟩ rec2 g args) (bU ⟨P, I1⟩ rec1 g args)) (nt n d : Nat) (I : ItC) : ∀ (c : Code) (X X' : Nat → K) (kr kr' k k' : K), (∀ j, SimK gg (X j) (X' j)) → SimK gg kr kr' → SimK gg k k' →
  SimK gg (nS ⟨P, I2⟩ rec2 nt n I c X kr k) (nS ⟨P, I1⟩ rec1 nt (n + d) I c X' kr' k') := by
 intro c
 induction c with
 | skip => intro X X' kr kr' k k' hX hr hk; exact hk
 | region id ops dr => intro X X' kr kr' k k' hX hr hk; exact fR HC nt n d (.region id ops dr) _ _ _ _ _ _ hX hr hk
 | seq x y ihx ihy => intro X X' kr kr' k k' hX hr hk; exact ihx _ _ _ _ _ _ hX hr (ihy _ _ _ _ _ _ hX hr hk)
 | cond c x y ihx ihy =>
  intro X X' kr kr' k k' hX hr hk env h h' S
  exact aJy (ihx _ _ _ _ _ _ hX hr hk env h h' S) (ihy _ _ _ _ _ _ hX hr hk env h h' S)
 | block id x ih =>
  intro X X' kr kr' k k' hX hr hk
  refine ih _ _ _ _ _ _ (fun j => ?_) hr hk
  cases hj : Nat.beq j id with
  | true => exact hk
  | false => exact hX j
 | loop x ih =>
  intro X X' kr kr' k k' hX hr hk
  exact pV (fun k k' hk => ih _ _ _ _ _ _ hX hr hk) n d
 | rangeFunc g ps x y ihx ihy =>
  intro X X' kr kr' k k' hX hr hk
  obtain ⟨l⟩ := ps
  match l with
  | [p] => exact aYh HC n d I nt g p x y hX hr hk
  | [] => exact eEa _
  | _ :: _ :: _ => exact eEa _
 | exit id => intro X X' kr kr' k k' hX hr hk; exact hX id
 | ret => intro X X' kr kr' k k' hX hr hk; exact hr
 | _ => intros; exact eEa _
theorem aBs (HC : ∀ g args, SimP gg (bU ⟨P, I2⟩ rec2 g args) (bU ⟨P, I1⟩ rec1 g args)) (n d : Nat) (I : ItC) (f : FuncId) (args : List DV) :
  SimP gg (iD ⟨P, I2⟩ rec2 n I f args) (iD ⟨P, I1⟩ rec1 (n + d) I f args) := by
 intro h h' S
 unfold iD
 dsimp only
 cases P.funcs[f]? with
 | none => exact SimR.none _
 | some fn =>
  dsimp only
  cases fn.body with
  | none => exact SimR.none _
  | some c => exact bNm HC fn.ntmps n d I c _ _ _ _ _ _ (fun _ => eEa _) (qN fn) (qN fn) _ h h' S
end
end Go.Dd

namespace Go.Dd
noncomputable def fnR (C : Cfg) (I : ItC) (q : FuncId → Bool) (n : Nat) : FuncId → List DV → Hp → aH :=
 Nat.rec (motive := fun _ => FuncId → List DV → Hp → aH) (fun _ _ _ => none) (fun m ih f => bif q f then iD C ih m I f else aG C ih m f) n
theorem cKo {C : Cfg} {I : ItC} {q : FuncId → Bool} (hP : POk C.P) (hI : ∀ G g F, C.I g = some F → kJ C.P G g F) (iOk : ItOk C.P I) (hq : ∀ f, q f = true → ∀ fn c, C.P.funcs[f]? = some fn → fn.body = some c → gC c = true) :
  ∀ (n : Nat) (G : Gd) (f : FuncId), kJ C.P G f (fnR C I q n f)
 | 0, G, f => fun args h v h1 hr => by cases hr
 | n + 1, G, f => by
  show kJ C.P G f (bif q f then iD C (fnR C I q n) n I f else aG C (fnR C I q n) n f)
  have K : OkC C (fnR C I q n) := ⟨hI, fun G g => cKo hP hI iOk hq n G g⟩
  cases hf : q f with
  | true => exact cDk K hP iOk n f (hq f hf)
  | false => exact wP K hP n f
theorem bCt {gg : Nat} {P : Program} {I2 I1 : FuncId → Option (List DV → Hp → aH)} {I : ItC} {q : FuncId → Bool} (d : Nat) (h0 : ∀ g, I2 g = none → I1 g = none)
  (hI : ∀ g F, I2 g = some F → ∀ n args, SimP gg (F args) (bU ⟨P, I1⟩ (fnR ⟨P, I1⟩ I q (n + d)) g args)) : ∀ (n : Nat) (f : FuncId) (args : List DV), SimP gg (fnR ⟨P, I2⟩ I q n f args) (fnR ⟨P, I1⟩ I q (n + d) f args)
 | 0, f, args => fun h h' S v k e => by cases e
 | n + 1, f, args => by
  rw [show n + 1 + d = (n + d) + 1 from by omega]
  have HC : ∀ g az, SimP gg (bU ⟨P, I2⟩ (fnR ⟨P, I2⟩ I q n) g az) (bU ⟨P, I1⟩ (fnR ⟨P, I1⟩ I q (n + d)) g az) := fun g az => by
   unfold bU
   dsimp only
   cases hg : I2 g with
   | none =>
    rw [h0 g hg]
    exact bCt d h0 hI n g az
   | some F =>
    have := hI g F hg n az
    unfold bU at this
    exact this
  show SimP gg ((bif q f then iD ⟨P, I2⟩ (fnR ⟨P, I2⟩ I q n) n I f else aG ⟨P, I2⟩ (fnR ⟨P, I2⟩ I q n) n f) args) ((bif q f then iD ⟨P, I1⟩ (fnR ⟨P, I1⟩ I q (n + d)) (n + d) I f else aG ⟨P, I1⟩ (fnR ⟨P, I1⟩ I q (n + d)) (n + d) f) args)
  cases q f with
  | true => exact aBs HC n d I f args
  | false => exact kK HC n d f args
end Go.Dd

namespace Go.Dd
noncomputable section
def jI (w : Int) : Nat :=
 match w with
 | .ofNat w => bif Nat.beq (Nat.mod w 2) 0 && (Nat.ble 6 w && Nat.ble w 262144) then Nat.div w 2 else 0
 | .negSucc _ => 0
def iJ (w : Int) : Bool :=
 match w with
 | .ofNat w => Nat.beq (Nat.mod w 2) 1 && Nat.blt w 2147483648
 | .negSucc w => Nat.beq (Nat.mod w 2) 0 && Nat.blt w 2147483648
def dDh (w : Int) : Int :=
 match w with
 | .ofNat w => .ofNat (Nat.div w 2)
 | .negSucc w => .negSucc (Nat.div w 2)
structure MemV where
 wb : Pos
 n : Nat
 fin : Nat
 made : Nat
 pb : Pos
 t : WT
 pl : WT
def gU (m : Pos) (h : Hp) : Option MemV :=
 match h.bl.get m with
 | some (.row .ex [.l wb 0 n c, .i .i64 (.ofNat fin), .i .i64 (.ofNat made), .m pb]) =>
  match h.bl.get wb, h.bl.get pb with
  | some (.big n' t), some (.mi pl) => bif Nat.beq n n' && Nat.beq n c then (bif Nat.blt n 1000000 && (Nat.ble fin n && Nat.blt made 1000000) then some ⟨wb, n, fin, made, pb, t, pl⟩ else none) else none
  | _, _ => none
 | _ => none
def gP (o : Int) (pl : WT) : Nat :=
 bif Nat.beq (jI o) 0 then 0 else match pl.get (jI o) with
  | .ofNat 0 => 0
  | _ => jI o
def aTe (w : Int) (pl : WT) : Bool :=
 match w with
 | .ofNat 0 => true
 | .ofNat 2 => true
 | .ofNat 4 => true
 | w => iJ w || !(Nat.beq (gP w pl) 0)
def aHw (w : Int) (pl : WT) : Bool :=
 match w with
 | .ofNat 0 => true
 | w => !(Nat.beq (gP w pl) 0)
def lT (args : List DV) (h : Hp) (k : MemV → List DV → aH) : aH :=
 match args with
 | .p m 0 :: rest => match gU m h with
  | some M => k M rest
  | none => none
 | _ => none
def err (e : Nat) (h : Hp) : aH := some (.t [.i .i64 (.ofNat 0), .i .i64 (.ofNat e)], h)
def isF (args : List DV) (h : Hp) : aH := lT args h fun M r => match r with
 | [.i .i64 w] => some (.b (!(Nat.beq (gP w M.pl) 0)), h)
 | _ => none
def aXp (args : List DV) (h : Hp) : aH := lT args h fun M r => match r with
 | [.i .i64 w] => some (.b (aTe w M.pl), h)
 | _ => none
def jV (args : List DV) (h : Hp) : aH := lT args h fun M r => match r with
 | [] => some (.i .i64 (.ofNat M.n), h)
 | _ => none
def aBy (args : List DV) (h : Hp) : aH := lT args h fun M r => match r with
 | [] => some (.i .i64 (.ofNat (Nat.sub M.n M.fin)), h)
 | _ => none
def mE (M : MemV) (o : Int) (k : Nat → aH) : aH :=
 bif Nat.blt (Nat.add (gP o M.pl) 1) M.n then (match M.t.get (gP o M.pl) with
  | .ofNat hd => bif Nat.blt hd 1000000000000 then k hd else none
  | .negSucc _ => none) else none
def oC (args : List DV) (h : Hp) : aH := lT args h fun M r => match r with
 | [.i .i64 o] => mE M o fun _ => some (.i .i64 (M.t.get (Nat.add (gP o M.pl) 1)), h)
 | _ => none
def lN (args : List DV) (h : Hp) : aH := lT args h fun M r => match r with
 | [.i .i64 o] => mE M o fun hd => some (.i .i64 (.ofNat (Nat.mod hd 4)), h)
 | _ => none
def lJ (args : List DV) (h : Hp) : aH := lT args h fun M r => match r with
 | [.i .i64 o] => mE M o fun hd => some (.i .i64 (.ofNat (Nat.div hd 4)), h)
 | _ => none
def lP (M : MemV) (o i : Int) (bad : Nat → aH) (k : Nat → Nat → aH) : aH :=
 bif Nat.beq (gP o M.pl) 0 then bad 1 else match i with
  | .negSucc _ => bad 5
  | .ofNat i => mE M o fun hd => bif Nat.ble (Nat.div hd 4) i then bad 5 else
    (bif Nat.blt (Nat.add (Nat.add (gP o M.pl) 3) i) M.n then k hd (Nat.add (Nat.add (gP o M.pl) 3) i) else none)
def aVr (args : List DV) (h : Hp) : aH := lT args h fun M r => match r with
 | [.i .i64 o, .i .i64 i] => lP M o i (fun e => err e h) fun _ a => some (.t [.i .i64 (M.t.get a), .i .i64 (.ofNat 0)], h)
 | _ => none
def aBd (M : MemV) (a : Nat) (w : Int) (h : Hp) : aH := some (.i .i64 (.ofNat 0), ⟨h.next, Tr.set (.big M.n (M.t.set a w)) M.wb h.bl⟩)
def bNo (args : List DV) (h : Hp) : aH := lT args h fun M r => match r with
 | [.i .i64 o, .i .i64 i, .i .i64 w] => lP M o i (fun e => some (.i .i64 (.ofNat e), h)) fun hd a =>
   match Nat.mod hd 4 with
   | 0 => bif aTe w M.pl then aBd M a w h else some (.i .i64 (.ofNat 6), h)
   | 2 => (match w with
    | .ofNat c => bif Nat.ble c 255 then aBd M a w h else some (.i .i64 (.ofNat 6), h)
    | .negSucc _ => some (.i .i64 (.ofNat 6), h))
   | _ => aBd M a w h
 | _ => none
def jF (args : List DV) (h : Hp) : aH := lT args h fun M r => match r with
 | [.i .i64 o, .i .i64 c] => bif Nat.beq (gP o M.pl) 0 || !(aHw c M.pl) then some (.i .i64 (.ofNat 1), h) else
   (bif Nat.blt (Nat.add (gP o M.pl) 1) M.n then aBd M (Nat.add (gP o M.pl) 1) c h else none)
 | _ => none
def nR (t : WT) (c : Nat) : Nat → WT :=
 Nat.rec (motive := fun _ => Nat → WT) (fun _ => t) (fun _ ih a => (ih (Nat.add a 1)).set a (.ofNat 0)) c
def sX (args : List DV) (h : Hp) : aH :=
 match args with
 | [.p m 0, .i .i64 cls, .i .i64 fmt, .i .i64 cnt] => match gU m h with
  | none => none
  | some M => bif !(aHw cls M.pl) then err 1 h else match fmt, cnt with
   | .ofNat f, .ofNat c => bif Nat.ble f 2 && Nat.ble c 256 then
     (bif Nat.blt (Nat.sub M.n M.fin) (Nat.add c 3) then err 4 h else
      (bif Nat.ble 3 M.fin && Nat.ble M.fin 131072 then
       some (.t [.i .i64 (.ofNat (Nat.mul M.fin 2)), .i .i64 (.ofNat 0)],
        ⟨h.next, Tr.set (.row .ex [.l M.wb 0 M.n M.n, .i .i64 (.ofNat (Nat.add M.fin (Nat.add c 3))), .i .i64 (.ofNat (Nat.succ M.made)), .m M.pb]) m
         (Tr.set (.mi (M.pl.set M.fin (.ofNat 1))) M.pb
          (Tr.set (.big M.n (nR (((M.t.set M.fin (.ofNat (Nat.add (Nat.mul c 4) f))).set (Nat.add M.fin 1) cls).set (Nat.add M.fin 2) (.ofNat (Nat.succ M.made))) c (Nat.add M.fin 3))) M.wb h.bl))⟩)
       else none))
     else err 1 h
   | _, _ => err 1 h
 | _ => none
def rX (args : List DV) (h : Hp) : aH :=
 match args with
 | [.i .i64 (.ofNat n)] => bif Nat.blt n 16 || Nat.blt 131072 n then some (.p0, h) else
   some (.p (bB 2 h.next) 0, ⟨bB 3 h.next, Tr.set (.row .ex [.l h.next 0 n n, .i .i64 (.ofNat 3), .i .i64 (.ofNat 0), .m (bB 1 h.next)]) (bB 2 h.next)
    (Tr.set (.mi .e) (bB 1 h.next) (Tr.set (.big n .e) h.next h.bl))⟩)
 | [.i .i64 (.negSucc _)] => some (.p0, h)
 | _ => none
def kS (args : List DV) (h : Hp) : aH :=
 match args with
 | [.i .i64 w] => some (.b (iJ w), h)
 | _ => none
def oM (args : List DV) (h : Hp) : aH :=
 match args with
 | [.i .i64 w] => bif iJ w then some (.i .i64 (dDh w), h) else some (.i .i64 (.ofNat 0), h)
 | _ => none
def mS (args : List DV) (h : Hp) : aH :=
 match args with
 | [.i .i64 (.ofNat n)] => bif Nat.blt n 1073741824 then some (.t [.i .i64 (.ofNat (Nat.succ (Nat.mul n 2))), .b true], h) else some (.t [.i .i64 (.ofNat 0), .b false], h)
 | [.i .i64 (.negSucc n)] => bif Nat.blt n 1073741824 then some (.t [.i .i64 (.negSucc (Nat.mul n 2)), .b true], h) else some (.t [.i .i64 (.ofNat 0), .b false], h)
 | _ => none
end
end Go.Dd

namespace Go.Dd
noncomputable section
def okT (t : WT) : Bool := match t.get 0 with
 | .ofNat fin => Nat.ble (Nat.add fin 300) 16384
 | .negSucc _ => false
def iC (m : Pos) (t w : WT) (h : Hp) : Hp := ⟨h.next, Tr.set (lS 16384 t) m (Tr.set (.big 16384 w) fU h.bl)⟩
def tE (args : List DV) (h : Hp) (a : Pos → WT → WT → aH) (b : aH) : aH :=
 match args with
 | .p m _ :: _ => (match h.bl.get m with
  | some (.row _ (.l _ _ n _ :: _)) => bif Nat.blt 1 n then b else none
  | some (.big n t) => bif Nat.beq n 0 then (match h.bl.get fU with
   | some (.big k w) => bif Nat.beq k 1 && okT t then a m t w else none
   | _ => none) else none
  | _ => none)
 | _ => none
def qB (F : List DV → Hp → aH) (args : List DV) (h : Hp) : aH := tE args h (fun m t w => match F args (iC m t w h) with
 | some (v, _) => some (v, h)
 | none => none) (F args h)
def sS (m : Pos) (t : WT) (v : DV) (g : Hp) : aH := match g.bl.get m with
 | some (.row _ [_, .i _ fin, .i _ made, _]) => (match g.bl.get fU with
  | some (.big _ w) => some (v, ⟨g.next, Tr.set (.big 0 ((t.set 0 fin).set 1 made)) m (Tr.set (.big 1 w) fU g.bl)⟩)
  | _ => none)
 | _ => none
def rW (F : List DV → Hp → aH) (args : List DV) (h : Hp) : aH := tE args h (fun m t w => match F args (iC m t w h) with
 | some (v, g) => sS m t v g
 | none => none) (F args h)
def yM (F : List DV → Hp → aH) (args : List DV) (h : Hp) : aH := tE args h (fun _ _ _ => none) (F args h)
def dUg (args : List DV) (h : Hp) : aH := qB aXp args h
def isG (args : List DV) (h : Hp) : aH := qB isF args h
def sI (args : List DV) (h : Hp) : aH := yM jV args h
def dXp (args : List DV) (h : Hp) : aH := yM aBy args h
def bUr (args : List DV) (h : Hp) : aH := rW sX args h
def aBv (args : List DV) (h : Hp) : aH := rW jF args h
def aXh (args : List DV) (h : Hp) : aH := rW bNo args h
def aYb (args : List DV) (h : Hp) : aH := qB oC args h
def bIx (args : List DV) (h : Hp) : aH := qB lN args h
def qI (args : List DV) (h : Hp) : aH := qB lJ args h
def dQl (args : List DV) (h : Hp) : aH := qB aVr args h
def mH (args : List DV) (h : Hp) : aH :=
 match args with
 | .p m _ :: _ => (match h.bl.get m with
  | some (.row _ (.l _ _ n _ :: _)) => (match jV args h with
   | some (.i .i64 (.ofNat N), _) => bif Nat.blt 1 n && Nat.ble 900 N then some (.i .i64 (.ofNat 16384), h) else none
   | _ => none)
  | _ => none)
 | _ => none
def cHz (args : List DV) (h : Hp) : aH := tE args h (fun m t w => match jV args (iC m t w h) with
 | some _ => some (.i .i64 (.ofNat 16384), h)
 | none => none) (mH args h)
def aAy (g : Nat) : Option (List DV → Hp → aH) :=
 bif Nat.beq g 20 then some dUg else bif Nat.beq g 21 then some isG else bif Nat.beq g 22 then some sI else bif Nat.beq g 29 then some dXp else
 bif Nat.beq g 30 then some bUr else bif Nat.beq g 41 then some rX else bif Nat.beq g 44 then some aBv else bif Nat.beq g 47 then some aXh else
 bif Nat.beq g 50 then some aYb else bif Nat.beq g 51 then some bIx else bif Nat.beq g 52 then some qI else bif Nat.beq g 54 then some kS else
 bif Nat.beq g 60 then some mS else bif Nat.beq g 62 then some oM else bif Nat.beq g 73 then some dQl else none
end
end Go.Dd

namespace Go.Dd
open Go.Proofs
def cf (f : Func) : Code := match f.body with
 | some c => c
 | none => .skip
def cL : Code → Code
 | .seq a _ => a
 | .cond _ a _ => a
 | .block _ a => a
 | .loop a => a
 | .scope a => a
 | c => c
def cR : Code → Code
 | .seq _ b => b
 | .cond _ _ b => b
 | c => c
def cC : Code → Operand
 | .cond c _ _ => c
 | _ => .const .nilFunc
def x0 : Nat → K := fun _ => cH
def xs (X : Nat → K) (i : Nat) (k : K) : Nat → K := fun j => bif Nat.beq j i then k else X j
def aQc (c : Nat) : List Nat → Nat → Int
 | [], _ => .negSucc 0
 | x :: l, i => bif Nat.beq x c then .ofNat i else aQc c l (i + 1)
def lV (args : List DV) (h : Hp) : aH :=
 match args with
 | [.s l, .i .u8 (.ofNat c)] => bif Nat.blt c 256 then some (.i .i64 (aQc c l 0), h) else none
 | _ => none
noncomputable def CF0 : Cfg := ⟨Tryz.prog, fun _ => none⟩
noncomputable def mB (p : Pos) : Pos → Bool := Pos.rec (motive := fun _ => Pos → Bool) (fun q => Pos.rec (motive := fun _ => Bool) true (fun _ _ => false) (fun _ _ => false) q)
 (fun _ ih q => Pos.rec (motive := fun _ => Bool) false (fun q _ => ih q) (fun _ _ => false) q) (fun _ ih q => Pos.rec (motive := fun _ => Bool) false (fun _ _ => false) (fun q _ => ih q) q) p
noncomputable def jM (q : Pos) (l1 : DV) (cs : List DV) (h : Hp) : aH :=
 match l1 with
 | .l0 => some (.l h.next 0 1 1, ⟨h.next.succ, Tr.set (.row (.gr 4) cs) h.next h.bl⟩)
 | .l b o len cap => cnd (Nat.ble cap len && !(mB b q)) (match h.bl.get b, cellsAt b o (len * 4) h with
  | some (.row (.gr es) l), some old => if es = 4 ∧ o + cap * 4 = l.length ∧ (len + 1) * 56 ≤ sL then
    some (.l h.next 0 (len + 1) (len + 1), ⟨h.next.succ, Tr.set (.row (.gr 4) (old ++ cs)) h.next (Tr.set (.row .sp (bQ o l)) b h.bl)⟩) else none
  | _, _ => none)
 | _ => none
noncomputable def qX (c q : Pos) (h : Hp) : aH :=
 bnd (aA (.p c 4) h) fun l1 _ =>
 bnd (bT l1 h) fun n _ =>
 bnd (aI 4 (.p q 0) h) fun x _ =>
 match x with
 | .a cs => cnd (!(mB c q)) (
  bnd (jM q l1 cs ⟨h.next.succ.succ, h.bl⟩) fun l2 h3 =>
  bnd (aC 1 (.p c 4) l2 h3) fun _ h4 => some (n, h4))
 | _ => none
noncomputable def lI (args : List DV) (h : Hp) : aH :=
 match args with
 | [.p c 0, .a lit] =>
  bnd (bD lit h) fun _ h1 =>
  bnd (aA (.p c 4) h1) fun ls h2 =>
  bnd (fnD CF0 60 187 [ls, .f 277 [] [.p h.next 0]] h2) fun i h3 =>
  bnd (aE .lss i (.i .i64 (Int.ofNat 0)) h3) fun t h4 =>
  aT t (qX c h.next h4) (some (i, h4))
 | _ => none
noncomputable def CF1 : Cfg := ⟨Tryz.prog, fun g => bif Nat.beq g 266 then some lV else bif Nat.beq g 242 then some lI else none⟩
noncomputable def CF : Cfg := ⟨Tryz.prog, fun g => bif Nat.beq g 266 then some lV else bif Nat.beq g 242 then some lI else aAy g⟩
noncomputable def CFv : Cfg := ⟨Tryz.prog, fun g => bif Nat.beq g 22 then some cHz else CF.I g⟩
noncomputable def CFw : Cfg := ⟨Tryz.prog, fun g => bif Nat.beq g 22 then some mH else CF.I g⟩
def fM : Code → Array Oper
 | .region _ ops _ => ops
 | _ => #[]
noncomputable def itL : Code := cL (cL (cR (cf Tryz.f183)))
noncomputable def itB : Code := cL (cL (cR itL))
def dTn : List Oper → Nat → Oper
 | [], _ => ⟨none, .move (.const .nilFunc), 0, "", #[], none⟩
 | o :: _, 0 => o
 | _ :: l, n + 1 => dTn l n
noncomputable def itm : ItC := { gf := 183, nt := 31, pre := cL (cf Tryz.f183), b0 := 0, test := cL itL, b1 := 1, rid := 3, front := (fM (cL (cL itB))).toList.take 4, y := dTn (fM (cL (cL itB))).toList 4, back := (fM (cL (cL itB))).toList.drop 5, after := cR (cL itB), post := cR itB, step := cR (cR itL), yd := 26, yt := 22, yx := 25 }
def rgB (g : FuncId) : Bool := Nat.beq g 95 || (Nat.beq g 94 || Nat.beq g 330)
noncomputable abbrev fN (C : Cfg) (n : Nat) : FuncId → List DV → Hp → aH := fnR C itm rgB n
theorem cA (f : FuncId) (hf : rgB f = false) (C : Cfg) (n : Nat) (args : List DV) (h : Hp) : fN C (n + 1) f args h = aG C (fN C n) n f args h := by
 show (bif rgB f then iD C (fN C n) n itm f else aG C (fN C n) n f) args h = _
 rw [hf]
 rfl
theorem dQh (f : FuncId) (hf : rgB f = true) (C : Cfg) (n : Nat) (args : List DV) (h : Hp) : fN C (n + 1) f args h = iD C (fN C n) n itm f args h := by
 show (bif rgB f then iD C (fN C n) n itm f else aG C (fN C n) n f) args h = _
 rw [hf]
 rfl
abbrev RT := FuncId → List DV → Hp → aH
abbrev TT0 := Hp → aH
abbrev TT1 := DV → Hp → aH
abbrev eM := DV → DV → Hp → aH
abbrev eO := DV → DV → DV → Hp → aH
abbrev dI := DV → DV → DV → DV → Hp → aH
abbrev cD := DV → DV → DV → DV → DV → Hp → aH
abbrev dC := DV → DV → DV → DV → DV → DV → Hp → aH
abbrev TT7 := DV → DV → DV → DV → DV → DV → DV → Hp → aH
abbrev TT8 := DV → DV → DV → DV → DV → DV → DV → DV → Hp → aH
abbrev TT9 := DV → DV → DV → DV → DV → DV → DV → DV → DV → Hp → aH
abbrev aSb := DV → DV → DV → DV → DV → DV → DV → DV → DV → DV → Hp → aH
abbrev dTq := DV → DV → DV → DV → DV → DV → DV → DV → DV → DV → DV → Hp → aH
abbrev eCx := DV → DV → DV → DV → DV → DV → DV → DV → DV → DV → DV → DV → Hp → aH
abbrev dZg := DV → DV → DV → DV → DV → DV → DV → DV → DV → DV → DV → DV → DV → Hp → aH
abbrev eAm := DV → DV → DV → DV → DV → DV → DV → DV → DV → DV → DV → DV → DV → DV → Hp → aH
abbrev eAz := DV → DV → DV → DV → DV → DV → DV → DV → DV → DV → DV → DV → DV → DV → DV → Hp → aH
abbrev eDo := DV → DV → DV → DV → DV → DV → DV → DV → DV → DV → DV → DV → DV → DV → DV → DV → Hp → aH
abbrev eDd := DV → DV → DV → DV → DV → DV → DV → DV → DV → DV → DV → DV → DV → DV → DV → DV → DV → Hp → aH
abbrev eDc := DV → DV → DV → DV → DV → DV → DV → DV → DV → DV → DV → DV → DV → DV → DV → DV → DV → DV → Hp → aH
abbrev dZu := DV → DV → DV → DV → DV → DV → DV → DV → DV → DV → DV → DV → DV → DV → DV → DV → DV → DV → DV → Hp → aH
abbrev eAf := DV → DV → DV → DV → DV → DV → DV → DV → DV → DV → DV → DV → DV → DV → DV → DV → DV → DV → DV → DV → Hp → aH
abbrev K0 (f : TT0) : K := fun env h => f h
abbrev K1 (f : TT1) (a0 : Nat) : K := fun env h => f (env a0) h
abbrev K2 (f : eM) (a0 a1 : Nat) : K := fun env h => f (env a0) (env a1) h
abbrev K3 (f : eO) (a0 a1 a2 : Nat) : K := fun env h => f (env a0) (env a1) (env a2) h
abbrev K4 (f : dI) (a0 a1 a2 a3 : Nat) : K := fun env h => f (env a0) (env a1) (env a2) (env a3) h
abbrev K5 (f : cD) (a0 a1 a2 a3 a4 : Nat) : K := fun env h => f (env a0) (env a1) (env a2) (env a3) (env a4) h
abbrev K6 (f : dC) (a0 a1 a2 a3 a4 a5 : Nat) : K := fun env h => f (env a0) (env a1) (env a2) (env a3) (env a4) (env a5) h
abbrev K7 (f : TT7) (a0 a1 a2 a3 a4 a5 a6 : Nat) : K := fun env h => f (env a0) (env a1) (env a2) (env a3) (env a4) (env a5) (env a6) h
abbrev K8 (f : TT8) (a0 a1 a2 a3 a4 a5 a6 a7 : Nat) : K := fun env h => f (env a0) (env a1) (env a2) (env a3) (env a4) (env a5) (env a6) (env a7) h
abbrev K9 (f : TT9) (a0 a1 a2 a3 a4 a5 a6 a7 a8 : Nat) : K := fun env h => f (env a0) (env a1) (env a2) (env a3) (env a4) (env a5) (env a6) (env a7) (env a8) h
abbrev K10 (f : aSb) (a0 a1 a2 a3 a4 a5 a6 a7 a8 a9 : Nat) : K := fun env h => f (env a0) (env a1) (env a2) (env a3) (env a4) (env a5) (env a6) (env a7) (env a8) (env a9) h
abbrev K11 (f : dTq) (a0 a1 a2 a3 a4 a5 a6 a7 a8 a9 a10 : Nat) : K := fun env h => f (env a0) (env a1) (env a2) (env a3) (env a4) (env a5) (env a6) (env a7) (env a8) (env a9) (env a10) h
abbrev K12 (f : eCx) (a0 a1 a2 a3 a4 a5 a6 a7 a8 a9 a10 a11 : Nat) : K := fun env h => f (env a0) (env a1) (env a2) (env a3) (env a4) (env a5) (env a6) (env a7) (env a8) (env a9) (env a10) (env a11) h
abbrev K13 (f : dZg) (a0 a1 a2 a3 a4 a5 a6 a7 a8 a9 a10 a11 a12 : Nat) : K := fun env h => f (env a0) (env a1) (env a2) (env a3) (env a4) (env a5) (env a6) (env a7) (env a8) (env a9) (env a10) (env a11) (env a12) h
abbrev K14 (f : eAm) (a0 a1 a2 a3 a4 a5 a6 a7 a8 a9 a10 a11 a12 a13 : Nat) : K := fun env h => f (env a0) (env a1) (env a2) (env a3) (env a4) (env a5) (env a6) (env a7) (env a8) (env a9) (env a10) (env a11) (env a12) (env a13) h
abbrev K15 (f : eAz) (a0 a1 a2 a3 a4 a5 a6 a7 a8 a9 a10 a11 a12 a13 a14 : Nat) : K := fun env h => f (env a0) (env a1) (env a2) (env a3) (env a4) (env a5) (env a6) (env a7) (env a8) (env a9) (env a10) (env a11) (env a12) (env a13) (env a14) h
abbrev K16 (f : eDo) (a0 a1 a2 a3 a4 a5 a6 a7 a8 a9 a10 a11 a12 a13 a14 a15 : Nat) : K := fun env h => f (env a0) (env a1) (env a2) (env a3) (env a4) (env a5) (env a6) (env a7) (env a8) (env a9) (env a10) (env a11) (env a12) (env a13) (env a14) (env a15) h
abbrev K17 (f : eDd) (a0 a1 a2 a3 a4 a5 a6 a7 a8 a9 a10 a11 a12 a13 a14 a15 a16 : Nat) : K := fun env h => f (env a0) (env a1) (env a2) (env a3) (env a4) (env a5) (env a6) (env a7) (env a8) (env a9) (env a10) (env a11) (env a12) (env a13) (env a14) (env a15) (env a16) h
abbrev K18 (f : eDc) (a0 a1 a2 a3 a4 a5 a6 a7 a8 a9 a10 a11 a12 a13 a14 a15 a16 a17 : Nat) : K := fun env h => f (env a0) (env a1) (env a2) (env a3) (env a4) (env a5) (env a6) (env a7) (env a8) (env a9) (env a10) (env a11) (env a12) (env a13) (env a14) (env a15) (env a16) (env a17) h
abbrev K19 (f : dZu) (a0 a1 a2 a3 a4 a5 a6 a7 a8 a9 a10 a11 a12 a13 a14 a15 a16 a17 a18 : Nat) : K := fun env h => f (env a0) (env a1) (env a2) (env a3) (env a4) (env a5) (env a6) (env a7) (env a8) (env a9) (env a10) (env a11) (env a12) (env a13) (env a14) (env a15) (env a16) (env a17) (env a18) h
abbrev K20 (f : eAf) (a0 a1 a2 a3 a4 a5 a6 a7 a8 a9 a10 a11 a12 a13 a14 a15 a16 a17 a18 a19 : Nat) : K := fun env h => f (env a0) (env a1) (env a2) (env a3) (env a4) (env a5) (env a6) (env a7) (env a8) (env a9) (env a10) (env a11) (env a12) (env a13) (env a14) (env a15) (env a16) (env a17) (env a18) (env a19) h
theorem okG {d s : K} (m : d = s) (args : List DV) (h : Hp) {a b : aH} (e1 : a = d (aK args) h) (e2 : s (aK args) h = b) : a = b :=
 e1.trans ((congrFun (congrFun m (aK args)) h).trans e2)
abbrev aF (n : Nat) : DV := .i .i64 (Int.ofNat n)
abbrev cV : List DV := [(.i .i64 (Int.ofNat 0)), (.s []), (.i .i64 (Int.ofNat 0)), .l0, .l0, .l0]
abbrev aR (args : List DV) (i : Nat) : DV := args.getD i aX
end Go.Dd

namespace Go.Dd
open Go.Proofs
variable (r : RT) (n : Nat) (args : List DV) (h : Hp)
noncomputable def eN (r : RT) (n : Nat) (x5 : DV) (h0 : Hp) : aH :=
 some (.t [x5, (.i .i64 (Int.ofNat 0))], h0)
noncomputable def hZ (r : RT) (n : Nat) (kk9 : dI) (x5 x155 x156 x157 : DV) (h0 : Hp) : aH :=
 bnd (aE .lss x157 x156 h0) fun v1 h1 =>
 aT v1 (
 bnd (aJ 1 x155 x157 h1) fun v2 h2 =>
 bnd (aA v2 h2) fun v3 h3 =>
 bnd (aJ 1 v3 (.i .i64 (Int.ofNat 0)) h3) fun v4 h4 =>
 bnd (aA v4 h4) fun v5 h5 =>
 bnd (aJ 1 v3 (.i .i64 (Int.ofNat 1)) h5) fun v6 h6 =>
 bnd (aA v6 h6) fun v7 h7 =>
 bnd (r 34 [x5, v5, v7] h7) fun v8 h8 =>
 bnd (aD 0 v8 h8) fun v9 h9 =>
 bnd (aD 1 v8 h9) fun v10 h10 =>
 bnd (aD 2 v8 h10) fun v11 h11 =>
 bnd (aD 3 v8 h11) fun v12 h12 =>
 bnd (aE .neq v12 (.i .i64 (Int.ofNat 0)) h12) fun v13 h13 =>
 aT v13 (
 some (.t [.p0, v12], h13)) (
 bnd (aE .add x157 (.i .i64 (Int.ofNat 1)) h13) fun v14 h14 =>
    kk9 x5 x155 x156 v14 h14)) (
      eN r n x5 h1)
noncomputable def kA (r : RT) (n : Nat) (m : Nat) : dI :=
 Nat.rec (motive := fun _ => dI) (fun _ _ _ _ _ => none) (fun _ ih => hZ r n ih) m
noncomputable def bAq (r : RT) (n : Nat) : dI := kA r n n
noncomputable def cBa (r : RT) (n : Nat) (x5 x155 x156 x157 : DV) (h0 : Hp) : aH :=
 bAq r n x5 x155 x156 x157 h0
noncomputable def bI (r : RT) (n : Nat) (x5 : DV) (h0 : Hp) : aH :=
 bnd (r 37 [] h0) fun v1 h1 =>
 bnd (bT v1 h1) fun v2 h2 =>
  cBa r n x5 v1 v2 (.i .i64 (Int.ofNat 0)) h2
noncomputable def bC (r : RT) (n : Nat) (kk11 : cD) (x4 x5 x59 x60 x61 : DV) (h0 : Hp) : aH :=
 bnd (aE .add x61 (.i .i64 (Int.ofNat 1)) h0) fun v1 h1 =>
  kk11 x4 x5 x59 x60 v1 h1
noncomputable def fD (r : RT) (n : Nat) (kk11 : cD) (x4 x5 x8 x9 x59 x60 x61 : DV) (h0 : Hp) : aH :=
 bnd (aU x5 h0) fun v1 h1 =>
 bnd (aB 1 v1 h1) fun v2 h2 =>
 bnd (aA v2 h2) fun v3 h3 =>
 bnd (aU x5 h3) fun v4 h4 =>
 bnd (aB 1 v4 h4) fun v5 h5 =>
 bnd (aA v5 h5) fun v6 h6 =>
 bnd (aJ 1 v6 (.i .i64 (Int.ofNat 1)) h6) fun v7 h7 =>
 bnd (aA v7 h7) fun v8 h8 =>
 bnd (r 48 [x5, x9, v8] h8) fun v9 h9 =>
 cnd (aZ (aA v2 h9) v3 && true) (
 bnd (aD 0 v9 h9) fun v10 h10 =>
 bnd (aD 1 v9 h10) fun v11 h11 =>
 bnd (aJ 1 v3 (.i .i64 (Int.ofNat 1)) h11) fun v12 h12 =>
 bnd (aC 1 v12 v10 h12) fun v13 h13 =>
 bnd (aU x5 h13) fun v14 h14 =>
 bnd (aB 3 v14 h14) fun v15 h15 =>
 bnd (aA v15 h15) fun v16 h16 =>
 bnd (aB 0 x8 h16) fun v17 h17 =>
 bnd (aA v17 h17) fun v18 h18 =>
 bnd (gK .string v16 v18 x9 h18) fun v19 h19 =>
  bC r n kk11 x4 x5 x59 x60 x61 h19)
noncomputable def bEe (r : RT) (n : Nat) (kk11 : cD) (kk25 : aSb) (x4 x5 x8 x9 x59 x60 x61 x117 x118 x119 : DV) (h0 : Hp) : aH :=
 bnd (aE .lss x119 x118 h0) fun v1 h1 =>
 aT v1 (
 bnd (aJ 1 x117 x119 h1) fun v2 h2 =>
 bnd (aA v2 h2) fun v3 h3 =>
 bnd (aXh [x4, x9, x119, v3] h3) fun v4 h4 =>
 bnd (aE .add x119 (.i .i64 (Int.ofNat 1)) h4) fun v5 h5 =>
      kk25 x4 x5 x8 x9 x59 x60 x61 x117 x118 v5 h5) (
      fD r n kk11 x4 x5 x8 x9 x59 x60 x61 h1)
noncomputable def uG (r : RT) (n : Nat) (kk11 : cD) (m : Nat) : aSb :=
 Nat.rec (motive := fun _ => aSb) (fun _ _ _ _ _ _ _ _ _ _ _ => none) (fun _ ih => bEe r n kk11 ih) m
noncomputable def cAz (r : RT) (n : Nat) (kk11 : cD) : aSb := uG r n kk11 n
noncomputable def zQ (r : RT) (n : Nat) (kk11 : cD) (x4 x5 x8 x9 x59 x60 x61 x117 x118 x119 : DV) (h0 : Hp) : aH :=
 cAz r n kk11 x4 x5 x8 x9 x59 x60 x61 x117 x118 x119 h0
noncomputable def aGo (r : RT) (n : Nat) (kk11 : cD) (x4 x5 x8 x9 x10 x12 x13 x19 x59 x60 x61 : DV) (h0 : Hp) : aH :=
 bnd (r 46 [x13] (resv 1 h0)) fun v1 h1 =>
 bnd (aB 2 x8 h1) fun v2 h2 =>
 bnd (aA v2 h2) fun v3 h3 =>
 cnd (aZ (aA v2 (resv 1 h0)) v3 && true) (
 bnd (r 46 [v3] h3) fun v4 h4 =>
 bnd (aS (bB 0 h0.next) [(.i .i64 (Int.ofNat 0)), (.i .i64 (Int.ofNat 0)), (.i .i64 (Int.ofNat 0)), (.i .i64 (Int.ofNat 0)), (.i .i64 (Int.ofNat 0)), (.i .i64 (Int.ofNat 0))] 6 [(0, 1, x10), (1, 1, x12), (2, 1, v1), (3, 1, x19), (4, 1, (.i .i64 (Int.ofNat 0))), (5, 1, v4)] h4) fun v5 h5 =>
 bnd (bT v5 h5) fun v6 h6 =>
  zQ r n kk11 x4 x5 x8 x9 x59 x60 x61 v5 v6 (.i .i64 (Int.ofNat 0)) h6)
noncomputable def oI (r : RT) (n : Nat) (kk11 : cD) (x4 x5 x8 x9 x10 x12 x13 x14 x59 x60 x61 : DV) (h0 : Hp) : aH :=
 bnd (r 45 [x5, x14] h0) fun v1 h1 =>
 bnd (aD 0 v1 h1) fun v2 h2 =>
 bnd (aD 1 v1 h2) fun v3 h3 =>
  aGo r n kk11 x4 x5 x8 x9 x10 x12 x13 v2 x59 x60 x61 h3
noncomputable def zR (r : RT) (n : Nat) (kk11 : cD) (x4 x5 x7 x8 x9 x10 x12 x13 x14 x59 x60 x61 : DV) (h0 : Hp) : aH :=
 bnd (aE .eql x7 (.i .i64 (Int.ofNat 15)) h0) fun v1 h1 =>
 aT v1 (
 bnd (r 11 [x5, (.s [115, 101, 108, 101, 99, 116, 111, 114])] h1) fun v2 h2 =>
 bnd (aD 0 v2 h2) fun v3 h3 =>
 bnd (aD 1 v2 h3) fun v4 h4 =>
 bnd (r 11 [x5, (.s [97, 114, 103, 117, 109, 101, 110, 116, 115])] h4) fun v5 h5 =>
 bnd (aD 0 v5 h5) fun v6 h6 =>
 bnd (aD 1 v5 h6) fun v7 h7 =>
 bnd (aN [(.i .i64 (Int.ofNat 0)), (.i .i64 (Int.ofNat 0))] 2 [(0, 1, v3), (1, 1, v6)] h7) fun v8 h8 =>
  oI r n kk11 x4 x5 x8 x9 x10 x12 (.i .i64 (Int.ofNat 2)) v8 x59 x60 x61 h8) (
  oI r n kk11 x4 x5 x8 x9 x10 x12 x13 x14 x59 x60 x61 h1)
noncomputable def aTq (r : RT) (n : Nat) (kk11 : cD) (x4 x5 x7 x8 x9 x10 x12 x13 x14 x59 x60 x61 : DV) (h0 : Hp) : aH :=
 bnd (aB 1 x8 h0) fun v1 h1 =>
 bnd (aA v1 h1) fun v2 h2 =>
 bnd (aE .geq v2 (.i .i64 (Int.ofNat 0)) h2) fun v3 h3 =>
 aT v3 (
 bnd (aB 1 x8 h3) fun v4 h4 =>
 bnd (aA v4 h4) fun v5 h5 =>
 bnd (r 15 [x5, v5] h5) fun v6 h6 =>
  zR r n kk11 x4 x5 x7 x8 x9 x10 v6 x13 x14 x59 x60 x61 h6) (
  zR r n kk11 x4 x5 x7 x8 x9 x10 x12 x13 x14 x59 x60 x61 h3)
noncomputable def aWn (r : RT) (n : Nat) (kk11 : cD) (x4 x5 x7 x8 x9 x10 x59 x60 x61 : DV) (h0 : Hp) : aH :=
 aTq r n kk11 x4 x5 x7 x8 x9 x10 (.i .i64 (Int.ofNat 0)) (.i .i64 (Int.ofNat 0)) .l0 x59 x60 x61 h0
noncomputable def aTx (r : RT) (n : Nat) (kk11 : cD) (x4 x5 x7 x8 x9 x59 x60 x61 : DV) (h0 : Hp) : aH :=
 bnd (aB 0 x8 h0) fun v1 h1 =>
 bnd (aA v1 h1) fun v2 h2 =>
 bnd (r 11 [x5, v2] h2) fun v3 h3 =>
 bnd (aD 0 v3 h3) fun v4 h4 =>
 bnd (aD 1 v3 h4) fun v5 h5 =>
  aWn r n kk11 x4 x5 x7 x8 x9 v4 x59 x60 x61 h5
noncomputable def aZa (r : RT) (n : Nat) (kk11 : cD) (x4 x5 x7 x8 x9 x59 x60 x61 : DV) (h0 : Hp) : aH :=
 bnd (r 15 [x5, (.i .i64 (Int.ofNat 1))] h0) fun v1 h1 =>
 bnd (aBv [x4, x9, v1] h1) fun v2 h2 =>
  aTx r n kk11 x4 x5 x7 x8 x9 x59 x60 x61 h2
noncomputable def yW (r : RT) (n : Nat) (kk11 : cD) (x4 x5 x7 x8 x59 x60 x61 : DV) (h0 : Hp) : aH :=
 bnd (r 15 [x5, x7] h0) fun v1 h1 =>
  aZa r n kk11 x4 x5 x7 x8 v1 x59 x60 x61 h1
noncomputable def aEf (r : RT) (n : Nat) (kk11 : cD) (x4 x5 x59 x60 x61 : DV) (h0 : Hp) : aH :=
 bnd (aJ 3 x59 x61 h0) fun v1 h1 =>
 bnd (aI 3 v1 h1) fun v2 h2 =>
 bnd (bD [(.s []), (.i .i64 (Int.ofNat 0)), (.i .i64 (Int.ofNat 0))] h2) fun v3 h3 =>
 bnd (aC 3 v3 v2 h3) fun _ h4 =>
  yW r n kk11 x4 x5 x61 v3 x59 x60 x61 h4
noncomputable def aWk (r : RT) (n : Nat) (kk11 : cD) (x4 x5 x59 x60 x61 x62 : DV) (h0 : Hp) : aH :=
 aT x62 (
  aEf r n kk11 x4 x5 x59 x60 x61 h0) (
  bI r n x5 h0)
noncomputable def bDn (r : RT) (n : Nat) (kk11 : cD) (x4 x5 x59 x60 x61 : DV) (h0 : Hp) : aH :=
 bnd (aE .lss x61 x60 h0) fun v1 h1 =>
  aWk r n kk11 x4 x5 x59 x60 x61 v1 h1
noncomputable def uP (r : RT) (n : Nat) (m : Nat) : cD :=
 Nat.rec (motive := fun _ => cD) (fun _ _ _ _ _ _ => none) (fun _ ih => bDn r n ih) m
noncomputable def bXn (r : RT) (n : Nat) : cD := uP r n n
noncomputable def aVz (r : RT) (n : Nat) (x4 x5 x59 x60 x61 : DV) (h0 : Hp) : aH :=
 bXn r n x4 x5 x59 x60 x61 h0
noncomputable def gW (r : RT) (n : Nat) (x4 x5 : DV) (h0 : Hp) : aH :=
 bnd (r 43 [] h0) fun v1 h1 =>
 bnd (bT v1 h1) fun v2 h2 =>
  aVz r n x4 x5 v1 v2 (.i .i64 (Int.ofNat 0)) h2
noncomputable def bIl (r : RT) (n : Nat) (kk27 : eO) (x4 x5 x43 : DV) (h0 : Hp) : aH :=
 bnd (aE .lss x43 (.i .i64 (Int.ofNat 16)) h0) fun v1 h1 =>
 aT v1 (
 bnd (aU x5 h1) fun v2 h2 =>
 bnd (aB 1 v2 h2) fun v3 h3 =>
 bnd (aA v3 h3) fun v4 h4 =>
 bnd (aE .add (.i .i64 (Int.ofNat 2)) x43 h4) fun v5 h5 =>
 bnd (bUr [x4, (.i .i64 (Int.ofNat 0)), (.i .i64 (Int.ofNat 0)), (.i .i64 (Int.ofNat 6))] h5) fun v6 h6 =>
 cnd (aZ (aA v3 h6) v4 && true) (
 bnd (aD 0 v6 h6) fun v7 h7 =>
 bnd (aD 1 v6 h7) fun v8 h8 =>
 bnd (aJ 1 v4 v5 h8) fun v9 h9 =>
 bnd (aC 1 v9 v7 h9) fun v10 h10 =>
 bnd (aE .add x43 (.i .i64 (Int.ofNat 1)) h10) fun v11 h11 =>
      kk27 x4 x5 v11 h11)) (
      gW r n x4 x5 h1)
noncomputable def wL (r : RT) (n : Nat) (m : Nat) : eO :=
 Nat.rec (motive := fun _ => eO) (fun _ _ _ _ => none) (fun _ ih => bIl r n ih) m
noncomputable def cCo (r : RT) (n : Nat) : eO := wL r n n
noncomputable def aVi (r : RT) (n : Nat) (x4 x5 x43 : DV) (h0 : Hp) : aH :=
 cCo r n x4 x5 x43 h0
noncomputable def aPo (r : RT) (n : Nat) (x4 x5 : DV) (h0 : Hp) : aH :=
 aVi r n x4 x5 (.i .i64 (Int.ofNat 0)) h0
noncomputable def aQe (r : RT) (n : Nat) (x4 : DV) (h0 : Hp) : aH :=
 bnd (cG 1 8 [(.i .i64 (Int.ofNat 0))] (.i .i64 (Int.ofNat 18)) (.i .i64 (Int.ofNat 18)) h0) fun v1 h1 =>
 bnd (dX h1) fun v2 h2 =>
 bnd (dX h2) fun v3 h3 =>
 bnd (bA [.p0, .l0, .m0, .m0] [(0, 1, x4), (1, 1, v1), (2, 1, v2), (3, 1, v3)] h3) fun v4 h4 =>
 bnd (bN v4 h4) fun v5 h5 =>
  aPo r n x4 v5 h5
noncomputable def aBo (r : RT) (n : Nat) (x0 x4 : DV) (h0 : Hp) : aH :=
 bnd (pEq (.pointer 104) true x4 .p0 h0) fun v1 h1 =>
 aT v1 (
 some (.t [.p0, (.i .i64 (Int.ofNat 1))], h1)) (
 bnd (aE .lss x0 (.i .i64 (Int.ofNat 16384)) h1) fun v2 h2 =>
 aT v2 (
 some (.t [.p0, (.i .i64 (Int.ofNat 4))], h2)) (
   aQe r n x4 h2))
noncomputable def aCc (r : RT) (n : Nat) (x0 : DV) (h0 : Hp) : aH :=
 bnd (rX [x0] h0) fun v1 h1 =>
  aBo r n x0 v1 h1
noncomputable def s10 (r : RT) (n : Nat) (x0 : DV) (h0 : Hp) : aH :=
 aCc r n x0 h0
noncomputable abbrev c10 : Code := cf Tryz.f10
noncomputable abbrev bFt : Code := cR c10
noncomputable abbrev bAp : Code := cR bFt
noncomputable abbrev bHo : Code := cR bAp
noncomputable abbrev bIy : Code := cR bHo
noncomputable abbrev bDy : Code := cR bIy
noncomputable abbrev bIa : Code := cR bDy
noncomputable abbrev dRf : Code := cR bIa
noncomputable abbrev aQu : Code := cL bIa
noncomputable abbrev cJc : Code := cR aQu
noncomputable abbrev aLv : Code := cL cJc
noncomputable abbrev oV : Code := cL aLv
noncomputable abbrev cBu : Code := cL aQu
noncomputable abbrev xH : Code := cL bDy
noncomputable abbrev aYf : Code := cR xH
noncomputable abbrev aLe : Code := cL aYf
noncomputable abbrev kB : Code := cL aLe
noncomputable abbrev aGa : Code := cR kB
noncomputable abbrev aEm : Code := cR aGa
noncomputable abbrev dJg : Code := cR aEm
noncomputable abbrev aPc : Code := cL aEm
noncomputable abbrev aCr : Code := cL aPc
noncomputable abbrev aEy : Code := cR aCr
noncomputable abbrev aJg : Code := cR aEy
noncomputable abbrev aEg : Code := cR aJg
noncomputable abbrev aKm : Code := cR aEg
noncomputable abbrev aMb : Code := cR aKm
noncomputable abbrev aOr : Code := cR aMb
noncomputable abbrev aLx : Code := cR aOr
noncomputable abbrev aDc : Code := cR aLx
noncomputable abbrev dId : Code := cR aDc
noncomputable abbrev yJ : Code := cL aDc
noncomputable abbrev aWb : Code := cR yJ
noncomputable abbrev aFc : Code := cL aWb
noncomputable abbrev oB : Code := cL aFc
noncomputable abbrev bAh : Code := cL yJ
noncomputable abbrev cIx : Code := cL aLx
noncomputable abbrev aTc : Code := cL aOr
noncomputable abbrev bQt : Code := cL aMb
noncomputable abbrev cGj : Code := cL aKm
noncomputable abbrev cIn : Code := cL aEg
noncomputable abbrev cHg : Code := cL aJg
noncomputable abbrev bWq : Code := cL aEy
noncomputable abbrev aTr : Code := cL aCr
noncomputable abbrev cDt : Code := cL aGa
noncomputable abbrev bTe : Code := cL kB
noncomputable abbrev bSo : Code := cL xH
noncomputable abbrev aAa : Code := cL bIy
noncomputable abbrev aZz : Code := cR aAa
noncomputable abbrev aKj : Code := cL aZz
noncomputable abbrev nX : Code := cL aKj
noncomputable abbrev bSm : Code := cL aAa
noncomputable abbrev aVl : Code := cL bHo
noncomputable abbrev bVx : Code := cL bAp
noncomputable abbrev cGt : Code := cL bFt
noncomputable abbrev cKd : Code := cL c10
noncomputable abbrev r10 : K := aQ CF Tryz.f10
noncomputable def D10 (r : RT) (n : Nat) (c : Code) (X : Nat → K) (k : K) : K := aM CF r 179 n c X r10 k
theorem bSn : D10 r n dRf x0 r10 = (K1 (eN r n) 5) :=
 (by kernel_rfl)
theorem aNf (kk9 : dI) : D10 r n oV (xs x0 7 (K1 (eN r n) 5)) (K4 kk9 5 155 156 157) = (K4 (hZ r n kk9) 5 155 156 157) :=
 (by kernel_rfl)
theorem dAa (m : Nat) : aL (fun kk => D10 r n oV (xs x0 7 (K1 (eN r n) 5)) kk) m = (K4 (kA r n m) 5 155 156 157) := by
 induction m with
 | zero => exact (by kernel_rfl : aL (fun kk => D10 r n oV (xs x0 7 (K1 (eN r n) 5)) kk) 0 = (K4 (kA r n 0) 5 155 156 157))
 | succ m ih =>
  refine (by kernel_rfl : aL (fun kk => D10 r n oV (xs x0 7 (K1 (eN r n) 5)) kk) (m + 1) = D10 r n oV (xs x0 7 (K1 (eN r n) 5)) (aL (fun kk => D10 r n oV (xs x0 7 (K1 (eN r n) 5)) kk) m)).trans ?_
  rw [ih]
  exact (aNf r n (kA r n m)).trans (by kernel_rfl)
theorem cJm : D10 r n aLv (xs x0 7 (K1 (eN r n) 5)) (K1 (eN r n) 5) = (K4 (bAq r n) 5 155 156 157) :=
 (by kernel_rfl : D10 r n aLv (xs x0 7 (K1 (eN r n) 5)) (K1 (eN r n) 5) = aL (fun kk => D10 r n oV (xs x0 7 (K1 (eN r n) 5)) kk) n).trans ((dAa r n n).trans (by kernel_rfl))
theorem dGk : D10 r n cJc x0 (K1 (eN r n) 5) = (K4 (cBa r n) 5 155 156 157) :=
 (by kernel_rfl : D10 r n cJc x0 (K1 (eN r n) 5) = D10 r n aLv (xs x0 7 (K1 (eN r n) 5)) (K1 (eN r n) 5)).trans
 ((cJm r n).trans (by kernel_rfl))
theorem cZk : D10 r n bIa x0 r10 = D10 r n aQu x0 (K1 (eN r n) 5) :=
 congrArg (fun k => D10 r n aQu x0 k) (bSn r n)
theorem cZu : D10 r n aQu x0 (K1 (eN r n) 5) = D10 r n cBu x0 (K4 (cBa r n) 5 155 156 157) :=
 congrArg (fun k => D10 r n cBu x0 k) (dGk r n)
theorem dIi : D10 r n bIa x0 r10 = (K1 (bI r n) 5) :=
 (cZk r n).trans
 ((cZu r n).trans
 ((by kernel_rfl)))
theorem cMo (kk11 : cD) : D10 r n dJg (xs x0 3 (K1 (bI r n) 5)) (K5 kk11 4 5 59 60 61) = (K5 (bC r n kk11) 4 5 59 60 61) :=
 (by kernel_rfl)
theorem dBw (kk11 : cD) : D10 r n dId (xs (xs x0 3 (K1 (bI r n) 5)) 4 (K5 (bC r n kk11) 4 5 59 60 61)) (K5 (bC r n kk11) 4 5 59 60 61) = (K7 (fD r n kk11) 4 5 8 9 59 60 61) :=
 (by kernel_rfl)
theorem cEr (kk11 : cD) (kk25 : aSb) : D10 r n oB (xs (xs (xs x0 3 (K1 (bI r n) 5)) 4 (K5 (bC r n kk11) 4 5 59 60 61)) 5 (K7 (fD r n kk11) 4 5 8 9 59 60 61)) (K10 kk25 4 5 8 9 59 60 61 117 118 119) = (K10 (bEe r n kk11 kk25) 4 5 8 9 59 60 61 117 118 119) :=
 (by kernel_rfl)
theorem cIr (kk11 : cD) (m : Nat) : aL (fun kk => D10 r n oB (xs (xs (xs x0 3 (K1 (bI r n) 5)) 4 (K5 (bC r n kk11) 4 5 59 60 61)) 5 (K7 (fD r n kk11) 4 5 8 9 59 60 61)) kk) m = (K10 (uG r n kk11 m) 4 5 8 9 59 60 61 117 118 119) := by
 induction m with
 | zero => exact (by kernel_rfl : aL (fun kk => D10 r n oB (xs (xs (xs x0 3 (K1 (bI r n) 5)) 4 (K5 (bC r n kk11) 4 5 59 60 61)) 5 (K7 (fD r n kk11) 4 5 8 9 59 60 61)) kk) 0 = (K10 (uG r n kk11 0) 4 5 8 9 59 60 61 117 118 119))
 | succ m ih =>
  refine (by kernel_rfl : aL (fun kk => D10 r n oB (xs (xs (xs x0 3 (K1 (bI r n) 5)) 4 (K5 (bC r n kk11) 4 5 59 60 61)) 5 (K7 (fD r n kk11) 4 5 8 9 59 60 61)) kk) (m + 1) = D10 r n oB (xs (xs (xs x0 3 (K1 (bI r n) 5)) 4 (K5 (bC r n kk11) 4 5 59 60 61)) 5 (K7 (fD r n kk11) 4 5 8 9 59 60 61)) (aL (fun kk => D10 r n oB (xs (xs (xs x0 3 (K1 (bI r n) 5)) 4 (K5 (bC r n kk11) 4 5 59 60 61)) 5 (K7 (fD r n kk11) 4 5 8 9 59 60 61)) kk) m)).trans ?_
  rw [ih]
  exact (cEr r n kk11 (uG r n kk11 m)).trans (by kernel_rfl)
theorem cNw (kk11 : cD) : D10 r n aFc (xs (xs (xs x0 3 (K1 (bI r n) 5)) 4 (K5 (bC r n kk11) 4 5 59 60 61)) 5 (K7 (fD r n kk11) 4 5 8 9 59 60 61)) (K7 (fD r n kk11) 4 5 8 9 59 60 61) = (K10 (cAz r n kk11) 4 5 8 9 59 60 61 117 118 119) :=
 (by kernel_rfl : D10 r n aFc (xs (xs (xs x0 3 (K1 (bI r n) 5)) 4 (K5 (bC r n kk11) 4 5 59 60 61)) 5 (K7 (fD r n kk11) 4 5 8 9 59 60 61)) (K7 (fD r n kk11) 4 5 8 9 59 60 61) = aL (fun kk => D10 r n oB (xs (xs (xs x0 3 (K1 (bI r n) 5)) 4 (K5 (bC r n kk11) 4 5 59 60 61)) 5 (K7 (fD r n kk11) 4 5 8 9 59 60 61)) kk) n).trans ((cIr r n kk11 n).trans (by kernel_rfl))
theorem cXd (kk11 : cD) : D10 r n aWb (xs (xs x0 3 (K1 (bI r n) 5)) 4 (K5 (bC r n kk11) 4 5 59 60 61)) (K7 (fD r n kk11) 4 5 8 9 59 60 61) = (K10 (zQ r n kk11) 4 5 8 9 59 60 61 117 118 119) :=
 (by kernel_rfl : D10 r n aWb (xs (xs x0 3 (K1 (bI r n) 5)) 4 (K5 (bC r n kk11) 4 5 59 60 61)) (K7 (fD r n kk11) 4 5 8 9 59 60 61) = D10 r n aFc (xs (xs (xs x0 3 (K1 (bI r n) 5)) 4 (K5 (bC r n kk11) 4 5 59 60 61)) 5 (K7 (fD r n kk11) 4 5 8 9 59 60 61)) (K7 (fD r n kk11) 4 5 8 9 59 60 61)).trans
 ((cNw r n kk11).trans (by kernel_rfl))
theorem bQr (kk11 : cD) : D10 r n aDc (xs (xs x0 3 (K1 (bI r n) 5)) 4 (K5 (bC r n kk11) 4 5 59 60 61)) (K5 (bC r n kk11) 4 5 59 60 61) = D10 r n yJ (xs (xs x0 3 (K1 (bI r n) 5)) 4 (K5 (bC r n kk11) 4 5 59 60 61)) (K7 (fD r n kk11) 4 5 8 9 59 60 61) :=
 congrArg (fun k => D10 r n yJ (xs (xs x0 3 (K1 (bI r n) 5)) 4 (K5 (bC r n kk11) 4 5 59 60 61)) k) (dBw r n kk11)
theorem cLl (kk11 : cD) : D10 r n yJ (xs (xs x0 3 (K1 (bI r n) 5)) 4 (K5 (bC r n kk11) 4 5 59 60 61)) (K7 (fD r n kk11) 4 5 8 9 59 60 61) = D10 r n bAh (xs (xs x0 3 (K1 (bI r n) 5)) 4 (K5 (bC r n kk11) 4 5 59 60 61)) (K10 (zQ r n kk11) 4 5 8 9 59 60 61 117 118 119) :=
 congrArg (fun k => D10 r n bAh (xs (xs x0 3 (K1 (bI r n) 5)) 4 (K5 (bC r n kk11) 4 5 59 60 61)) k) (cXd r n kk11)
theorem bPc (kk11 : cD) (q0 : aSb) (q1 : TT1) (q2 : cD) : D10 r n bAh (xs (xs x0 3 (K1 q1 5)) 4 (K5 q2 4 5 59 60 61)) (K10 q0 4 5 8 9 59 60 61 117 118 119) = fun (env : aO) (h : Hp) =>
 bnd (r 46 [(env 13)] (resv 1 h)) fun v1 h1 =>
 bnd (aB 2 (env 8) h1) fun v2 h2 =>
 bnd (aA v2 h2) fun v3 h3 =>
 cnd (aZ (aA v2 (resv 1 h)) v3 && true) (
 bnd (r 46 [v3] h3) fun v4 h4 =>
 bnd (aS (bB 0 h.next) [(.i .i64 (Int.ofNat 0)), (.i .i64 (Int.ofNat 0)), (.i .i64 (Int.ofNat 0)), (.i .i64 (Int.ofNat 0)), (.i .i64 (Int.ofNat 0)), (.i .i64 (Int.ofNat 0))] 6 [(0, 1, (env 10)), (1, 1, (env 12)), (2, 1, v1), (3, 1, (env 19)), (4, 1, (.i .i64 (Int.ofNat 0))), (5, 1, v4)] h4) fun v5 h5 =>
 bnd (bT v5 h5) fun v6 h6 =>
  q0 (env 4) (env 5) (env 8) (env 9) (env 59) (env 60) (env 61) v5 v6 (.i .i64 (Int.ofNat 0)) h6) := by kernel_rfl
theorem bJj (kk11 : cD) : (fun (env : aO) (h : Hp) =>
 bnd (r 46 [(env 13)] (resv 1 h)) fun v1 h1 =>
 bnd (aB 2 (env 8) h1) fun v2 h2 =>
 bnd (aA v2 h2) fun v3 h3 =>
 cnd (aZ (aA v2 (resv 1 h)) v3 && true) (
 bnd (r 46 [v3] h3) fun v4 h4 =>
 bnd (aS (bB 0 h.next) [(.i .i64 (Int.ofNat 0)), (.i .i64 (Int.ofNat 0)), (.i .i64 (Int.ofNat 0)), (.i .i64 (Int.ofNat 0)), (.i .i64 (Int.ofNat 0)), (.i .i64 (Int.ofNat 0))] 6 [(0, 1, (env 10)), (1, 1, (env 12)), (2, 1, v1), (3, 1, (env 19)), (4, 1, (.i .i64 (Int.ofNat 0))), (5, 1, v4)] h4) fun v5 h5 =>
 bnd (bT v5 h5) fun v6 h6 =>
  zQ r n kk11 (env 4) (env 5) (env 8) (env 9) (env 59) (env 60) (env 61) v5 v6 (.i .i64 (Int.ofNat 0)) h6)) = (K11 (aGo r n kk11) 4 5 8 9 10 12 13 19 59 60 61) := by kernel_rfl
theorem cUy (kk11 : cD) : D10 r n aDc (xs (xs x0 3 (K1 (bI r n) 5)) 4 (K5 (bC r n kk11) 4 5 59 60 61)) (K5 (bC r n kk11) 4 5 59 60 61) = (K11 (aGo r n kk11) 4 5 8 9 10 12 13 19 59 60 61) :=
 (bQr r n kk11).trans
 ((cLl r n kk11).trans
 ((bPc r n kk11 (zQ r n kk11) (bI r n) (bC r n kk11)).trans (bJj r n kk11)))
theorem cHj (kk11 : cD) : D10 r n aLx (xs (xs x0 3 (K1 (bI r n) 5)) 4 (K5 (bC r n kk11) 4 5 59 60 61)) (K5 (bC r n kk11) 4 5 59 60 61) = D10 r n cIx (xs (xs x0 3 (K1 (bI r n) 5)) 4 (K5 (bC r n kk11) 4 5 59 60 61)) (K11 (aGo r n kk11) 4 5 8 9 10 12 13 19 59 60 61) :=
 congrArg (fun k => D10 r n cIx (xs (xs x0 3 (K1 (bI r n) 5)) 4 (K5 (bC r n kk11) 4 5 59 60 61)) k) (cUy r n kk11)
theorem cXj (kk11 : cD) : D10 r n aLx (xs (xs x0 3 (K1 (bI r n) 5)) 4 (K5 (bC r n kk11) 4 5 59 60 61)) (K5 (bC r n kk11) 4 5 59 60 61) = (K11 (oI r n kk11) 4 5 8 9 10 12 13 14 59 60 61) :=
 (cHj r n kk11).trans
 ((by kernel_rfl))
theorem bWb (kk11 : cD) : D10 r n aOr (xs (xs x0 3 (K1 (bI r n) 5)) 4 (K5 (bC r n kk11) 4 5 59 60 61)) (K5 (bC r n kk11) 4 5 59 60 61) = D10 r n aTc (xs (xs x0 3 (K1 (bI r n) 5)) 4 (K5 (bC r n kk11) 4 5 59 60 61)) (K11 (oI r n kk11) 4 5 8 9 10 12 13 14 59 60 61) :=
 congrArg (fun k => D10 r n aTc (xs (xs x0 3 (K1 (bI r n) 5)) 4 (K5 (bC r n kk11) 4 5 59 60 61)) k) (cXj r n kk11)
theorem bZm (kk11 : cD) (q0 : dTq) (q1 : TT1) (q2 : cD) : D10 r n aTc (xs (xs x0 3 (K1 q1 5)) 4 (K5 q2 4 5 59 60 61)) (K11 q0 4 5 8 9 10 12 13 14 59 60 61) = fun (env : aO) (h : Hp) =>
 bnd (aE .eql (env 7) (.i .i64 (Int.ofNat 15)) h) fun v1 h1 =>
 aT v1 (
 bnd (r 11 [(env 5), (.s [115, 101, 108, 101, 99, 116, 111, 114])] h1) fun v2 h2 =>
 bnd (aD 0 v2 h2) fun v3 h3 =>
 bnd (aD 1 v2 h3) fun v4 h4 =>
 bnd (r 11 [(env 5), (.s [97, 114, 103, 117, 109, 101, 110, 116, 115])] h4) fun v5 h5 =>
 bnd (aD 0 v5 h5) fun v6 h6 =>
 bnd (aD 1 v5 h6) fun v7 h7 =>
 bnd (aN [(.i .i64 (Int.ofNat 0)), (.i .i64 (Int.ofNat 0))] 2 [(0, 1, v3), (1, 1, v6)] h7) fun v8 h8 =>
      q0 (env 4) (env 5) (env 8) (env 9) (env 10) (env 12) (.i .i64 (Int.ofNat 2)) v8 (env 59) (env 60) (env 61) h8) (
      q0 (env 4) (env 5) (env 8) (env 9) (env 10) (env 12) (env 13) (env 14) (env 59) (env 60) (env 61) h1) := by kernel_rfl
theorem bNh (kk11 : cD) : (fun (env : aO) (h : Hp) =>
 bnd (aE .eql (env 7) (.i .i64 (Int.ofNat 15)) h) fun v1 h1 =>
 aT v1 (
 bnd (r 11 [(env 5), (.s [115, 101, 108, 101, 99, 116, 111, 114])] h1) fun v2 h2 =>
 bnd (aD 0 v2 h2) fun v3 h3 =>
 bnd (aD 1 v2 h3) fun v4 h4 =>
 bnd (r 11 [(env 5), (.s [97, 114, 103, 117, 109, 101, 110, 116, 115])] h4) fun v5 h5 =>
 bnd (aD 0 v5 h5) fun v6 h6 =>
 bnd (aD 1 v5 h6) fun v7 h7 =>
 bnd (aN [(.i .i64 (Int.ofNat 0)), (.i .i64 (Int.ofNat 0))] 2 [(0, 1, v3), (1, 1, v6)] h7) fun v8 h8 =>
      oI r n kk11 (env 4) (env 5) (env 8) (env 9) (env 10) (env 12) (.i .i64 (Int.ofNat 2)) v8 (env 59) (env 60) (env 61) h8) (
      oI r n kk11 (env 4) (env 5) (env 8) (env 9) (env 10) (env 12) (env 13) (env 14) (env 59) (env 60) (env 61) h1)) = (K12 (zR r n kk11) 4 5 7 8 9 10 12 13 14 59 60 61) := by kernel_rfl
theorem cVq (kk11 : cD) : D10 r n aOr (xs (xs x0 3 (K1 (bI r n) 5)) 4 (K5 (bC r n kk11) 4 5 59 60 61)) (K5 (bC r n kk11) 4 5 59 60 61) = (K12 (zR r n kk11) 4 5 7 8 9 10 12 13 14 59 60 61) :=
 (bWb r n kk11).trans
 ((bZm r n kk11 (oI r n kk11) (bI r n) (bC r n kk11)).trans (bNh r n kk11))
theorem cEc (kk11 : cD) : D10 r n aMb (xs (xs x0 3 (K1 (bI r n) 5)) 4 (K5 (bC r n kk11) 4 5 59 60 61)) (K5 (bC r n kk11) 4 5 59 60 61) = D10 r n bQt (xs (xs x0 3 (K1 (bI r n) 5)) 4 (K5 (bC r n kk11) 4 5 59 60 61)) (K12 (zR r n kk11) 4 5 7 8 9 10 12 13 14 59 60 61) :=
 congrArg (fun k => D10 r n bQt (xs (xs x0 3 (K1 (bI r n) 5)) 4 (K5 (bC r n kk11) 4 5 59 60 61)) k) (cVq r n kk11)
theorem cQb (kk11 : cD) : D10 r n aMb (xs (xs x0 3 (K1 (bI r n) 5)) 4 (K5 (bC r n kk11) 4 5 59 60 61)) (K5 (bC r n kk11) 4 5 59 60 61) = (K12 (aTq r n kk11) 4 5 7 8 9 10 12 13 14 59 60 61) :=
 (cEc r n kk11).trans
 ((by kernel_rfl))
theorem bLa (kk11 : cD) : D10 r n aKm (xs (xs x0 3 (K1 (bI r n) 5)) 4 (K5 (bC r n kk11) 4 5 59 60 61)) (K5 (bC r n kk11) 4 5 59 60 61) = D10 r n cGj (xs (xs x0 3 (K1 (bI r n) 5)) 4 (K5 (bC r n kk11) 4 5 59 60 61)) (K12 (aTq r n kk11) 4 5 7 8 9 10 12 13 14 59 60 61) :=
 congrArg (fun k => D10 r n cGj (xs (xs x0 3 (K1 (bI r n) 5)) 4 (K5 (bC r n kk11) 4 5 59 60 61)) k) (cQb r n kk11)
theorem cZn (kk11 : cD) : D10 r n aKm (xs (xs x0 3 (K1 (bI r n) 5)) 4 (K5 (bC r n kk11) 4 5 59 60 61)) (K5 (bC r n kk11) 4 5 59 60 61) = (K9 (aWn r n kk11) 4 5 7 8 9 10 59 60 61) :=
 (bLa r n kk11).trans
 ((by kernel_rfl))
theorem bLh (kk11 : cD) : D10 r n aEg (xs (xs x0 3 (K1 (bI r n) 5)) 4 (K5 (bC r n kk11) 4 5 59 60 61)) (K5 (bC r n kk11) 4 5 59 60 61) = D10 r n cIn (xs (xs x0 3 (K1 (bI r n) 5)) 4 (K5 (bC r n kk11) 4 5 59 60 61)) (K9 (aWn r n kk11) 4 5 7 8 9 10 59 60 61) :=
 congrArg (fun k => D10 r n cIn (xs (xs x0 3 (K1 (bI r n) 5)) 4 (K5 (bC r n kk11) 4 5 59 60 61)) k) (cZn r n kk11)
theorem dAb (kk11 : cD) : D10 r n aEg (xs (xs x0 3 (K1 (bI r n) 5)) 4 (K5 (bC r n kk11) 4 5 59 60 61)) (K5 (bC r n kk11) 4 5 59 60 61) = (K8 (aTx r n kk11) 4 5 7 8 9 59 60 61) :=
 (bLh r n kk11).trans
 ((by kernel_rfl))
theorem bLk (kk11 : cD) : D10 r n aJg (xs (xs x0 3 (K1 (bI r n) 5)) 4 (K5 (bC r n kk11) 4 5 59 60 61)) (K5 (bC r n kk11) 4 5 59 60 61) = D10 r n cHg (xs (xs x0 3 (K1 (bI r n) 5)) 4 (K5 (bC r n kk11) 4 5 59 60 61)) (K8 (aTx r n kk11) 4 5 7 8 9 59 60 61) :=
 congrArg (fun k => D10 r n cHg (xs (xs x0 3 (K1 (bI r n) 5)) 4 (K5 (bC r n kk11) 4 5 59 60 61)) k) (dAb r n kk11)
theorem cMn (kk11 : cD) : D10 r n aJg (xs (xs x0 3 (K1 (bI r n) 5)) 4 (K5 (bC r n kk11) 4 5 59 60 61)) (K5 (bC r n kk11) 4 5 59 60 61) = (K8 (aZa r n kk11) 4 5 7 8 9 59 60 61) :=
 (bLk r n kk11).trans
 ((by kernel_rfl))
theorem bJk (kk11 : cD) : D10 r n aEy (xs (xs x0 3 (K1 (bI r n) 5)) 4 (K5 (bC r n kk11) 4 5 59 60 61)) (K5 (bC r n kk11) 4 5 59 60 61) = D10 r n bWq (xs (xs x0 3 (K1 (bI r n) 5)) 4 (K5 (bC r n kk11) 4 5 59 60 61)) (K8 (aZa r n kk11) 4 5 7 8 9 59 60 61) :=
 congrArg (fun k => D10 r n bWq (xs (xs x0 3 (K1 (bI r n) 5)) 4 (K5 (bC r n kk11) 4 5 59 60 61)) k) (cMn r n kk11)
theorem cPe (kk11 : cD) : D10 r n aEy (xs (xs x0 3 (K1 (bI r n) 5)) 4 (K5 (bC r n kk11) 4 5 59 60 61)) (K5 (bC r n kk11) 4 5 59 60 61) = (K7 (yW r n kk11) 4 5 7 8 59 60 61) :=
 (bJk r n kk11).trans
 ((by kernel_rfl))
theorem bOo (kk11 : cD) : D10 r n aEm (xs x0 3 (K1 (bI r n) 5)) (K5 kk11 4 5 59 60 61) = D10 r n aPc (xs x0 3 (K1 (bI r n) 5)) (K5 (bC r n kk11) 4 5 59 60 61) :=
 congrArg (fun k => D10 r n aPc (xs x0 3 (K1 (bI r n) 5)) k) (cMo r n kk11)
theorem bOk (kk11 : cD) : D10 r n aCr (xs (xs x0 3 (K1 (bI r n) 5)) 4 (K5 (bC r n kk11) 4 5 59 60 61)) (K5 (bC r n kk11) 4 5 59 60 61) = D10 r n aTr (xs (xs x0 3 (K1 (bI r n) 5)) 4 (K5 (bC r n kk11) 4 5 59 60 61)) (K7 (yW r n kk11) 4 5 7 8 59 60 61) :=
 congrArg (fun k => D10 r n aTr (xs (xs x0 3 (K1 (bI r n) 5)) 4 (K5 (bC r n kk11) 4 5 59 60 61)) k) (cPe r n kk11)
theorem bJz (kk11 : cD) (q0 : TT7) (q1 : TT1) (q2 : cD) : D10 r n aTr (xs (xs x0 3 (K1 q1 5)) 4 (K5 q2 4 5 59 60 61)) (K7 q0 4 5 7 8 59 60 61) = fun (env : aO) (h : Hp) =>
 bnd (aJ 3 (env 59) (env 61) h) fun v1 h1 =>
 bnd (aI 3 v1 h1) fun v2 h2 =>
 bnd (bD [(.s []), (.i .i64 (Int.ofNat 0)), (.i .i64 (Int.ofNat 0))] h2) fun v3 h3 =>
 bnd (aC 3 v3 v2 h3) fun _ h4 =>
  q0 (env 4) (env 5) (env 61) v3 (env 59) (env 60) (env 61) h4 := by kernel_rfl
theorem aWe (kk11 : cD) : (fun (env : aO) (h : Hp) =>
 bnd (aJ 3 (env 59) (env 61) h) fun v1 h1 =>
 bnd (aI 3 v1 h1) fun v2 h2 =>
 bnd (bD [(.s []), (.i .i64 (Int.ofNat 0)), (.i .i64 (Int.ofNat 0))] h2) fun v3 h3 =>
 bnd (aC 3 v3 v2 h3) fun _ h4 =>
  yW r n kk11 (env 4) (env 5) (env 61) v3 (env 59) (env 60) (env 61) h4) = (K5 (aEf r n kk11) 4 5 59 60 61) := by kernel_rfl
theorem cZj (kk11 : cD) : D10 r n aEm (xs x0 3 (K1 (bI r n) 5)) (K5 kk11 4 5 59 60 61) = (K5 (aEf r n kk11) 4 5 59 60 61) :=
 (bOo r n kk11).trans
 ((by kernel_rfl : D10 r n aPc (xs x0 3 (K1 (bI r n) 5)) (K5 (bC r n kk11) 4 5 59 60 61) = D10 r n aCr (xs (xs x0 3 (K1 (bI r n) 5)) 4 (K5 (bC r n kk11) 4 5 59 60 61)) (K5 (bC r n kk11) 4 5 59 60 61)).trans
 ((bOk r n kk11).trans
 ((bJz r n kk11 (yW r n kk11) (bI r n) (bC r n kk11)).trans (aWe r n kk11))))
theorem bNy (kk11 : cD) : D10 r n aGa (xs x0 3 (K1 (bI r n) 5)) (K5 kk11 4 5 59 60 61) = D10 r n cDt (xs x0 3 (K1 (bI r n) 5)) (K5 (aEf r n kk11) 4 5 59 60 61) :=
 congrArg (fun k => D10 r n cDt (xs x0 3 (K1 (bI r n) 5)) k) (cZj r n kk11)
theorem cTf (kk11 : cD) : D10 r n aGa (xs x0 3 (K1 (bI r n) 5)) (K5 kk11 4 5 59 60 61) = (K6 (aWk r n kk11) 4 5 59 60 61 62) :=
 (bNy r n kk11).trans
 ((by kernel_rfl))
theorem bJq (kk11 : cD) : D10 r n kB (xs x0 3 (K1 (bI r n) 5)) (K5 kk11 4 5 59 60 61) = D10 r n bTe (xs x0 3 (K1 (bI r n) 5)) (K6 (aWk r n kk11) 4 5 59 60 61 62) :=
 congrArg (fun k => D10 r n bTe (xs x0 3 (K1 (bI r n) 5)) k) (cTf r n kk11)
theorem cAg (kk11 : cD) : D10 r n kB (xs x0 3 (K1 (bI r n) 5)) (K5 kk11 4 5 59 60 61) = (K5 (bDn r n kk11) 4 5 59 60 61) :=
 (bJq r n kk11).trans
 ((by kernel_rfl))
theorem cFj (m : Nat) : aL (fun kk => D10 r n kB (xs x0 3 (K1 (bI r n) 5)) kk) m = (K5 (uP r n m) 4 5 59 60 61) := by
 induction m with
 | zero => exact (by kernel_rfl : aL (fun kk => D10 r n kB (xs x0 3 (K1 (bI r n) 5)) kk) 0 = (K5 (uP r n 0) 4 5 59 60 61))
 | succ m ih =>
  refine (by kernel_rfl : aL (fun kk => D10 r n kB (xs x0 3 (K1 (bI r n) 5)) kk) (m + 1) = D10 r n kB (xs x0 3 (K1 (bI r n) 5)) (aL (fun kk => D10 r n kB (xs x0 3 (K1 (bI r n) 5)) kk) m)).trans ?_
  rw [ih]
  exact (cAg r n (uP r n m)).trans (by kernel_rfl)
theorem cPp : D10 r n aLe (xs x0 3 (K1 (bI r n) 5)) (K1 (bI r n) 5) = (K5 (bXn r n) 4 5 59 60 61) :=
 (by kernel_rfl : D10 r n aLe (xs x0 3 (K1 (bI r n) 5)) (K1 (bI r n) 5) = aL (fun kk => D10 r n kB (xs x0 3 (K1 (bI r n) 5)) kk) n).trans ((cFj r n n).trans (by kernel_rfl))
theorem cPc : D10 r n aYf x0 (K1 (bI r n) 5) = (K5 (aVz r n) 4 5 59 60 61) :=
 (by kernel_rfl : D10 r n aYf x0 (K1 (bI r n) 5) = D10 r n aLe (xs x0 3 (K1 (bI r n) 5)) (K1 (bI r n) 5)).trans
 ((cPp r n).trans (by kernel_rfl))
theorem bXx : D10 r n bDy x0 r10 = D10 r n xH x0 (K1 (bI r n) 5) :=
 congrArg (fun k => D10 r n xH x0 k) (dIi r n)
theorem bZr : D10 r n xH x0 (K1 (bI r n) 5) = D10 r n bSo x0 (K5 (aVz r n) 4 5 59 60 61) :=
 congrArg (fun k => D10 r n bSo x0 k) (cPc r n)
theorem dMw : D10 r n bDy x0 r10 = (K2 (gW r n) 4 5) :=
 (bXx r n).trans
 ((bZr r n).trans
 ((by kernel_rfl)))
theorem cEo (kk27 : eO) : D10 r n nX (xs x0 1 (K2 (gW r n) 4 5)) (K3 kk27 4 5 43) = (K3 (bIl r n kk27) 4 5 43) :=
 (by kernel_rfl)
theorem bSh (m : Nat) : aL (fun kk => D10 r n nX (xs x0 1 (K2 (gW r n) 4 5)) kk) m = (K3 (wL r n m) 4 5 43) := by
 induction m with
 | zero => exact (by kernel_rfl : aL (fun kk => D10 r n nX (xs x0 1 (K2 (gW r n) 4 5)) kk) 0 = (K3 (wL r n 0) 4 5 43))
 | succ m ih =>
  refine (by kernel_rfl : aL (fun kk => D10 r n nX (xs x0 1 (K2 (gW r n) 4 5)) kk) (m + 1) = D10 r n nX (xs x0 1 (K2 (gW r n) 4 5)) (aL (fun kk => D10 r n nX (xs x0 1 (K2 (gW r n) 4 5)) kk) m)).trans ?_
  rw [ih]
  exact (cEo r n (wL r n m)).trans (by kernel_rfl)
theorem cNs : D10 r n aKj (xs x0 1 (K2 (gW r n) 4 5)) (K2 (gW r n) 4 5) = (K3 (cCo r n) 4 5 43) :=
 (by kernel_rfl : D10 r n aKj (xs x0 1 (K2 (gW r n) 4 5)) (K2 (gW r n) 4 5) = aL (fun kk => D10 r n nX (xs x0 1 (K2 (gW r n) 4 5)) kk) n).trans ((bSh r n n).trans (by kernel_rfl))
theorem cYz : D10 r n aZz x0 (K2 (gW r n) 4 5) = (K3 (aVi r n) 4 5 43) :=
 (by kernel_rfl : D10 r n aZz x0 (K2 (gW r n) 4 5) = D10 r n aKj (xs x0 1 (K2 (gW r n) 4 5)) (K2 (gW r n) 4 5)).trans
 ((cNs r n).trans (by kernel_rfl))
theorem cHa : D10 r n bIy x0 r10 = D10 r n aAa x0 (K2 (gW r n) 4 5) :=
 congrArg (fun k => D10 r n aAa x0 k) (dMw r n)
theorem bVt : D10 r n aAa x0 (K2 (gW r n) 4 5) = D10 r n bSm x0 (K3 (aVi r n) 4 5 43) :=
 congrArg (fun k => D10 r n bSm x0 k) (cYz r n)
theorem dHs : D10 r n bIy x0 r10 = (K2 (aPo r n) 4 5) :=
 (cHa r n).trans
 ((bVt r n).trans
 ((by kernel_rfl)))
theorem cJe : D10 r n bHo x0 r10 = D10 r n aVl x0 (K2 (aPo r n) 4 5) :=
 congrArg (fun k => D10 r n aVl x0 k) (dHs r n)
theorem bXl (q0 : eM) : D10 r n aVl x0 (K2 q0 4 5) = fun (env : aO) (h : Hp) =>
 bnd (cG 1 8 [(.i .i64 (Int.ofNat 0))] (.i .i64 (Int.ofNat 18)) (.i .i64 (Int.ofNat 18)) h) fun v1 h1 =>
 bnd (dX h1) fun v2 h2 =>
 bnd (dX h2) fun v3 h3 =>
 bnd (bA [.p0, .l0, .m0, .m0] [(0, 1, (env 4)), (1, 1, v1), (2, 1, v2), (3, 1, v3)] h3) fun v4 h4 =>
 bnd (bN v4 h4) fun v5 h5 =>
  q0 (env 4) v5 h5 := by kernel_rfl
theorem bNj : (fun (env : aO) (h : Hp) =>
 bnd (cG 1 8 [(.i .i64 (Int.ofNat 0))] (.i .i64 (Int.ofNat 18)) (.i .i64 (Int.ofNat 18)) h) fun v1 h1 =>
 bnd (dX h1) fun v2 h2 =>
 bnd (dX h2) fun v3 h3 =>
 bnd (bA [.p0, .l0, .m0, .m0] [(0, 1, (env 4)), (1, 1, v1), (2, 1, v2), (3, 1, v3)] h3) fun v4 h4 =>
 bnd (bN v4 h4) fun v5 h5 =>
  aPo r n (env 4) v5 h5) = (K1 (aQe r n) 4) := by kernel_rfl
theorem cFg : D10 r n bHo x0 r10 = (K1 (aQe r n) 4) :=
 (cJe r n).trans
 ((bXl r n (aPo r n)).trans (bNj r n))
theorem bTt : D10 r n bAp x0 r10 = D10 r n bVx x0 (K1 (aQe r n) 4) :=
 congrArg (fun k => D10 r n bVx x0 k) (cFg r n)
theorem dNc : D10 r n bAp x0 r10 = (K2 (aBo r n) 0 4) :=
 (bTt r n).trans
 ((by kernel_rfl))
theorem bUg : D10 r n bFt x0 r10 = D10 r n cGt x0 (K2 (aBo r n) 0 4) :=
 congrArg (fun k => D10 r n cGt x0 k) (dNc r n)
theorem dJo : D10 r n bFt x0 r10 = (K1 (aCc r n) 0) :=
 (bUg r n).trans
 ((by kernel_rfl))
theorem dGt : D10 r n c10 x0 r10 = D10 r n cKd x0 (K1 (aCc r n) 0) :=
 congrArg (fun k => D10 r n cKd x0 k) (dJo r n)
theorem dZh : D10 r n c10 x0 r10 = (K1 (s10 r n) 0) :=
 (dGt r n).trans
 ((by kernel_rfl))
theorem bEm : aG CF r n 10 args h = s10 r n (aR args 0) h :=
 (by kernel_rfl : aG CF r n 10 args h = D10 r n c10 x0 r10 (aK args) h).trans ((congrFun (congrFun (dZh r n) (aK args)) h).trans (by kernel_rfl))
noncomputable def s11 (r : RT) (n : Nat) (x0 x1 : DV) (h0 : Hp) : aH :=
 bnd (fS x1 h0) fun v1 h1 =>
 bnd (aE .lss v1 (aF 1) h1) fun v2 h2 =>
 bnd (gD v2 false (some (x1, h2)) h2) fun v3 h3 =>
 bnd (gD v2 false (fS v3 h3) h3) fun v4 h4 =>
 bnd (gD v2 false (aE .gtr v4 (aF 60) h4) h4) fun v5 h5 =>
 bnd (aP v2 (.b true) v5 h5) fun v6 h6 =>
 aT v6 (
 some (.t [(aF 0), (aF 1)], h6)) (
 bnd (aU x0 h6) fun v7 h7 =>
 bnd (aB 2 v7 h7) fun v8 h8 =>
 bnd (aA v8 h8) fun v9 h9 =>
 bnd (gL .string (aF 0) false v9 x1 h9) fun v10 h10 =>
 bnd (aE .neq v10 (aF 0) h10) fun v11 h11 =>
 aT v11 (
 some (.t [v10, (aF 0)], h11)) (
 bnd (r 15 [x0, (aF 11)] h11) fun v12 h12 =>
 bnd (r 49 [x0, v12, x1] h12) fun v13 h13 =>
 bnd (aD 0 v13 h13) fun v14 h14 =>
 bnd (aD 1 v13 h14) fun v15 h15 =>
 bnd (aE .neq v15 (aF 0) h15) fun v16 h16 =>
 aT v16 (
 some (.t [(aF 0), v15], h16)) (
 bnd (aU x0 h16) fun v17 h17 =>
 bnd (aB 1 v17 h17) fun v18 h18 =>
 bnd (aA v18 h18) fun v19 h19 =>
 bnd (aJ 1 v19 (aF 0) h19) fun v20 h20 =>
 bnd (aA v20 h20) fun v21 h21 =>
 bnd (r 48 [x0, v14, v21] h21) fun v22 h22 =>
 bnd (aD 0 v22 h22) fun v23 h23 =>
 bnd (aD 1 v22 h23) fun v24 h24 =>
 bnd (aE .neq v24 (aF 0) h24) fun v25 h25 =>
 aT v25 (
 some (.t [(aF 0), v24], h25)) (
 bnd (aU x0 h25) fun v26 h26 =>
 bnd (aB 1 v26 h26) fun v27 h27 =>
 bnd (aA v27 h27) fun v28 h28 =>
 bnd (aU x0 h28) fun v29 h29 =>
 bnd (aB 2 v29 h29) fun v30 h30 =>
 bnd (aA v30 h30) fun v31 h31 =>
 bnd (aJ 1 v28 (aF 0) h31) fun v32 h32 =>
 bnd (aC 1 v32 v23 h32) fun v33 h33 =>
 bnd (iK .string (aF 0) v31 x1 h33) fun v34 h34 =>
 bnd (aD 1 v34 h34) fun v35 h35 =>
 bnd (fP v31 v35 v14 h35) fun v36 h36 =>
 some (.t [v14, (aF 0)], h36)))))
noncomputable abbrev c11 : Code := cf Tryz.f11
noncomputable abbrev r11 : K := aQ CF Tryz.f11
noncomputable def D11 (r : RT) (n : Nat) (c : Code) (X : Nat → K) (k : K) : K := aM CF r 68 n c X r11 k
theorem eBt : D11 r n c11 x0 r11 = (K2 (s11 r n) 0 1) :=
 (by kernel_rfl)
theorem dUd : aG CF r n 11 args h = s11 r n (aR args 0) (aR args 1) h :=
 (by kernel_rfl : aG CF r n 11 args h = D11 r n c11 x0 r11 (aK args) h).trans ((congrFun (congrFun (eBt r n) (aK args)) h).trans (by kernel_rfl))
noncomputable def gI (r : RT) (n : Nat) (x7 : DV) (h0 : Hp) : aH :=
 bnd (iA x7 h0) fun v1 h1 =>
 some (.t [v1, (.b true)], h1)
noncomputable def aRw (r : RT) (n : Nat) (kk7 : cD) (x0 x1 x7 x48 x49 : DV) (h0 : Hp) : aH :=
 bnd (aE .lss x49 x48 h0) fun v1 h1 =>
 aT v1 (
 bnd (r 53 [x0, x1, x49] h1) fun v2 h2 =>
 bnd (eK .u8 v2 h2) fun v3 h3 =>
 bnd (aN [(.i .u8 (Int.ofNat 0))] 1 [(0, 1, v3)] h3) fun v4 h4 =>
 bnd (aW 1 1 x7 v4 h4) fun v5 h5 =>
 bnd (aE .add x49 (aF 1) h5) fun v6 h6 =>
      kk7 x0 x1 v5 x48 v6 h6) (
      gI r n x7 h1)
noncomputable def aHs (r : RT) (n : Nat) (m : Nat) : cD :=
 Nat.rec (motive := fun _ => cD) (fun _ _ _ _ _ _ => none) (fun _ ih => aRw r n ih) m
noncomputable def dDo (r : RT) (n : Nat) : cD := aHs r n n
noncomputable def cHp (r : RT) (n : Nat) (x0 x1 x7 x48 x49 : DV) (h0 : Hp) : aH :=
 dDo r n x0 x1 x7 x48 x49 h0
noncomputable def bRq (r : RT) (n : Nat) (x0 x1 x7 : DV) (h0 : Hp) : aH :=
 bnd (aU x0 h0) fun v1 h1 =>
 bnd (aB 0 v1 h1) fun v2 h2 =>
 bnd (aA v2 h2) fun v3 h3 =>
 bnd (qI [v3, x1] h3) fun v4 h4 =>
  cHp r n x0 x1 x7 v4 (aF 0) h4
noncomputable def bYv (r : RT) (n : Nat) (x0 x1 : DV) (h0 : Hp) : aH :=
 bRq r n x0 x1 .l0 h0
noncomputable def cGp (r : RT) (n : Nat) (x0 x1 x6 : DV) (h0 : Hp) : aH :=
 bnd (aU x0 h0) fun v1 h1 =>
 bnd (aB 0 v1 h1) fun v2 h2 =>
 bnd (aA v2 h2) fun v3 h3 =>
 bnd (isG [v3, x1] h3) fun v4 h4 =>
 bnd (fV .not v4 h4) fun v5 h5 =>
 bnd (gD v5 false (some (x6, h5)) h5) fun v6 h6 =>
 bnd (gD v5 false (some (x0, h6)) h6) fun v7 h7 =>
 bnd (gD v5 false (r 15 [v7, (aF 10)] h7) h7) fun v8 h8 =>
 bnd (gD v5 false (aE .neq v6 v8 h8) h8) fun v9 h9 =>
 bnd (gD v5 false (some (v9, h9)) h9) fun v10 h10 =>
 bnd (gD v10 true (some (x6, h10)) h10) fun v11 h11 =>
 bnd (gD v10 true (some (x0, h11)) h11) fun v12 h12 =>
 bnd (gD v10 true (r 15 [v12, (aF 11)] h12) h12) fun v13 h13 =>
 bnd (gD v10 true (aE .neq v11 v13 h13) h13) fun v14 h14 =>
 bnd (gD v5 false (aP v10 v14 (.b false) h14) h14) fun v15 h15 =>
 bnd (aP v5 (.b true) v15 h15) fun v16 h16 =>
 bnd (gD v16 false (some (x0, h16)) h16) fun v17 h17 =>
 bnd (gD v16 false (aU v17 h17) h17) fun v18 h18 =>
 bnd (gD v16 false (aB 0 v18 h18) h18) fun v19 h19 =>
 bnd (gD v16 false (aA v19 h19) h19) fun v20 h20 =>
 bnd (gD v16 false (some (x1, h20)) h20) fun v21 h21 =>
 bnd (gD v16 false (bIx [v20, v21] h21) h21) fun v22 h22 =>
 bnd (gD v16 false (aE .neq v22 (aF 2) h22) h22) fun v23 h23 =>
 bnd (aP v16 (.b true) v23 h23) fun v24 h24 =>
 aT v24 (
 some (.t [(.s []), (.b false)], h24)) (
  bYv r n x0 x1 h24)
noncomputable def bZw (r : RT) (n : Nat) (x0 x1 : DV) (h0 : Hp) : aH :=
 bnd (aU x0 h0) fun v1 h1 =>
 bnd (aB 0 v1 h1) fun v2 h2 =>
 bnd (aA v2 h2) fun v3 h3 =>
 bnd (aYb [v3, x1] h3) fun v4 h4 =>
  cGp r n x0 x1 v4 h4
noncomputable def s13 (r : RT) (n : Nat) (x0 x1 : DV) (h0 : Hp) : aH :=
 bZw r n x0 x1 h0
noncomputable abbrev c13 : Code := cf Tryz.f13
noncomputable abbrev bEr : Code := cR c13
noncomputable abbrev bHq : Code := cR bEr
noncomputable abbrev bBk : Code := cR bHq
noncomputable abbrev bCd : Code := cR bBk
noncomputable abbrev dXj : Code := cR bCd
noncomputable abbrev aQt : Code := cL bCd
noncomputable abbrev cIi : Code := cR aQt
noncomputable abbrev bBt : Code := cL cIi
noncomputable abbrev tA : Code := cL bBt
noncomputable abbrev cGs : Code := cL aQt
noncomputable abbrev bXk : Code := cL bBk
noncomputable abbrev bQw : Code := cL bHq
noncomputable abbrev cAw : Code := cL bEr
noncomputable abbrev bVd : Code := cL c13
noncomputable abbrev r13 : K := aQ CF Tryz.f13
noncomputable def D13 (r : RT) (n : Nat) (c : Code) (X : Nat → K) (k : K) : K := aM CF r 63 n c X r13 k
theorem dIg : D13 r n dXj x0 r13 = (K1 (gI r n) 7) :=
 (by kernel_rfl)
theorem dCz (kk7 : cD) (q0 : TT1) : D13 r n tA (xs x0 0 (K1 q0 7)) (K5 kk7 0 1 7 48 49) = fun (env : aO) (h : Hp) =>
 bnd (aE .lss (env 49) (env 48) h) fun v1 h1 =>
 aT v1 (
 bnd (r 53 [(env 0), (env 1), (env 49)] h1) fun v2 h2 =>
 bnd (eK .u8 v2 h2) fun v3 h3 =>
 bnd (aN [(.i .u8 (Int.ofNat 0))] 1 [(0, 1, v3)] h3) fun v4 h4 =>
 bnd (aW 1 1 (env 7) v4 h4) fun v5 h5 =>
 bnd (aE .add (env 49) (aF 1) h5) fun v6 h6 =>
      kk7 (env 0) (env 1) v5 (env 48) v6 h6) (
      q0 (env 7) h1) := by kernel_rfl
theorem cIo (kk7 : cD) : (fun (env : aO) (h : Hp) =>
 bnd (aE .lss (env 49) (env 48) h) fun v1 h1 =>
 aT v1 (
 bnd (r 53 [(env 0), (env 1), (env 49)] h1) fun v2 h2 =>
 bnd (eK .u8 v2 h2) fun v3 h3 =>
 bnd (aN [(.i .u8 (Int.ofNat 0))] 1 [(0, 1, v3)] h3) fun v4 h4 =>
 bnd (aW 1 1 (env 7) v4 h4) fun v5 h5 =>
 bnd (aE .add (env 49) (aF 1) h5) fun v6 h6 =>
      kk7 (env 0) (env 1) v5 (env 48) v6 h6) (
      gI r n (env 7) h1)) = (K5 (aRw r n kk7) 0 1 7 48 49) := by kernel_rfl
theorem cZl (kk7 : cD) : D13 r n tA (xs x0 0 (K1 (gI r n) 7)) (K5 kk7 0 1 7 48 49) = (K5 (aRw r n kk7) 0 1 7 48 49) :=
 (dCz r n kk7 (gI r n)).trans (cIo r n kk7)
theorem cQv (m : Nat) : aL (fun kk => D13 r n tA (xs x0 0 (K1 (gI r n) 7)) kk) m = (K5 (aHs r n m) 0 1 7 48 49) := by
 induction m with
 | zero => exact (by kernel_rfl : aL (fun kk => D13 r n tA (xs x0 0 (K1 (gI r n) 7)) kk) 0 = (K5 (aHs r n 0) 0 1 7 48 49))
 | succ m ih =>
  refine (by kernel_rfl : aL (fun kk => D13 r n tA (xs x0 0 (K1 (gI r n) 7)) kk) (m + 1) = D13 r n tA (xs x0 0 (K1 (gI r n) 7)) (aL (fun kk => D13 r n tA (xs x0 0 (K1 (gI r n) 7)) kk) m)).trans ?_
  rw [ih]
  exact (cZl r n (aHs r n m)).trans (by kernel_rfl)
theorem dGo : D13 r n bBt (xs x0 0 (K1 (gI r n) 7)) (K1 (gI r n) 7) = (K5 (dDo r n) 0 1 7 48 49) :=
 (by kernel_rfl : D13 r n bBt (xs x0 0 (K1 (gI r n) 7)) (K1 (gI r n) 7) = aL (fun kk => D13 r n tA (xs x0 0 (K1 (gI r n) 7)) kk) n).trans ((cQv r n n).trans (by kernel_rfl))
theorem dGa : D13 r n cIi x0 (K1 (gI r n) 7) = (K5 (cHp r n) 0 1 7 48 49) :=
 (by kernel_rfl : D13 r n cIi x0 (K1 (gI r n) 7) = D13 r n bBt (xs x0 0 (K1 (gI r n) 7)) (K1 (gI r n) 7)).trans
 ((dGo r n).trans (by kernel_rfl))
theorem cLu : D13 r n bCd x0 r13 = D13 r n aQt x0 (K1 (gI r n) 7) :=
 congrArg (fun k => D13 r n aQt x0 k) (dIg r n)
theorem cXu : D13 r n aQt x0 (K1 (gI r n) 7) = D13 r n cGs x0 (K5 (cHp r n) 0 1 7 48 49) :=
 congrArg (fun k => D13 r n cGs x0 k) (dGa r n)
theorem dQd : D13 r n bCd x0 r13 = (K3 (bRq r n) 0 1 7) :=
 (cLu r n).trans
 ((cXu r n).trans
 ((by kernel_rfl)))
theorem cXl : D13 r n bBk x0 r13 = D13 r n bXk x0 (K3 (bRq r n) 0 1 7) :=
 congrArg (fun k => D13 r n bXk x0 k) (dQd r n)
theorem dJr : D13 r n bBk x0 r13 = (K2 (bYv r n) 0 1) :=
 (cXl r n).trans
 ((by kernel_rfl))
theorem cOs : D13 r n bHq x0 r13 = D13 r n bQw x0 (K2 (bYv r n) 0 1) :=
 congrArg (fun k => D13 r n bQw x0 k) (dJr r n)
theorem dLm : D13 r n bHq x0 r13 = (K3 (cGp r n) 0 1 6) :=
 (cOs r n).trans
 ((by kernel_rfl))
theorem cQi : D13 r n bEr x0 r13 = D13 r n cAw x0 (K3 (cGp r n) 0 1 6) :=
 congrArg (fun k => D13 r n cAw x0 k) (dLm r n)
theorem dLj : D13 r n bEr x0 r13 = (K2 (bZw r n) 0 1) :=
 (cQi r n).trans
 ((by kernel_rfl))
theorem dXh : D13 r n c13 x0 r13 = D13 r n bVd x0 (K2 (bZw r n) 0 1) :=
 congrArg (fun k => D13 r n bVd x0 k) (dLj r n)
theorem eBf : D13 r n c13 x0 r13 = (K2 (s13 r n) 0 1) :=
 (dXh r n).trans
 ((by kernel_rfl))
theorem dVn : aG CF r n 13 args h = s13 r n (aR args 0) (aR args 1) h :=
 (by kernel_rfl : aG CF r n 13 args h = D13 r n c13 x0 r13 (aK args) h).trans ((congrFun (congrFun (eBf r n) (aK args)) h).trans (by kernel_rfl))
noncomputable def s15 (r : RT) (n : Nat) (x0 x1 : DV) (h0 : Hp) : aH :=
 bnd (aE .lss x1 (aF 0) h0) fun v1 h1 =>
 bnd (gD v1 false (some (x1, h1)) h1) fun v2 h2 =>
 bnd (gD v1 false (aE .geq v2 (aF 16) h2) h2) fun v3 h3 =>
 bnd (aP v1 (.b true) v3 h3) fun v4 h4 =>
 aT v4 (
 some ((aF 0), h4)) (
 bnd (aU x0 h4) fun v5 h5 =>
 bnd (aB 1 v5 h5) fun v6 h6 =>
 bnd (aA v6 h6) fun v7 h7 =>
 bnd (aE .add (aF 2) x1 h7) fun v8 h8 =>
 bnd (aJ 1 v7 v8 h8) fun v9 h9 =>
 bnd (aA v9 h9) fun v10 h10 =>
 some (v10, h10))
noncomputable abbrev c15 : Code := cf Tryz.f15
noncomputable abbrev r15 : K := aQ CF Tryz.f15
noncomputable def D15 (r : RT) (n : Nat) (c : Code) (X : Nat → K) (k : K) : K := aM CF r 19 n c X r15 k
theorem eAk : D15 r n c15 x0 r15 = (K2 (s15 r n) 0 1) :=
 (by kernel_rfl)
theorem dWd : aG CF r n 15 args h = s15 r n (aR args 0) (aR args 1) h :=
 (by kernel_rfl : aG CF r n 15 args h = D15 r n c15 x0 r15 (aK args) h).trans ((congrFun (congrFun (eAk r n) (aK args)) h).trans (by kernel_rfl))
noncomputable def s16 (r : RT) (n : Nat) (h0 : Hp) : aH :=
 bnd (r 10 [(.i .i64 (Int.ofNat 20000))] h0) fun v1 h1 =>
 bnd (aD 0 v1 h1) fun v2 h2 =>
 bnd (aD 1 v1 h2) fun v3 h3 =>
 bnd (pEq (.pointer 83) true v2 .p0 h3) fun v4 h4 =>
 bnd (gD v4 false (some (v3, h4)) h4) fun v5 h5 =>
 bnd (gD v4 false (aE .neq v5 (.i .i64 (Int.ofNat 0)) h5) h5) fun v6 h6 =>
 bnd (aP v4 (.b true) v6 h6) fun v7 h7 =>
 aT v7 (
 some ((.b false), h7)) (
 bnd (aN [(.s []), (.s [])] 2 [(0, 1, (.s [120])), (1, 1, (.s [121]))] h7) fun v8 h8 =>
 bnd (r 32 [v2, (.s [80, 111, 105, 110, 116]), (.s [79, 98, 106, 101, 99, 116]), v8] h8) fun v9 h9 =>
 bnd (aD 0 v9 h9) fun v10 h10 =>
 bnd (aD 1 v9 h10) fun v11 h11 =>
 bnd (r 55 [v2, v10] h11) fun v12 h12 =>
 bnd (r 34 [v2, (.s [80, 111, 105, 110, 116]), (.s [120, 32, 94, 120])] h12) fun v13 h13 =>
 bnd (aD 0 v13 h13) fun v14 h14 =>
 bnd (aD 1 v13 h14) fun v15 h15 =>
 bnd (aD 2 v13 h15) fun v16 h16 =>
 bnd (aD 3 v13 h16) fun v17 h17 =>
 bnd (r 56 [v2, v14] h17) fun v18 h18 =>
 bnd (aD 0 v18 h18) fun v19 h19 =>
 bnd (aD 1 v18 h19) fun v20 h20 =>
 bnd (bD [(.s []), (.i .i64 (Int.ofNat 0)), (.i .i64 (Int.ofNat 0)), (.i .i64 (Int.ofNat 0)), .l0, .l0] h20) fun v21 h21 =>
 bnd (aC 6 v21 v19 h21) fun _ h22 =>
 bnd (r 17 [v2, (.i .i64 (Int.ofNat 1073741824))] h22) fun v23 h23 =>
 bnd (aD 0 v23 h23) fun v24 h24 =>
 bnd (aD 1 v23 h24) fun v25 h25 =>
 bnd (r 58 [v2, (.s [73, 110, 116, 101, 103, 101, 114])] h25) fun v26 h26 =>
 bnd (r 57 [v2, v26] h26) fun v27 h27 =>
 bnd (dR .eql v27 (.s [73, 110, 116, 101, 103, 101, 114]) h27) fun v28 h28 =>
 bnd (gD v28 true (some (v11, h28)) h28) fun v29 h29 =>
 bnd (gD v28 true (aE .eql v29 (.i .i64 (Int.ofNat 0)) h29) h29) fun v30 h30 =>
 bnd (aP v28 v30 (.b false) h30) fun v31 h31 =>
 bnd (gD v31 true (some (v12, h31)) h31) fun v32 h32 =>
 bnd (gD v31 true (bT v32 h32) h32) fun v33 h33 =>
 bnd (gD v31 true (aE .eql v33 (.i .i64 (Int.ofNat 2)) h33) h33) fun v34 h34 =>
 bnd (aP v31 v34 (.b false) h34) fun v35 h35 =>
 bnd (gD v35 true (some (v12, h35)) h35) fun v36 h36 =>
 bnd (gD v35 true (aJ 1 v36 (.i .i64 (Int.ofNat 1)) h36) h36) fun v37 h37 =>
 bnd (gD v35 true (aA v37 h37) h37) fun v38 h38 =>
 bnd (gD v35 true (dR .eql v38 (.s [121]) h38) h38) fun v39 h39 =>
 bnd (aP v35 v39 (.b false) h39) fun v40 h40 =>
 bnd (gD v40 true (some (v17, h40)) h40) fun v41 h41 =>
 bnd (gD v40 true (aE .eql v41 (.i .i64 (Int.ofNat 0)) h41) h41) fun v42 h42 =>
 bnd (aP v40 v42 (.b false) h42) fun v43 h43 =>
 bnd (gD v43 true (some (v20, h43)) h43) fun v44 h44 =>
 bnd (aP v43 v44 (.b false) h44) fun v45 h45 =>
 bnd (gD v45 true (aB 5 v21 h45) h45) fun v46 h46 =>
 bnd (gD v45 true (aA v46 h46) h46) fun v47 h47 =>
 bnd (gD v45 true (r 59 [v47] h47) h47) fun v48 h48 =>
 bnd (gD v45 true (dR .eql v48 (.s [105, 118, 97, 114, 32, 48, 10, 114, 101, 116, 117, 114, 110, 10]) h48) h48) fun v49 h49 =>
 bnd (aP v45 v49 (.b false) h49) fun v50 h50 =>
 bnd (gD v50 true (some (v25, h50)) h50) fun v51 h51 =>
 bnd (gD v50 true (aE .eql v51 (.i .i64 (Int.ofNat 0)) h51) h51) fun v52 h52 =>
 bnd (aP v50 v52 (.b false) h52) fun v53 h53 =>
 bnd (gD v53 true (some (v2, h53)) h53) fun v54 h54 =>
 bnd (gD v53 true (some (v24, h54)) h54) fun v55 h55 =>
 bnd (gD v53 true (r 14 [v54, v55] h55) h55) fun v56 h56 =>
 bnd (gD v53 true (some (v2, h56)) h56) fun v57 h57 =>
 bnd (gD v53 true (r 58 [v57, (.s [76, 97, 114, 103, 101, 73, 110, 116, 101, 103, 101, 114])] h57) h57) fun v58 h58 =>
 bnd (gD v53 true (aE .eql v56 v58 h58) h58) fun v59 h59 =>
 bnd (aP v53 v59 (.b false) h59) fun v60 h60 =>
 some (v60, h60))
noncomputable abbrev c16 : Code := cf Tryz.f16
noncomputable abbrev r16 : K := aQ CF Tryz.f16
noncomputable def D16 (r : RT) (n : Nat) (c : Code) (X : Nat → K) (k : K) : K := aM CF r 96 n c X r16 k
theorem eCt : D16 r n c16 x0 r16 = (K0 (s16 r n)) :=
 (by kernel_rfl)
theorem dDf : aG CF r n 16 args h = s16 r n h :=
 (by kernel_rfl : aG CF r n 16 args h = D16 r n c16 x0 r16 (aK args) h).trans ((congrFun (congrFun (eCt r n) (aK args)) h).trans (by kernel_rfl))
noncomputable def s17 (r : RT) (n : Nat) (x0 x1 : DV) (h0 : Hp) : aH :=
 bnd (aE .lss x1 (.i .i64 (Int.negSucc 1152921504606846975)) h0) fun v1 h1 =>
 bnd (gD v1 false (some (x1, h1)) h1) fun v2 h2 =>
 bnd (gD v1 false (aE .gtr v2 (aF 1152921504606846976) h2) h2) fun v3 h3 =>
 bnd (aP v1 (.b true) v3 h3) fun v4 h4 =>
 aT v4 (
 some (.t [(aF 0), (aF 2)], h4)) (
 bnd (mS [x1] h4) fun v5 h5 =>
 bnd (aD 0 v5 h5) fun v6 h6 =>
 bnd (aD 1 v5 h6) fun v7 h7 =>
 aT v7 (
 some (.t [v6, (aF 0)], h7)) (
 bnd (r 15 [x0, (aF 8)] h7) fun v8 h8 =>
 bnd (aN [(aF 0)] 1 [(0, 1, x1)] h8) fun v9 h9 =>
 bnd (r 61 [x0, v8, (aF 1), v9] h9) fun v10 h10 =>
 bnd (aD 0 v10 h10) fun v11 h11 =>
 bnd (aD 1 v10 h11) fun v12 h12 =>
 some (.t [v11, v12], h12)))
noncomputable abbrev c17 : Code := cf Tryz.f17
noncomputable abbrev r17 : K := aQ CF Tryz.f17
noncomputable def D17 (r : RT) (n : Nat) (c : Code) (X : Nat → K) (k : K) : K := aM CF r 29 n c X r17 k
theorem eBh : D17 r n c17 x0 r17 = (K2 (s17 r n) 0 1) :=
 (by kernel_rfl)
theorem dSc : aG CF r n 17 args h = s17 r n (aR args 0) (aR args 1) h :=
 (by kernel_rfl : aG CF r n 17 args h = D17 r n c17 x0 r17 (aK args) h).trans ((congrFun (congrFun (eBh r n) (aK args)) h).trans (by kernel_rfl))
noncomputable def s34 (r : RT) (n : Nat) (x0 x1 x2 : DV) (h0 : Hp) : aH :=
 bnd (r 58 [x0, x1] h0) fun v1 h1 =>
 bnd (aE .eql v1 (aF 0) h1) fun v2 h2 =>
 aT v2 (
 some (.t [(aF 0), (aF 0), (.s []), (aF 24)], h2)) (
 bnd (r 86 [x2] h2) fun v3 h3 =>
 bnd (aD 0 v3 h3) fun v4 h4 =>
 bnd (aD 1 v3 h4) fun v5 h5 =>
 bnd (aD 2 v3 h5) fun v6 h6 =>
 bnd (bD cV h6) fun v7 h7 =>
 bnd (aC 6 v7 v4 h7) fun _ h8 =>
 bnd (aE .neq v6 (aF 0) h8) fun v9 h9 =>
 aT v9 (
 some (.t [(aF 0), v5, (.s []), v6], h9)) (
 bnd (aI 6 v7 (resv 1 h9)) fun v10 h10 =>
 bnd (r 55 [x0, v1] h10) fun v11 h11 =>
 cnd (aZ (aI 6 v7 h11) v10 && true) (
 bnd (r 87 [v10, v11] h11) fun v12 h12 =>
 bnd (aD 0 v12 h12) fun v13 h13 =>
 bnd (aD 1 v12 h13) fun v14 h14 =>
 bnd (aD 2 v12 h14) fun v15 h15 =>
 bnd (iZ (bB 0 h9.next) [(.s []), (aF 0), (aF 0), (aF 0), .l0, .l0] h15) fun v16 h16 =>
 bnd (aC 6 v16 v13 h16) fun v17 h17 =>
 bnd (aE .neq v15 (aF 0) h17) fun v18 h18 =>
 aT v18 (
 some (.t [(aF 0), (aF 0), v14, v15], h18)) (
 bnd (aI 6 v16 h18) fun v19 h19 =>
 bnd (r 88 [x0, v1, v19] h19) fun v20 h20 =>
 bnd (aD 0 v20 h20) fun v21 h21 =>
 bnd (aD 1 v20 h21) fun v22 h22 =>
 bnd (aE .neq v22 (aF 0) h22) fun v23 h23 =>
 aT v23 (
 some (.t [(aF 0), (aF 0), (.s []), v22], h23)) (
 some (.t [v21, (aF 0), (.s []), (aF 0)], h23))))))
noncomputable abbrev c34 : Code := cf Tryz.f34
noncomputable abbrev r34 : K := aQ CF Tryz.f34
noncomputable def D34 (r : RT) (n : Nat) (c : Code) (X : Nat → K) (k : K) : K := aM CF r 56 n c X r34 k
theorem eAe : D34 r n c34 x0 r34 = (K3 (s34 r n) 0 1 2) :=
 (by kernel_rfl)
theorem dSe : aG CF r n 34 args h = s34 r n (aR args 0) (aR args 1) (aR args 2) h :=
 (by kernel_rfl : aG CF r n 34 args h = D34 r n c34 x0 r34 (aK args) h).trans ((congrFun (congrFun (eAe r n) (aK args)) h).trans (by kernel_rfl))
noncomputable def s45 (r : RT) (n : Nat) (x0 x1 : DV) (h0 : Hp) : aH :=
 bnd (bN x0 h0) fun v1 h1 =>
 bnd (bT x1 h1) fun v2 h2 =>
 bnd (aE .gtr v2 (aF 250) h2) fun v3 h3 =>
 bnd (gD v3 false (some (x1, h3)) h3) fun v4 h4 =>
 bnd (gD v3 false (some ((.f 106 [] [v1]), h4)) h4) fun v5 h5 =>
 bnd (gD v3 false (r 97 [v4, v5] h5) h5) fun v6 h6 =>
 bnd (aP v3 (.b true) v6 h6) fun v7 h7 =>
 aT v7 (
 some (.t [(aF 0), (aF 1)], h7)) (
 bnd (aA v1 h7) fun v8 h8 =>
 bnd (aA v1 h8) fun v9 h9 =>
 bnd (r 15 [v9, (aF 9)] h9) fun v10 h10 =>
 cnd (aZ (aA v1 h10) v8 && true) (
 bnd (r 61 [v8, v10, (aF 0), x1] h10) fun v11 h11 =>
 bnd (aD 0 v11 h11) fun v12 h12 =>
 bnd (aD 1 v11 h12) fun v13 h13 =>
 some (.t [v12, v13], h13)))
noncomputable abbrev c45 : Code := cf Tryz.f45
noncomputable abbrev r45 : K := aQ CF Tryz.f45
noncomputable def D45 (r : RT) (n : Nat) (c : Code) (X : Nat → K) (k : K) : K := aM CF r 21 n c X r45 k
theorem dZb : D45 r n c45 x0 r45 = (K2 (s45 r n) 0 1) :=
 (by kernel_rfl)
theorem dWo : aG CF r n 45 args h = s45 r n (aR args 0) (aR args 1) h :=
 (by kernel_rfl : aG CF r n 45 args h = D45 r n c45 x0 r45 (aK args) h).trans ((congrFun (congrFun (dZb r n) (aK args)) h).trans (by kernel_rfl))
noncomputable def s46 (r : RT) (n : Nat) (x0 : DV) (h0 : Hp) : aH :=
 bnd (mS [x0] h0) fun v1 h1 =>
 bnd (aD 0 v1 h1) fun v2 h2 =>
 bnd (aD 1 v1 h2) fun v3 h3 =>
 some (v2, h3)
noncomputable abbrev c46 : Code := cf Tryz.f46
noncomputable abbrev r46 : K := aQ CF Tryz.f46
noncomputable def D46 (r : RT) (n : Nat) (c : Code) (X : Nat → K) (k : K) : K := aM CF r 11 n c X r46 k
theorem eCn : D46 r n c46 x0 r46 = (K1 (s46 r n) 0) :=
 (by kernel_rfl)
theorem dSj : aG CF r n 46 args h = s46 r n (aR args 0) h :=
 (by kernel_rfl : aG CF r n 46 args h = D46 r n c46 x0 r46 (aK args) h).trans ((congrFun (congrFun (eCn r n) (aK args)) h).trans (by kernel_rfl))
noncomputable def s48 (r : RT) (n : Nat) (x0 x1 x2 : DV) (h0 : Hp) : aH :=
 bnd (r 15 [x0, (aF 9)] h0) fun v1 h1 =>
 bnd (aN [(aF 0), (aF 0)] 2 [(0, 1, x1), (1, 1, x2)] h1) fun v2 h2 =>
 bnd (r 61 [x0, v1, (aF 0), v2] h2) fun v3 h3 =>
 bnd (aD 0 v3 h3) fun v4 h4 =>
 bnd (aD 1 v3 h4) fun v5 h5 =>
 some (.t [v4, v5], h5)
noncomputable abbrev c48 : Code := cf Tryz.f48
noncomputable abbrev r48 : K := aQ CF Tryz.f48
noncomputable def D48 (r : RT) (n : Nat) (c : Code) (X : Nat → K) (k : K) : K := aM CF r 17 n c X r48 k
theorem eCf : D48 r n c48 x0 r48 = (K3 (s48 r n) 0 1 2) :=
 (by kernel_rfl)
theorem dXi : aG CF r n 48 args h = s48 r n (aR args 0) (aR args 1) (aR args 2) h :=
 (by kernel_rfl : aG CF r n 48 args h = D48 r n c48 x0 r48 (aK args) h).trans ((congrFun (congrFun (eCf r n) (aK args)) h).trans (by kernel_rfl))
end Go.Dd

namespace Go.Dd
open Go.Proofs
variable (r : RT) (n : Nat) (args : List DV) (h : Hp)
noncomputable def gF (r : RT) (n : Nat) (x0 x1 x8 : DV) (h0 : Hp) : aH :=
 bnd (r 61 [x0, x1, (aF 2), x8] h0) fun v1 h1 =>
 bnd (aD 0 v1 h1) fun v2 h2 =>
 bnd (aD 1 v1 h2) fun v3 h3 =>
 some (.t [v2, v3], h3)
noncomputable def bAb (r : RT) (n : Nat) (kk5 : dC) (x0 x1 x2 x8 x11 x12 : DV) (h0 : Hp) : aH :=
 bnd (aE .lss x12 x11 h0) fun v1 h1 =>
 aT v1 (
 bnd (fF x2 x12 h1) fun v2 h2 =>
 bnd (eK .i64 v2 h2) fun v3 h3 =>
 bnd (aN [(aF 0)] 1 [(0, 1, v3)] h3) fun v4 h4 =>
 bnd (aW 1 8 x8 v4 h4) fun v5 h5 =>
 bnd (aE .add x12 (aF 1) h5) fun v6 h6 =>
      kk5 x0 x1 x2 v5 x11 v6 h6) (
      gF r n x0 x1 x8 h1)
noncomputable def aNk (r : RT) (n : Nat) (m : Nat) : dC :=
 Nat.rec (motive := fun _ => dC) (fun _ _ _ _ _ _ _ => none) (fun _ ih => bAb r n ih) m
noncomputable def dDp (r : RT) (n : Nat) : dC := aNk r n n
noncomputable def cJx (r : RT) (n : Nat) (x0 x1 x2 x8 x11 x12 : DV) (h0 : Hp) : aH :=
 dDp r n x0 x1 x2 x8 x11 x12 h0
noncomputable def bUz (r : RT) (n : Nat) (x0 x1 x2 x8 : DV) (h0 : Hp) : aH :=
 bnd (fS x2 h0) fun v1 h1 =>
  cJx r n x0 x1 x2 x8 v1 (aF 0) h1
noncomputable def bXa (r : RT) (n : Nat) (x0 x1 x2 : DV) (h0 : Hp) : aH :=
 bUz r n x0 x1 x2 .l0 h0
noncomputable def s49 (r : RT) (n : Nat) (x0 x1 x2 : DV) (h0 : Hp) : aH :=
 bXa r n x0 x1 x2 h0
noncomputable abbrev c49 : Code := cf Tryz.f49
noncomputable abbrev bEl : Code := cR c49
noncomputable abbrev bBx : Code := cR bEl
noncomputable abbrev dTd : Code := cR bBx
noncomputable abbrev aRq : Code := cL bBx
noncomputable abbrev bRk : Code := cR aRq
noncomputable abbrev bFz : Code := cL bRk
noncomputable abbrev tC : Code := cL bFz
noncomputable abbrev dDn : Code := cL aRq
noncomputable abbrev dDt : Code := cL bEl
noncomputable abbrev bXg : Code := cL c49
noncomputable abbrev r49 : K := aQ CF Tryz.f49
noncomputable def D49 (r : RT) (n : Nat) (c : Code) (X : Nat → K) (k : K) : K := aM CF r 29 n c X r49 k
theorem dNb : D49 r n dTd x0 r49 = (K3 (gF r n) 0 1 8) :=
 (by kernel_rfl)
theorem cMl (kk5 : dC) (q0 : eO) : D49 r n tC (xs x0 0 (K3 q0 0 1 8)) (K6 kk5 0 1 2 8 11 12) = fun (env : aO) (h : Hp) =>
 bnd (aE .lss (env 12) (env 11) h) fun v1 h1 =>
 aT v1 (
 bnd (fF (env 2) (env 12) h1) fun v2 h2 =>
 bnd (eK .i64 v2 h2) fun v3 h3 =>
 bnd (aN [(aF 0)] 1 [(0, 1, v3)] h3) fun v4 h4 =>
 bnd (aW 1 8 (env 8) v4 h4) fun v5 h5 =>
 bnd (aE .add (env 12) (aF 1) h5) fun v6 h6 =>
      kk5 (env 0) (env 1) (env 2) v5 (env 11) v6 h6) (
      q0 (env 0) (env 1) (env 8) h1) := by kernel_rfl
theorem bSk (kk5 : dC) : (fun (env : aO) (h : Hp) =>
 bnd (aE .lss (env 12) (env 11) h) fun v1 h1 =>
 aT v1 (
 bnd (fF (env 2) (env 12) h1) fun v2 h2 =>
 bnd (eK .i64 v2 h2) fun v3 h3 =>
 bnd (aN [(aF 0)] 1 [(0, 1, v3)] h3) fun v4 h4 =>
 bnd (aW 1 8 (env 8) v4 h4) fun v5 h5 =>
 bnd (aE .add (env 12) (aF 1) h5) fun v6 h6 =>
      kk5 (env 0) (env 1) (env 2) v5 (env 11) v6 h6) (
      gF r n (env 0) (env 1) (env 8) h1)) = (K6 (bAb r n kk5) 0 1 2 8 11 12) := by kernel_rfl
theorem cVl (kk5 : dC) : D49 r n tC (xs x0 0 (K3 (gF r n) 0 1 8)) (K6 kk5 0 1 2 8 11 12) = (K6 (bAb r n kk5) 0 1 2 8 11 12) :=
 (cMl r n kk5 (gF r n)).trans (bSk r n kk5)
theorem cRv (m : Nat) : aL (fun kk => D49 r n tC (xs x0 0 (K3 (gF r n) 0 1 8)) kk) m = (K6 (aNk r n m) 0 1 2 8 11 12) := by
 induction m with
 | zero => exact (by kernel_rfl : aL (fun kk => D49 r n tC (xs x0 0 (K3 (gF r n) 0 1 8)) kk) 0 = (K6 (aNk r n 0) 0 1 2 8 11 12))
 | succ m ih =>
  refine (by kernel_rfl : aL (fun kk => D49 r n tC (xs x0 0 (K3 (gF r n) 0 1 8)) kk) (m + 1) = D49 r n tC (xs x0 0 (K3 (gF r n) 0 1 8)) (aL (fun kk => D49 r n tC (xs x0 0 (K3 (gF r n) 0 1 8)) kk) m)).trans ?_
  rw [ih]
  exact (cVl r n (aNk r n m)).trans (by kernel_rfl)
theorem dEl : D49 r n bFz (xs x0 0 (K3 (gF r n) 0 1 8)) (K3 (gF r n) 0 1 8) = (K6 (dDp r n) 0 1 2 8 11 12) :=
 (by kernel_rfl : D49 r n bFz (xs x0 0 (K3 (gF r n) 0 1 8)) (K3 (gF r n) 0 1 8) = aL (fun kk => D49 r n tC (xs x0 0 (K3 (gF r n) 0 1 8)) kk) n).trans ((cRv r n n).trans (by kernel_rfl))
theorem dGz : D49 r n bRk x0 (K3 (gF r n) 0 1 8) = (K6 (cJx r n) 0 1 2 8 11 12) :=
 (by kernel_rfl : D49 r n bRk x0 (K3 (gF r n) 0 1 8) = D49 r n bFz (xs x0 0 (K3 (gF r n) 0 1 8)) (K3 (gF r n) 0 1 8)).trans
 ((dEl r n).trans (by kernel_rfl))
theorem cNu : D49 r n bBx x0 r49 = D49 r n aRq x0 (K3 (gF r n) 0 1 8) :=
 congrArg (fun k => D49 r n aRq x0 k) (dNb r n)
theorem dAy : D49 r n aRq x0 (K3 (gF r n) 0 1 8) = D49 r n dDn x0 (K6 (cJx r n) 0 1 2 8 11 12) :=
 congrArg (fun k => D49 r n dDn x0 k) (dGz r n)
theorem dJd : D49 r n bBx x0 r49 = (K4 (bUz r n) 0 1 2 8) :=
 (cNu r n).trans
 ((dAy r n).trans
 ((by kernel_rfl)))
theorem dBo : D49 r n bEl x0 r49 = D49 r n dDt x0 (K4 (bUz r n) 0 1 2 8) :=
 congrArg (fun k => D49 r n dDt x0 k) (dJd r n)
theorem dLd : D49 r n bEl x0 r49 = (K3 (bXa r n) 0 1 2) :=
 (dBo r n).trans
 ((by kernel_rfl))
theorem dVh : D49 r n c49 x0 r49 = D49 r n bXg x0 (K3 (bXa r n) 0 1 2) :=
 congrArg (fun k => D49 r n bXg x0 k) (dLd r n)
theorem eAi : D49 r n c49 x0 r49 = (K3 (s49 r n) 0 1 2) :=
 (dVh r n).trans
 ((by kernel_rfl))
theorem dRv : aG CF r n 49 args h = s49 r n (aR args 0) (aR args 1) (aR args 2) h :=
 (by kernel_rfl : aG CF r n 49 args h = D49 r n c49 x0 r49 (aK args) h).trans ((congrFun (congrFun (eAi r n) (aK args)) h).trans (by kernel_rfl))
noncomputable def s53 (r : RT) (n : Nat) (x0 x1 x2 : DV) (h0 : Hp) : aH :=
 bnd (aU x0 h0) fun v1 h1 =>
 bnd (aB 0 v1 h1) fun v2 h2 =>
 bnd (aA v2 h2) fun v3 h3 =>
 bnd (dQl [v3, x1, x2] h3) fun v4 h4 =>
 bnd (aD 0 v4 h4) fun v5 h5 =>
 bnd (aD 1 v4 h5) fun v6 h6 =>
 some (v5, h6)
noncomputable abbrev c53 : Code := cf Tryz.f53
noncomputable abbrev r53 : K := aQ CF Tryz.f53
noncomputable def D53 (r : RT) (n : Nat) (c : Code) (X : Nat → K) (k : K) : K := aM CF r 20 n c X r53 k
theorem dZz : D53 r n c53 x0 r53 = (K3 (s53 r n) 0 1 2) :=
 (by kernel_rfl)
theorem dTy : aG CF r n 53 args h = s53 r n (aR args 0) (aR args 1) (aR args 2) h :=
 (by kernel_rfl : aG CF r n 53 args h = D53 r n c53 x0 r53 (aK args) h).trans ((congrFun (congrFun (dZz r n) (aK args)) h).trans (by kernel_rfl))
noncomputable def bX (r : RT) (n : Nat) (x5 : DV) (h0 : Hp) : aH :=
 some (x5, h0)
noncomputable def cO (r : RT) (n : Nat) (kk5 : dI) (x0 x1 x5 x6 : DV) (h0 : Hp) : aH :=
 bnd (aE .sub x6 (aF 1) h0) fun v1 h1 =>
  kk5 x0 x1 x5 v1 h1
noncomputable def dU (r : RT) (n : Nat) (kk5 : dI) (x0 x1 x5 x6 x7 : DV) (h0 : Hp) : aH :=
 bnd (aW 1 16 x7 x5 h0) fun v1 h1 =>
 bnd (r 93 [x0, x1] h1) fun v2 h2 =>
  cO r n kk5 x0 v2 v1 x6 h2
noncomputable def qM (r : RT) (n : Nat) (kk5 : dI) (kk12 : TT8) (x0 x1 x5 x6 x7 x8 x34 x35 : DV) (h0 : Hp) : aH :=
 bnd (aE .lss x35 x34 h0) fun v1 h1 =>
 aT v1 (
 bnd (r 53 [x0, x8, x35] h1) fun v2 h2 =>
 bnd (r 13 [x0, v2] h2) fun v3 h3 =>
 bnd (aD 0 v3 h3) fun v4 h4 =>
 bnd (aD 1 v3 h4) fun v5 h5 =>
 bnd (aN [(.s [])] 1 [(0, 1, v4)] h5) fun v6 h6 =>
 bnd (aW 1 16 x7 v6 h6) fun v7 h7 =>
 bnd (aE .add x35 (aF 1) h7) fun v8 h8 =>
      kk12 x0 x1 x5 x6 v7 x8 x34 v8 h8) (
      dU r n kk5 x0 x1 x5 x6 x7 h1)
noncomputable def nH (r : RT) (n : Nat) (kk5 : dI) (m : Nat) : TT8 :=
 Nat.rec (motive := fun _ => TT8) (fun _ _ _ _ _ _ _ _ _ => none) (fun _ ih => qM r n kk5 ih) m
noncomputable def aXi (r : RT) (n : Nat) (kk5 : dI) : TT8 := nH r n kk5 n
noncomputable def aJz (r : RT) (n : Nat) (kk5 : dI) (x0 x1 x5 x6 x7 x8 x34 x35 : DV) (h0 : Hp) : aH :=
 aXi r n kk5 x0 x1 x5 x6 x7 x8 x34 x35 h0
noncomputable def bGf (r : RT) (n : Nat) (kk5 : dI) (x0 x1 x5 x6 x7 x8 : DV) (h0 : Hp) : aH :=
 bnd (aU x0 h0) fun v1 h1 =>
 bnd (aB 0 v1 h1) fun v2 h2 =>
 bnd (aA v2 h2) fun v3 h3 =>
 bnd (qI [v3, x8] h3) fun v4 h4 =>
  aJz r n kk5 x0 x1 x5 x6 x7 x8 v4 (aF 0) h4
noncomputable def bGy (r : RT) (n : Nat) (kk5 : dI) (x0 x1 x5 x6 x7 : DV) (h0 : Hp) : aH :=
 bnd (r 53 [x0, x1, (aF 3)] h0) fun v1 h1 =>
  bGf r n kk5 x0 x1 x5 x6 x7 v1 h1
noncomputable def bEv (r : RT) (n : Nat) (kk5 : dI) (x0 x1 x5 x6 : DV) (h0 : Hp) : aH :=
 bGy r n kk5 x0 x1 x5 x6 .l0 h0
noncomputable def aFv (r : RT) (n : Nat) (kk5 : dI) (x0 x1 x5 x6 : DV) (h0 : Hp) : aH :=
 bnd (aE .gtr x6 (aF 0) h0) fun v1 h1 =>
 bnd (gD v1 true (some (x0, h1)) h1) fun v2 h2 =>
 bnd (gD v1 true (some (x1, h2)) h2) fun v3 h3 =>
 bnd (gD v1 true (r 109 [v2, v3] h3) h3) fun v4 h4 =>
 bnd (aP v1 v4 (.b false) h4) fun v5 h5 =>
 aT v5 (
   bEv r n kk5 x0 x1 x5 x6 h5) (
   bX r n x5 h5)
noncomputable def qV (r : RT) (n : Nat) (m : Nat) : dI :=
 Nat.rec (motive := fun _ => dI) (fun _ _ _ _ _ => none) (fun _ ih => aFv r n ih) m
noncomputable def cHf (r : RT) (n : Nat) : dI := qV r n n
noncomputable def bDp (r : RT) (n : Nat) (x0 x1 x5 x6 : DV) (h0 : Hp) : aH :=
 cHf r n x0 x1 x5 x6 h0
noncomputable def bDg (r : RT) (n : Nat) (x0 x1 x5 : DV) (h0 : Hp) : aH :=
 bnd (aU x0 h0) fun v1 h1 =>
 bnd (aB 0 v1 h1) fun v2 h2 =>
 bnd (aA v2 h2) fun v3 h3 =>
 bnd (sI [v3] h3) fun v4 h4 =>
  bDp r n x0 x1 x5 v4 h4
noncomputable def bBy (r : RT) (n : Nat) (x0 x1 : DV) (h0 : Hp) : aH :=
 bDg r n x0 x1 .l0 h0
noncomputable def s55 (r : RT) (n : Nat) (x0 x1 : DV) (h0 : Hp) : aH :=
 bBy r n x0 x1 h0
noncomputable abbrev c55 : Code := cf Tryz.f55
noncomputable abbrev bFo : Code := cR c55
noncomputable abbrev bIq : Code := cR bFo
noncomputable abbrev dYi : Code := cR bIq
noncomputable abbrev aQv : Code := cL bIq
noncomputable abbrev cAx : Code := cR aQv
noncomputable abbrev bIt : Code := cL cAx
noncomputable abbrev nM : Code := cL bIt
noncomputable abbrev bGb : Code := cR nM
noncomputable abbrev dWe : Code := cR bGb
noncomputable abbrev aCq : Code := cL bGb
noncomputable abbrev aPb : Code := cL aCq
noncomputable abbrev aNd : Code := cR aPb
noncomputable abbrev aCu : Code := cR aNd
noncomputable abbrev dEx : Code := cR aCu
noncomputable abbrev aAq : Code := cL aCu
noncomputable abbrev bAa : Code := cR aAq
noncomputable abbrev aDj : Code := cL bAa
noncomputable abbrev mA : Code := cL aDj
noncomputable abbrev cGg : Code := cL aAq
noncomputable abbrev bRm : Code := cL aNd
noncomputable abbrev bWv : Code := cL aPb
noncomputable abbrev bUu : Code := cL nM
noncomputable abbrev bWu : Code := cL aQv
noncomputable abbrev cCr : Code := cL bFo
noncomputable abbrev cAs : Code := cL c55
noncomputable abbrev r55 : K := aQ CF Tryz.f55
noncomputable def D55 (r : RT) (n : Nat) (c : Code) (X : Nat → K) (k : K) : K := aM CF r 59 n c X r55 k
theorem dKs : D55 r n dYi x0 r55 = (K1 (bX r n) 5) :=
 (by kernel_rfl)
theorem dGm (kk5 : dI) : D55 r n dWe (xs x0 0 (K1 (bX r n) 5)) (K4 kk5 0 1 5 6) = (K4 (cO r n kk5) 0 1 5 6) :=
 (by kernel_rfl)
theorem dBg (kk5 : dI) : D55 r n dEx (xs (xs x0 0 (K1 (bX r n) 5)) 1 (K4 (cO r n kk5) 0 1 5 6)) (K4 (cO r n kk5) 0 1 5 6) = (K5 (dU r n kk5) 0 1 5 6 7) :=
 (by kernel_rfl)
theorem bRo (kk5 : dI) (kk12 : TT8) (q0 : TT1) (q1 : dI) (q2 : cD) : D55 r n mA (xs (xs (xs x0 0 (K1 q0 5)) 1 (K4 q1 0 1 5 6)) 2 (K5 q2 0 1 5 6 7)) (K8 kk12 0 1 5 6 7 8 34 35) = fun (env : aO) (h : Hp) =>
 bnd (aE .lss (env 35) (env 34) h) fun v1 h1 =>
 aT v1 (
 bnd (r 53 [(env 0), (env 8), (env 35)] h1) fun v2 h2 =>
 bnd (r 13 [(env 0), v2] h2) fun v3 h3 =>
 bnd (aD 0 v3 h3) fun v4 h4 =>
 bnd (aD 1 v3 h4) fun v5 h5 =>
 bnd (aN [(.s [])] 1 [(0, 1, v4)] h5) fun v6 h6 =>
 bnd (aW 1 16 (env 7) v6 h6) fun v7 h7 =>
 bnd (aE .add (env 35) (aF 1) h7) fun v8 h8 =>
      kk12 (env 0) (env 1) (env 5) (env 6) v7 (env 8) (env 34) v8 h8) (
      q2 (env 0) (env 1) (env 5) (env 6) (env 7) h1) := by kernel_rfl
theorem bLy (kk5 : dI) (kk12 : TT8) : (fun (env : aO) (h : Hp) =>
 bnd (aE .lss (env 35) (env 34) h) fun v1 h1 =>
 aT v1 (
 bnd (r 53 [(env 0), (env 8), (env 35)] h1) fun v2 h2 =>
 bnd (r 13 [(env 0), v2] h2) fun v3 h3 =>
 bnd (aD 0 v3 h3) fun v4 h4 =>
 bnd (aD 1 v3 h4) fun v5 h5 =>
 bnd (aN [(.s [])] 1 [(0, 1, v4)] h5) fun v6 h6 =>
 bnd (aW 1 16 (env 7) v6 h6) fun v7 h7 =>
 bnd (aE .add (env 35) (aF 1) h7) fun v8 h8 =>
      kk12 (env 0) (env 1) (env 5) (env 6) v7 (env 8) (env 34) v8 h8) (
      dU r n kk5 (env 0) (env 1) (env 5) (env 6) (env 7) h1)) = (K8 (qM r n kk5 kk12) 0 1 5 6 7 8 34 35) := by kernel_rfl
theorem bRz (kk5 : dI) (kk12 : TT8) : D55 r n mA (xs (xs (xs x0 0 (K1 (bX r n) 5)) 1 (K4 (cO r n kk5) 0 1 5 6)) 2 (K5 (dU r n kk5) 0 1 5 6 7)) (K8 kk12 0 1 5 6 7 8 34 35) = (K8 (qM r n kk5 kk12) 0 1 5 6 7 8 34 35) :=
 (bRo r n kk5 kk12 (bX r n) (cO r n kk5) (dU r n kk5)).trans (bLy r n kk5 kk12)
theorem bUq (kk5 : dI) (m : Nat) : aL (fun kk => D55 r n mA (xs (xs (xs x0 0 (K1 (bX r n) 5)) 1 (K4 (cO r n kk5) 0 1 5 6)) 2 (K5 (dU r n kk5) 0 1 5 6 7)) kk) m = (K8 (nH r n kk5 m) 0 1 5 6 7 8 34 35) := by
 induction m with
 | zero => exact (by kernel_rfl : aL (fun kk => D55 r n mA (xs (xs (xs x0 0 (K1 (bX r n) 5)) 1 (K4 (cO r n kk5) 0 1 5 6)) 2 (K5 (dU r n kk5) 0 1 5 6 7)) kk) 0 = (K8 (nH r n kk5 0) 0 1 5 6 7 8 34 35))
 | succ m ih =>
  refine (by kernel_rfl : aL (fun kk => D55 r n mA (xs (xs (xs x0 0 (K1 (bX r n) 5)) 1 (K4 (cO r n kk5) 0 1 5 6)) 2 (K5 (dU r n kk5) 0 1 5 6 7)) kk) (m + 1) = D55 r n mA (xs (xs (xs x0 0 (K1 (bX r n) 5)) 1 (K4 (cO r n kk5) 0 1 5 6)) 2 (K5 (dU r n kk5) 0 1 5 6 7)) (aL (fun kk => D55 r n mA (xs (xs (xs x0 0 (K1 (bX r n) 5)) 1 (K4 (cO r n kk5) 0 1 5 6)) 2 (K5 (dU r n kk5) 0 1 5 6 7)) kk) m)).trans ?_
  rw [ih]
  exact (bRz r n kk5 (nH r n kk5 m)).trans (by kernel_rfl)
theorem cYg (kk5 : dI) : D55 r n aDj (xs (xs (xs x0 0 (K1 (bX r n) 5)) 1 (K4 (cO r n kk5) 0 1 5 6)) 2 (K5 (dU r n kk5) 0 1 5 6 7)) (K5 (dU r n kk5) 0 1 5 6 7) = (K8 (aXi r n kk5) 0 1 5 6 7 8 34 35) :=
 (by kernel_rfl : D55 r n aDj (xs (xs (xs x0 0 (K1 (bX r n) 5)) 1 (K4 (cO r n kk5) 0 1 5 6)) 2 (K5 (dU r n kk5) 0 1 5 6 7)) (K5 (dU r n kk5) 0 1 5 6 7) = aL (fun kk => D55 r n mA (xs (xs (xs x0 0 (K1 (bX r n) 5)) 1 (K4 (cO r n kk5) 0 1 5 6)) 2 (K5 (dU r n kk5) 0 1 5 6 7)) kk) n).trans ((bUq r n kk5 n).trans (by kernel_rfl))
theorem cZq (kk5 : dI) : D55 r n bAa (xs (xs x0 0 (K1 (bX r n) 5)) 1 (K4 (cO r n kk5) 0 1 5 6)) (K5 (dU r n kk5) 0 1 5 6 7) = (K8 (aJz r n kk5) 0 1 5 6 7 8 34 35) :=
 (by kernel_rfl : D55 r n bAa (xs (xs x0 0 (K1 (bX r n) 5)) 1 (K4 (cO r n kk5) 0 1 5 6)) (K5 (dU r n kk5) 0 1 5 6 7) = D55 r n aDj (xs (xs (xs x0 0 (K1 (bX r n) 5)) 1 (K4 (cO r n kk5) 0 1 5 6)) 2 (K5 (dU r n kk5) 0 1 5 6 7)) (K5 (dU r n kk5) 0 1 5 6 7)).trans
 ((cYg r n kk5).trans (by kernel_rfl))
theorem cMj (kk5 : dI) : D55 r n aCu (xs (xs x0 0 (K1 (bX r n) 5)) 1 (K4 (cO r n kk5) 0 1 5 6)) (K4 (cO r n kk5) 0 1 5 6) = D55 r n aAq (xs (xs x0 0 (K1 (bX r n) 5)) 1 (K4 (cO r n kk5) 0 1 5 6)) (K5 (dU r n kk5) 0 1 5 6 7) :=
 congrArg (fun k => D55 r n aAq (xs (xs x0 0 (K1 (bX r n) 5)) 1 (K4 (cO r n kk5) 0 1 5 6)) k) (dBg r n kk5)
theorem cPn (kk5 : dI) : D55 r n aAq (xs (xs x0 0 (K1 (bX r n) 5)) 1 (K4 (cO r n kk5) 0 1 5 6)) (K5 (dU r n kk5) 0 1 5 6 7) = D55 r n cGg (xs (xs x0 0 (K1 (bX r n) 5)) 1 (K4 (cO r n kk5) 0 1 5 6)) (K8 (aJz r n kk5) 0 1 5 6 7 8 34 35) :=
 congrArg (fun k => D55 r n cGg (xs (xs x0 0 (K1 (bX r n) 5)) 1 (K4 (cO r n kk5) 0 1 5 6)) k) (cZq r n kk5)
theorem dEh (kk5 : dI) : D55 r n aCu (xs (xs x0 0 (K1 (bX r n) 5)) 1 (K4 (cO r n kk5) 0 1 5 6)) (K4 (cO r n kk5) 0 1 5 6) = (K6 (bGf r n kk5) 0 1 5 6 7 8) :=
 (cMj r n kk5).trans
 ((cPn r n kk5).trans
 ((by kernel_rfl)))
theorem cNx (kk5 : dI) : D55 r n aNd (xs (xs x0 0 (K1 (bX r n) 5)) 1 (K4 (cO r n kk5) 0 1 5 6)) (K4 (cO r n kk5) 0 1 5 6) = D55 r n bRm (xs (xs x0 0 (K1 (bX r n) 5)) 1 (K4 (cO r n kk5) 0 1 5 6)) (K6 (bGf r n kk5) 0 1 5 6 7 8) :=
 congrArg (fun k => D55 r n bRm (xs (xs x0 0 (K1 (bX r n) 5)) 1 (K4 (cO r n kk5) 0 1 5 6)) k) (dEh r n kk5)
theorem dGw (kk5 : dI) : D55 r n aNd (xs (xs x0 0 (K1 (bX r n) 5)) 1 (K4 (cO r n kk5) 0 1 5 6)) (K4 (cO r n kk5) 0 1 5 6) = (K5 (bGy r n kk5) 0 1 5 6 7) :=
 (cNx r n kk5).trans
 ((by kernel_rfl))
theorem dCd (kk5 : dI) : D55 r n bGb (xs x0 0 (K1 (bX r n) 5)) (K4 kk5 0 1 5 6) = D55 r n aCq (xs x0 0 (K1 (bX r n) 5)) (K4 (cO r n kk5) 0 1 5 6) :=
 congrArg (fun k => D55 r n aCq (xs x0 0 (K1 (bX r n) 5)) k) (dGm r n kk5)
theorem dCq (kk5 : dI) : D55 r n aPb (xs (xs x0 0 (K1 (bX r n) 5)) 1 (K4 (cO r n kk5) 0 1 5 6)) (K4 (cO r n kk5) 0 1 5 6) = D55 r n bWv (xs (xs x0 0 (K1 (bX r n) 5)) 1 (K4 (cO r n kk5) 0 1 5 6)) (K5 (bGy r n kk5) 0 1 5 6 7) :=
 congrArg (fun k => D55 r n bWv (xs (xs x0 0 (K1 (bX r n) 5)) 1 (K4 (cO r n kk5) 0 1 5 6)) k) (dGw r n kk5)
theorem dPx (kk5 : dI) : D55 r n bGb (xs x0 0 (K1 (bX r n) 5)) (K4 kk5 0 1 5 6) = (K4 (bEv r n kk5) 0 1 5 6) :=
 (dCd r n kk5).trans
 ((by kernel_rfl : D55 r n aCq (xs x0 0 (K1 (bX r n) 5)) (K4 (cO r n kk5) 0 1 5 6) = D55 r n aPb (xs (xs x0 0 (K1 (bX r n) 5)) 1 (K4 (cO r n kk5) 0 1 5 6)) (K4 (cO r n kk5) 0 1 5 6)).trans
 ((dCq r n kk5).trans
 ((by kernel_rfl))))
theorem cUh (kk5 : dI) : D55 r n nM (xs x0 0 (K1 (bX r n) 5)) (K4 kk5 0 1 5 6) = D55 r n bUu (xs x0 0 (K1 (bX r n) 5)) (K4 (bEv r n kk5) 0 1 5 6) :=
 congrArg (fun k => D55 r n bUu (xs x0 0 (K1 (bX r n) 5)) k) (dPx r n kk5)
theorem dBv (kk5 : dI) : D55 r n nM (xs x0 0 (K1 (bX r n) 5)) (K4 kk5 0 1 5 6) = (K4 (aFv r n kk5) 0 1 5 6) :=
 (cUh r n kk5).trans
 ((by kernel_rfl))
theorem cQy (m : Nat) : aL (fun kk => D55 r n nM (xs x0 0 (K1 (bX r n) 5)) kk) m = (K4 (qV r n m) 0 1 5 6) := by
 induction m with
 | zero => exact (by kernel_rfl : aL (fun kk => D55 r n nM (xs x0 0 (K1 (bX r n) 5)) kk) 0 = (K4 (qV r n 0) 0 1 5 6))
 | succ m ih =>
  refine (by kernel_rfl : aL (fun kk => D55 r n nM (xs x0 0 (K1 (bX r n) 5)) kk) (m + 1) = D55 r n nM (xs x0 0 (K1 (bX r n) 5)) (aL (fun kk => D55 r n nM (xs x0 0 (K1 (bX r n) 5)) kk) m)).trans ?_
  rw [ih]
  exact (dBv r n (qV r n m)).trans (by kernel_rfl)
theorem dEk : D55 r n bIt (xs x0 0 (K1 (bX r n) 5)) (K1 (bX r n) 5) = (K4 (cHf r n) 0 1 5 6) :=
 (by kernel_rfl : D55 r n bIt (xs x0 0 (K1 (bX r n) 5)) (K1 (bX r n) 5) = aL (fun kk => D55 r n nM (xs x0 0 (K1 (bX r n) 5)) kk) n).trans ((cQy r n n).trans (by kernel_rfl))
theorem dGb : D55 r n cAx x0 (K1 (bX r n) 5) = (K4 (bDp r n) 0 1 5 6) :=
 (by kernel_rfl : D55 r n cAx x0 (K1 (bX r n) 5) = D55 r n bIt (xs x0 0 (K1 (bX r n) 5)) (K1 (bX r n) 5)).trans
 ((dEk r n).trans (by kernel_rfl))
theorem cTu : D55 r n bIq x0 r55 = D55 r n aQv x0 (K1 (bX r n) 5) :=
 congrArg (fun k => D55 r n aQv x0 k) (dKs r n)
theorem cMa : D55 r n aQv x0 (K1 (bX r n) 5) = D55 r n bWu x0 (K4 (bDp r n) 0 1 5 6) :=
 congrArg (fun k => D55 r n bWu x0 k) (dGb r n)
theorem dIh : D55 r n bIq x0 r55 = (K3 (bDg r n) 0 1 5) :=
 (cTu r n).trans
 ((cMa r n).trans
 ((by kernel_rfl)))
theorem bXz : D55 r n bFo x0 r55 = D55 r n cCr x0 (K3 (bDg r n) 0 1 5) :=
 congrArg (fun k => D55 r n cCr x0 k) (dIh r n)
theorem dQf : D55 r n bFo x0 r55 = (K2 (bBy r n) 0 1) :=
 (bXz r n).trans
 ((by kernel_rfl))
theorem dHb : D55 r n c55 x0 r55 = D55 r n cAs x0 (K2 (bBy r n) 0 1) :=
 congrArg (fun k => D55 r n cAs x0 k) (dQf r n)
theorem eCd : D55 r n c55 x0 r55 = (K2 (s55 r n) 0 1) :=
 (dHb r n).trans
 ((by kernel_rfl))
theorem dDs : aG CF r n 55 args h = s55 r n (aR args 0) (aR args 1) h :=
 (by kernel_rfl : aG CF r n 55 args h = D55 r n c55 x0 r55 (aK args) h).trans ((congrFun (congrFun (eCd r n) (aK args)) h).trans (by kernel_rfl))
noncomputable def s57 (r : RT) (n : Nat) (x0 x1 : DV) (h0 : Hp) : aH :=
 bnd (r 109 [x0, x1] h0) fun v1 h1 =>
 bnd (fV .not v1 h1) fun v2 h2 =>
 aT v2 (
 some ((.s []), h2)) (
 bnd (r 53 [x0, x1, (aF 0)] h2) fun v3 h3 =>
 bnd (r 13 [x0, v3] h3) fun v4 h4 =>
 bnd (aD 0 v4 h4) fun v5 h5 =>
 bnd (aD 1 v4 h5) fun v6 h6 =>
 some (v5, h6))
noncomputable abbrev c57 : Code := cf Tryz.f57
noncomputable abbrev r57 : K := aQ CF Tryz.f57
noncomputable def D57 (r : RT) (n : Nat) (c : Code) (X : Nat → K) (k : K) : K := aM CF r 20 n c X r57 k
theorem dZq : D57 r n c57 x0 r57 = (K2 (s57 r n) 0 1) :=
 (by kernel_rfl)
theorem dVk : aG CF r n 57 args h = s57 r n (aR args 0) (aR args 1) h :=
 (by kernel_rfl : aG CF r n 57 args h = D57 r n c57 x0 r57 (aK args) h).trans ((congrFun (congrFun (dZq r n) (aK args)) h).trans (by kernel_rfl))
noncomputable def s58 (r : RT) (n : Nat) (x0 x1 : DV) (h0 : Hp) : aH :=
 bnd (aU x0 h0) fun v1 h1 =>
 bnd (aB 3 v1 h1) fun v2 h2 =>
 bnd (aA v2 h2) fun v3 h3 =>
 bnd (gL .string (aF 0) false v3 x1 h3) fun v4 h4 =>
 some (v4, h4)
noncomputable abbrev c58 : Code := cf Tryz.f58
noncomputable abbrev r58 : K := aQ CF Tryz.f58
noncomputable def D58 (r : RT) (n : Nat) (c : Code) (X : Nat → K) (k : K) : K := aM CF r 11 n c X r58 k
theorem dZk : D58 r n c58 x0 r58 = (K2 (s58 r n) 0 1) :=
 (by kernel_rfl)
theorem dQw : aG CF r n 58 args h = s58 r n (aR args 0) (aR args 1) h :=
 (by kernel_rfl : aG CF r n 58 args h = D58 r n c58 x0 r58 (aK args) h).trans ((congrFun (congrFun (dZk r n) (aK args)) h).trans (by kernel_rfl))
noncomputable def gV (r : RT) (n : Nat) (x10 : DV) (h0 : Hp) : aH :=
 some (.t [x10, (aF 0)], h0)
noncomputable def cJl (r : RT) (n : Nat) (kk6 : cD) (x0 x10 x29 x30 x31 : DV) (h0 : Hp) : aH :=
 bnd (aE .lss x31 x30 h0) fun v1 h1 =>
 aT v1 (
 bnd (aJ 1 x29 x31 h1) fun v2 h2 =>
 bnd (aA v2 h2) fun v3 h3 =>
 bnd (aU x0 h3) fun v4 h4 =>
 bnd (aB 0 v4 h4) fun v5 h5 =>
 bnd (aA v5 h5) fun v6 h6 =>
 bnd (aXh [v6, x10, x31, v3] h6) fun v7 h7 =>
 bnd (aE .add x31 (aF 1) h7) fun v8 h8 =>
      kk6 x0 x10 x29 x30 v8 h8) (
      gV r n x10 h1)
noncomputable def aHk (r : RT) (n : Nat) (m : Nat) : cD :=
 Nat.rec (motive := fun _ => cD) (fun _ _ _ _ _ _ => none) (fun _ ih => cJl r n ih) m
noncomputable def dDr (r : RT) (n : Nat) : cD := aHk r n n
noncomputable def bPi (r : RT) (n : Nat) (x0 x10 x29 x30 x31 : DV) (h0 : Hp) : aH :=
 dDr r n x0 x10 x29 x30 x31 h0
noncomputable def bTb (r : RT) (n : Nat) (x0 x3 x10 : DV) (h0 : Hp) : aH :=
 bnd (bT x3 h0) fun v1 h1 =>
  bPi r n x0 x10 x3 v1 (aF 0) h1
noncomputable def bSj (r : RT) (n : Nat) (x0 x3 x10 x11 : DV) (h0 : Hp) : aH :=
 bnd (aE .neq x11 (aF 0) h0) fun v1 h1 =>
 aT v1 (
 some (.t [(aF 0), x11], h1)) (
  bTb r n x0 x3 x10 h1)
noncomputable def bYs (r : RT) (n : Nat) (x0 x1 x2 x3 : DV) (h0 : Hp) : aH :=
 bnd (aU x0 h0) fun v1 h1 =>
 bnd (aB 0 v1 h1) fun v2 h2 =>
 bnd (aA v2 h2) fun v3 h3 =>
 bnd (bT x3 h3) fun v4 h4 =>
 bnd (bUr [v3, x1, x2, v4] h4) fun v5 h5 =>
 bnd (aD 0 v5 h5) fun v6 h6 =>
 bnd (aD 1 v5 h6) fun v7 h7 =>
  bSj r n x0 x3 v6 v7 h7
noncomputable def s61 (r : RT) (n : Nat) (x0 x1 x2 x3 : DV) (h0 : Hp) : aH :=
 bYs r n x0 x1 x2 x3 h0
noncomputable abbrev c61 : Code := cf Tryz.f61
noncomputable abbrev bCg : Code := cR c61
noncomputable abbrev bEo : Code := cR bCg
noncomputable abbrev bBz : Code := cR bEo
noncomputable abbrev dUk : Code := cR bBz
noncomputable abbrev aRl : Code := cL bBz
noncomputable abbrev cCy : Code := cR aRl
noncomputable abbrev bGc : Code := cL cCy
noncomputable abbrev xV : Code := cL bGc
noncomputable abbrev dDj : Code := cL aRl
noncomputable abbrev cKl : Code := cL bEo
noncomputable abbrev cDq : Code := cL bCg
noncomputable abbrev bVi : Code := cL c61
noncomputable abbrev r61 : K := aQ CF Tryz.f61
noncomputable def D61 (r : RT) (n : Nat) (c : Code) (X : Nat → K) (k : K) : K := aM CF r 46 n c X r61 k
theorem dHu : D61 r n dUk x0 r61 = (K1 (gV r n) 10) :=
 (by kernel_rfl)
theorem cVd (kk6 : cD) : D61 r n xV (xs x0 0 (K1 (gV r n) 10)) (K5 kk6 0 10 29 30 31) = (K5 (cJl r n kk6) 0 10 29 30 31) :=
 (by kernel_rfl)
theorem cVz (m : Nat) : aL (fun kk => D61 r n xV (xs x0 0 (K1 (gV r n) 10)) kk) m = (K5 (aHk r n m) 0 10 29 30 31) := by
 induction m with
 | zero => exact (by kernel_rfl : aL (fun kk => D61 r n xV (xs x0 0 (K1 (gV r n) 10)) kk) 0 = (K5 (aHk r n 0) 0 10 29 30 31))
 | succ m ih =>
  refine (by kernel_rfl : aL (fun kk => D61 r n xV (xs x0 0 (K1 (gV r n) 10)) kk) (m + 1) = D61 r n xV (xs x0 0 (K1 (gV r n) 10)) (aL (fun kk => D61 r n xV (xs x0 0 (K1 (gV r n) 10)) kk) m)).trans ?_
  rw [ih]
  exact (cVd r n (aHk r n m)).trans (by kernel_rfl)
theorem dLk : D61 r n bGc (xs x0 0 (K1 (gV r n) 10)) (K1 (gV r n) 10) = (K5 (dDr r n) 0 10 29 30 31) :=
 (by kernel_rfl : D61 r n bGc (xs x0 0 (K1 (gV r n) 10)) (K1 (gV r n) 10) = aL (fun kk => D61 r n xV (xs x0 0 (K1 (gV r n) 10)) kk) n).trans ((cVz r n n).trans (by kernel_rfl))
theorem dHa : D61 r n cCy x0 (K1 (gV r n) 10) = (K5 (bPi r n) 0 10 29 30 31) :=
 (by kernel_rfl : D61 r n cCy x0 (K1 (gV r n) 10) = D61 r n bGc (xs x0 0 (K1 (gV r n) 10)) (K1 (gV r n) 10)).trans
 ((dLk r n).trans (by kernel_rfl))
theorem cWa : D61 r n bBz x0 r61 = D61 r n aRl x0 (K1 (gV r n) 10) :=
 congrArg (fun k => D61 r n aRl x0 k) (dHu r n)
theorem cWb : D61 r n aRl x0 (K1 (gV r n) 10) = D61 r n dDj x0 (K5 (bPi r n) 0 10 29 30 31) :=
 congrArg (fun k => D61 r n dDj x0 k) (dHa r n)
theorem dLb : D61 r n bBz x0 r61 = (K3 (bTb r n) 0 3 10) :=
 (cWa r n).trans
 ((cWb r n).trans
 ((by kernel_rfl)))
theorem cXh : D61 r n bEo x0 r61 = D61 r n cKl x0 (K3 (bTb r n) 0 3 10) :=
 congrArg (fun k => D61 r n cKl x0 k) (dLb r n)
theorem dHm : D61 r n bEo x0 r61 = (K4 (bSj r n) 0 3 10 11) :=
 (cXh r n).trans
 ((by kernel_rfl))
theorem cYc : D61 r n bCg x0 r61 = D61 r n cDq x0 (K4 (bSj r n) 0 3 10 11) :=
 congrArg (fun k => D61 r n cDq x0 k) (dHm r n)
theorem dMt : D61 r n bCg x0 r61 = (K4 (bYs r n) 0 1 2 3) :=
 (cYc r n).trans
 ((by kernel_rfl))
theorem dUn : D61 r n c61 x0 r61 = D61 r n bVi x0 (K4 (bYs r n) 0 1 2 3) :=
 congrArg (fun k => D61 r n bVi x0 k) (dMt r n)
theorem eCh : D61 r n c61 x0 r61 = (K4 (s61 r n) 0 1 2 3) :=
 (dUn r n).trans
 ((by kernel_rfl))
theorem dVb : aG CF r n 61 args h = s61 r n (aR args 0) (aR args 1) (aR args 2) (aR args 3) h :=
 (by kernel_rfl : aG CF r n 61 args h = D61 r n c61 x0 r61 (aK args) h).trans ((congrFun (congrFun (eCh r n) (aK args)) h).trans (by kernel_rfl))
noncomputable def s65 (r : RT) (n : Nat) (x0 x1 : DV) (h0 : Hp) : aH :=
 bnd (bN x0 h0) fun v1 h1 =>
 bnd (aI 6 v1 h1) fun v2 h2 =>
 bnd (r 114 [v2, x1] h2) fun v3 h3 =>
 bnd (aD 0 v3 h3) fun v4 h4 =>
 bnd (aD 1 v3 h4) fun v5 h5 =>
 some (v5, h5)
noncomputable abbrev c65 : Code := cf Tryz.f65
noncomputable abbrev r65 : K := aQ CF Tryz.f65
noncomputable def D65 (r : RT) (n : Nat) (c : Code) (X : Nat → K) (k : K) : K := aM CF r 14 n c X r65 k
theorem eCj : D65 r n c65 x0 r65 = (K2 (s65 r n) 0 1) :=
 (by kernel_rfl)
theorem dVj : aG CF r n 65 args h = s65 r n (aR args 0) (aR args 1) h :=
 (by kernel_rfl : aG CF r n 65 args h = D65 r n c65 x0 r65 (aK args) h).trans ((congrFun (congrFun (eCj r n) (aK args)) h).trans (by kernel_rfl))
noncomputable def gG (r : RT) (n : Nat) (x0 x6 : DV) (h0 : Hp) : aH :=
 bnd (r 45 [x0, x6] h0) fun v1 h1 =>
 bnd (aD 0 v1 h1) fun v2 h2 =>
 bnd (aD 1 v1 h2) fun v3 h3 =>
 some (.t [v2, v3], h3)
noncomputable def aTi (r : RT) (n : Nat) (kk6 : cD) (x0 x6 x38 x39 x40 : DV) (h0 : Hp) : aH :=
 bnd (aE .lss x40 x39 h0) fun v1 h1 =>
 aT v1 (
 bnd (aJ 4 x38 x40 h1) fun v2 h2 =>
 bnd (aI 4 v2 h2) fun v3 h3 =>
 bnd (bD [(aF 0), (.s []), (aF 0), .l0] h3) fun v4 h4 =>
 bnd (aC 4 v4 v3 h4) fun _ h5 =>
 bnd (aI 4 v4 h5) fun v6 h6 =>
 bnd (r 66 [x0, v6] h6) fun v7 h7 =>
 bnd (aD 0 v7 h7) fun v8 h8 =>
 bnd (aD 1 v7 h8) fun v9 h9 =>
 bnd (aE .neq v9 (aF 0) h9) fun v10 h10 =>
 aT v10 (
 some (.t [(aF 0), v9], h10)) (
 bnd (aN [(aF 0)] 1 [(0, 1, v8)] h10) fun v11 h11 =>
 bnd (aW 1 8 x6 v11 h11) fun v12 h12 =>
 bnd (aE .add x40 (aF 1) h12) fun v13 h13 =>
    kk6 x0 v12 x38 x39 v13 h13)) (
      gG r n x0 x6 h1)
noncomputable def aPh (r : RT) (n : Nat) (m : Nat) : cD :=
 Nat.rec (motive := fun _ => cD) (fun _ _ _ _ _ _ => none) (fun _ ih => aTi r n ih) m
noncomputable def dDb (r : RT) (n : Nat) : cD := aPh r n n
noncomputable def cKv (r : RT) (n : Nat) (x0 x6 x38 x39 x40 : DV) (h0 : Hp) : aH :=
 dDb r n x0 x6 x38 x39 x40 h0
noncomputable def bXf (r : RT) (n : Nat) (x0 x3 x6 : DV) (h0 : Hp) : aH :=
 bnd (aB 3 x3 h0) fun v1 h1 =>
 bnd (aA v1 h1) fun v2 h2 =>
 bnd (bT v2 h2) fun v3 h3 =>
  cKv r n x0 x6 v2 v3 (aF 0) h3
noncomputable def cEq (r : RT) (n : Nat) (x0 x3 : DV) (h0 : Hp) : aH :=
 bXf r n x0 x3 .l0 h0
noncomputable def aRf (r : RT) (n : Nat) (x0 x3 : DV) (h0 : Hp) : aH :=
 bnd (aB 0 x3 h0) fun v1 h1 =>
 bnd (aA v1 h1) fun v2 h2 =>
 bnd (aE .eql v2 (aF 1) h2) fun v3 h3 =>
 aT v3 (
 bnd (aB 2 x3 h3) fun v4 h4 =>
 bnd (aA v4 h4) fun v5 h5 =>
 bnd (r 17 [x0, v5] h5) fun v6 h6 =>
 bnd (aD 0 v6 h6) fun v7 h7 =>
 bnd (aD 1 v6 h7) fun v8 h8 =>
 some (.t [v7, v8], h8)) (
 bnd (aE .eql v2 (aF 2) h3) fun v9 h9 =>
 aT v9 (
 bnd (aB 1 x3 h9) fun v10 h10 =>
 bnd (aA v10 h10) fun v11 h11 =>
 bnd (r 12 [x0, v11] h11) fun v12 h12 =>
 bnd (aD 0 v12 h12) fun v13 h13 =>
 bnd (aD 1 v12 h13) fun v14 h14 =>
 some (.t [v13, v14], h14)) (
 bnd (aE .eql v2 (aF 3) h9) fun v15 h15 =>
 aT v15 (
 bnd (aB 1 x3 h15) fun v16 h16 =>
 bnd (aA v16 h16) fun v17 h17 =>
 bnd (r 11 [x0, v17] h17) fun v18 h18 =>
 bnd (aD 0 v18 h18) fun v19 h19 =>
 bnd (aD 1 v18 h19) fun v20 h20 =>
 some (.t [v19, v20], h20)) (
    cEq r n x0 x3 h15)))
noncomputable def s66 (r : RT) (n : Nat) (x0 x1 : DV) (h0 : Hp) : aH :=
 bnd (bN x1 h0) fun v1 h1 =>
  aRf r n x0 v1 h1
noncomputable abbrev c66 : Code := cf Tryz.f66
noncomputable abbrev bFn : Code := cR c66
noncomputable abbrev bDj : Code := cR bFn
noncomputable abbrev bCv : Code := cR bDj
noncomputable abbrev dUe : Code := cR bCv
noncomputable abbrev aQr : Code := cL bCv
noncomputable abbrev bXu : Code := cR aQr
noncomputable abbrev bEg : Code := cL bXu
noncomputable abbrev sP : Code := cL bEg
noncomputable abbrev dDl : Code := cL aQr
noncomputable abbrev bRx : Code := cL bDj
noncomputable abbrev bWw : Code := cL bFn
noncomputable abbrev aXe : Code := cL c66
noncomputable abbrev r66 : K := aQ CF Tryz.f66
noncomputable def D66 (r : RT) (n : Nat) (c : Code) (X : Nat → K) (k : K) : K := aM CF r 63 n c X r66 k
theorem dMr : D66 r n dUe x0 r66 = (K2 (gG r n) 0 6) :=
 (by kernel_rfl)
theorem cZs (kk6 : cD) (q0 : eM) : D66 r n sP (xs x0 1 (K2 q0 0 6)) (K5 kk6 0 6 38 39 40) = fun (env : aO) (h : Hp) =>
 bnd (aE .lss (env 40) (env 39) h) fun v1 h1 =>
 aT v1 (
 bnd (aJ 4 (env 38) (env 40) h1) fun v2 h2 =>
 bnd (aI 4 v2 h2) fun v3 h3 =>
 bnd (bD [(aF 0), (.s []), (aF 0), .l0] h3) fun v4 h4 =>
 bnd (aC 4 v4 v3 h4) fun _ h5 =>
 bnd (aI 4 v4 h5) fun v6 h6 =>
 bnd (r 66 [(env 0), v6] h6) fun v7 h7 =>
 bnd (aD 0 v7 h7) fun v8 h8 =>
 bnd (aD 1 v7 h8) fun v9 h9 =>
 bnd (aE .neq v9 (aF 0) h9) fun v10 h10 =>
 aT v10 (
 some (.t [(aF 0), v9], h10)) (
 bnd (aN [(aF 0)] 1 [(0, 1, v8)] h10) fun v11 h11 =>
 bnd (aW 1 8 (env 6) v11 h11) fun v12 h12 =>
 bnd (aE .add (env 40) (aF 1) h12) fun v13 h13 =>
    kk6 (env 0) v12 (env 38) (env 39) v13 h13)) (
      q0 (env 0) (env 6) h1) := by kernel_rfl
theorem cKk (kk6 : cD) : (fun (env : aO) (h : Hp) =>
 bnd (aE .lss (env 40) (env 39) h) fun v1 h1 =>
 aT v1 (
 bnd (aJ 4 (env 38) (env 40) h1) fun v2 h2 =>
 bnd (aI 4 v2 h2) fun v3 h3 =>
 bnd (bD [(aF 0), (.s []), (aF 0), .l0] h3) fun v4 h4 =>
 bnd (aC 4 v4 v3 h4) fun _ h5 =>
 bnd (aI 4 v4 h5) fun v6 h6 =>
 bnd (r 66 [(env 0), v6] h6) fun v7 h7 =>
 bnd (aD 0 v7 h7) fun v8 h8 =>
 bnd (aD 1 v7 h8) fun v9 h9 =>
 bnd (aE .neq v9 (aF 0) h9) fun v10 h10 =>
 aT v10 (
 some (.t [(aF 0), v9], h10)) (
 bnd (aN [(aF 0)] 1 [(0, 1, v8)] h10) fun v11 h11 =>
 bnd (aW 1 8 (env 6) v11 h11) fun v12 h12 =>
 bnd (aE .add (env 40) (aF 1) h12) fun v13 h13 =>
    kk6 (env 0) v12 (env 38) (env 39) v13 h13)) (
      gG r n (env 0) (env 6) h1)) = (K5 (aTi r n kk6) 0 6 38 39 40) := by kernel_rfl
theorem cVg (kk6 : cD) : D66 r n sP (xs x0 1 (K2 (gG r n) 0 6)) (K5 kk6 0 6 38 39 40) = (K5 (aTi r n kk6) 0 6 38 39 40) :=
 (cZs r n kk6 (gG r n)).trans (cKk r n kk6)
theorem cOw (m : Nat) : aL (fun kk => D66 r n sP (xs x0 1 (K2 (gG r n) 0 6)) kk) m = (K5 (aPh r n m) 0 6 38 39 40) := by
 induction m with
 | zero => exact (by kernel_rfl : aL (fun kk => D66 r n sP (xs x0 1 (K2 (gG r n) 0 6)) kk) 0 = (K5 (aPh r n 0) 0 6 38 39 40))
 | succ m ih =>
  refine (by kernel_rfl : aL (fun kk => D66 r n sP (xs x0 1 (K2 (gG r n) 0 6)) kk) (m + 1) = D66 r n sP (xs x0 1 (K2 (gG r n) 0 6)) (aL (fun kk => D66 r n sP (xs x0 1 (K2 (gG r n) 0 6)) kk) m)).trans ?_
  rw [ih]
  exact (cVg r n (aPh r n m)).trans (by kernel_rfl)
theorem dFg : D66 r n bEg (xs x0 1 (K2 (gG r n) 0 6)) (K2 (gG r n) 0 6) = (K5 (dDb r n) 0 6 38 39 40) :=
 (by kernel_rfl : D66 r n bEg (xs x0 1 (K2 (gG r n) 0 6)) (K2 (gG r n) 0 6) = aL (fun kk => D66 r n sP (xs x0 1 (K2 (gG r n) 0 6)) kk) n).trans ((cOw r n n).trans (by kernel_rfl))
theorem dKe : D66 r n bXu x0 (K2 (gG r n) 0 6) = (K5 (cKv r n) 0 6 38 39 40) :=
 (by kernel_rfl : D66 r n bXu x0 (K2 (gG r n) 0 6) = D66 r n bEg (xs x0 1 (K2 (gG r n) 0 6)) (K2 (gG r n) 0 6)).trans
 ((dFg r n).trans (by kernel_rfl))
theorem cNc : D66 r n bCv x0 r66 = D66 r n aQr x0 (K2 (gG r n) 0 6) :=
 congrArg (fun k => D66 r n aQr x0 k) (dMr r n)
theorem cYb : D66 r n aQr x0 (K2 (gG r n) 0 6) = D66 r n dDl x0 (K5 (cKv r n) 0 6 38 39 40) :=
 congrArg (fun k => D66 r n dDl x0 k) (dKe r n)
theorem dKy : D66 r n bCv x0 r66 = (K3 (bXf r n) 0 3 6) :=
 (cNc r n).trans
 ((cYb r n).trans
 ((by kernel_rfl)))
theorem cWz : D66 r n bDj x0 r66 = D66 r n bRx x0 (K3 (bXf r n) 0 3 6) :=
 congrArg (fun k => D66 r n bRx x0 k) (dKy r n)
theorem dIq : D66 r n bDj x0 r66 = (K2 (cEq r n) 0 3) :=
 (cWz r n).trans
 ((by kernel_rfl))
theorem cYa : D66 r n bFn x0 r66 = D66 r n bWw x0 (K2 (cEq r n) 0 3) :=
 congrArg (fun k => D66 r n bWw x0 k) (dIq r n)
theorem dEj : D66 r n bFn x0 r66 = (K2 (aRf r n) 0 3) :=
 (cYa r n).trans
 ((by kernel_rfl))
theorem dYe : D66 r n c66 x0 r66 = D66 r n aXe x0 (K2 (aRf r n) 0 3) :=
 congrArg (fun k => D66 r n aXe x0 k) (dEj r n)
theorem dWn (q0 : eM) : D66 r n aXe x0 (K2 q0 0 3) = fun (env : aO) (h : Hp) =>
 bnd (bN (env 1) h) fun v1 h1 =>
  q0 (env 0) v1 h1 := by kernel_rfl
theorem dEr : (fun (env : aO) (h : Hp) =>
 bnd (bN (env 1) h) fun v1 h1 =>
  aRf r n (env 0) v1 h1) = (K2 (s66 r n) 0 1) := by kernel_rfl
theorem eBq : D66 r n c66 x0 r66 = (K2 (s66 r n) 0 1) :=
 (dYe r n).trans
 ((dWn r n (aRf r n)).trans (dEr r n))
theorem dXd : aG CF r n 66 args h = s66 r n (aR args 0) (aR args 1) h :=
 (by kernel_rfl : aG CF r n 66 args h = D66 r n c66 x0 r66 (aK args) h).trans ((congrFun (congrFun (eBq r n) (aK args)) h).trans (by kernel_rfl))
noncomputable def hC (r : RT) (n : Nat) (x0 x1 x2 : DV) (h0 : Hp) : aH :=
 bnd (dR .neq x0 (.s []) h0) fun v1 h1 =>
 bnd (gD v1 true (some (x0, h1)) h1) fun v2 h2 =>
 bnd (gD v1 true (fS v2 h2) h2) fun v3 h3 =>
 bnd (gD v1 true (aE .leq v3 (aF 24) h3) h3) fun v4 h4 =>
 bnd (aP v1 v4 (.b false) h4) fun v5 h5 =>
 bnd (gD v5 true (some (x0, h5)) h5) fun v6 h6 =>
 bnd (gD v5 true (fF v6 (aF 0) h6) h6) fun v7 h7 =>
 bnd (gD v5 true (some (x1, h7)) h7) fun v8 h8 =>
 bnd (gD v5 true (aE .geq v7 v8 h8) h8) fun v9 h9 =>
 bnd (aP v5 v9 (.b false) h9) fun v10 h10 =>
 bnd (gD v10 true (some (x0, h10)) h10) fun v11 h11 =>
 bnd (gD v10 true (fF v11 (aF 0) h11) h11) fun v12 h12 =>
 bnd (gD v10 true (some (x2, h12)) h12) fun v13 h13 =>
 bnd (gD v10 true (aE .leq v12 v13 h13) h13) fun v14 h14 =>
 bnd (aP v10 v14 (.b false) h14) fun v15 h15 =>
 some (v15, h15)
noncomputable def cAi (r : RT) (n : Nat) (kk4 : dI) (x0 x1 x2 x11 : DV) (h0 : Hp) : aH :=
 bnd (sY x11 h0) fun v1 h1 =>
 bnd (aD 0 v1 h1) fun v2 h2 =>
 aT v2 (
 bnd (aD 2 v1 h2) fun v3 h3 =>
 bnd (aE .geq v3 (.i .i32 (Int.ofNat 97)) h3) fun v4 h4 =>
 bnd (gD v4 true (some (v3, h4)) h4) fun v5 h5 =>
 bnd (gD v4 true (aE .leq v5 (.i .i32 (Int.ofNat 122)) h5) h5) fun v6 h6 =>
 bnd (aP v4 v6 (.b false) h6) fun v7 h7 =>
 bnd (gD v7 false (some (v3, h7)) h7) fun v8 h8 =>
 bnd (gD v7 false (aE .geq v8 (.i .i32 (Int.ofNat 65)) h8) h8) fun v9 h9 =>
 bnd (gD v7 false (some (v9, h9)) h9) fun v10 h10 =>
 bnd (gD v10 true (some (v3, h10)) h10) fun v11 h11 =>
 bnd (gD v10 true (aE .leq v11 (.i .i32 (Int.ofNat 90)) h11) h11) fun v12 h12 =>
 bnd (gD v7 false (aP v10 v12 (.b false) h12) h12) fun v13 h13 =>
 bnd (aP v7 (.b true) v13 h13) fun v14 h14 =>
 bnd (fV .not v14 h14) fun v15 h15 =>
 bnd (gD v15 true (some (v3, h15)) h15) fun v16 h16 =>
 bnd (gD v15 true (aE .lss v16 (.i .i32 (Int.ofNat 48)) h16) h16) fun v17 h17 =>
 bnd (gD v15 true (some (v17, h17)) h17) fun v18 h18 =>
 bnd (gD v18 false (some (v3, h18)) h18) fun v19 h19 =>
 bnd (gD v18 false (aE .gtr v19 (.i .i32 (Int.ofNat 57)) h19) h19) fun v20 h20 =>
 bnd (gD v15 true (aP v18 (.b true) v20 h20) h20) fun v21 h21 =>
 bnd (aP v15 v21 (.b false) h21) fun v22 h22 =>
 aT v22 (
 some ((.b false), h22)) (
        kk4 x0 x1 x2 x11 h22)) (
   hC r n x0 x1 x2 h2)
noncomputable def aNz (r : RT) (n : Nat) (m : Nat) : dI :=
 Nat.rec (motive := fun _ => dI) (fun _ _ _ _ _ => none) (fun _ ih => cAi r n ih) m
noncomputable def dDw (r : RT) (n : Nat) : dI := aNz r n n
noncomputable def bUd (r : RT) (n : Nat) (x0 x1 x2 x11 : DV) (h0 : Hp) : aH :=
 dDw r n x0 x1 x2 x11 h0
noncomputable def cKt (r : RT) (n : Nat) (x0 x1 x2 : DV) (h0 : Hp) : aH :=
 bnd (mV x0 h0) fun v1 h1 =>
  bUd r n x0 x1 x2 v1 h1
noncomputable def s76 (r : RT) (n : Nat) (x0 x1 x2 : DV) (h0 : Hp) : aH :=
 cKt r n x0 x1 x2 h0
noncomputable abbrev c76 : Code := cf Tryz.f76
noncomputable abbrev bCc : Code := cR c76
noncomputable abbrev dUo : Code := cR bCc
noncomputable abbrev aPr : Code := cL bCc
noncomputable abbrev bOy : Code := cR aPr
noncomputable abbrev bEi : Code := cL bOy
noncomputable abbrev zS : Code := cL bEi
noncomputable abbrev dDu : Code := cL aPr
noncomputable abbrev dDe : Code := cL c76
noncomputable abbrev r76 : K := aQ CF Tryz.f76
noncomputable def D76 (r : RT) (n : Nat) (c : Code) (X : Nat → K) (k : K) : K := aM CF r 58 n c X r76 k
theorem dNj : D76 r n dUo x0 r76 = (K3 (hC r n) 0 1 2) :=
 (by kernel_rfl)
theorem cNj (kk4 : dI) : D76 r n zS (xs x0 0 (K3 (hC r n) 0 1 2)) (K4 kk4 0 1 2 11) = (K4 (cAi r n kk4) 0 1 2 11) :=
 (by kernel_rfl)
theorem cRl (m : Nat) : aL (fun kk => D76 r n zS (xs x0 0 (K3 (hC r n) 0 1 2)) kk) m = (K4 (aNz r n m) 0 1 2 11) := by
 induction m with
 | zero => exact (by kernel_rfl : aL (fun kk => D76 r n zS (xs x0 0 (K3 (hC r n) 0 1 2)) kk) 0 = (K4 (aNz r n 0) 0 1 2 11))
 | succ m ih =>
  refine (by kernel_rfl : aL (fun kk => D76 r n zS (xs x0 0 (K3 (hC r n) 0 1 2)) kk) (m + 1) = D76 r n zS (xs x0 0 (K3 (hC r n) 0 1 2)) (aL (fun kk => D76 r n zS (xs x0 0 (K3 (hC r n) 0 1 2)) kk) m)).trans ?_
  rw [ih]
  exact (cNj r n (aNz r n m)).trans (by kernel_rfl)
theorem dPv : D76 r n bEi (xs x0 0 (K3 (hC r n) 0 1 2)) (K3 (hC r n) 0 1 2) = (K4 (dDw r n) 0 1 2 11) :=
 (by kernel_rfl : D76 r n bEi (xs x0 0 (K3 (hC r n) 0 1 2)) (K3 (hC r n) 0 1 2) = aL (fun kk => D76 r n zS (xs x0 0 (K3 (hC r n) 0 1 2)) kk) n).trans ((cRl r n n).trans (by kernel_rfl))
theorem dIj : D76 r n bOy x0 (K3 (hC r n) 0 1 2) = (K4 (bUd r n) 0 1 2 11) :=
 (by kernel_rfl : D76 r n bOy x0 (K3 (hC r n) 0 1 2) = D76 r n bEi (xs x0 0 (K3 (hC r n) 0 1 2)) (K3 (hC r n) 0 1 2)).trans
 ((dPv r n).trans (by kernel_rfl))
theorem cMh : D76 r n bCc x0 r76 = D76 r n aPr x0 (K3 (hC r n) 0 1 2) :=
 congrArg (fun k => D76 r n aPr x0 k) (dNj r n)
theorem dBj : D76 r n aPr x0 (K3 (hC r n) 0 1 2) = D76 r n dDu x0 (K4 (bUd r n) 0 1 2 11) :=
 congrArg (fun k => D76 r n dDu x0 k) (dIj r n)
theorem dKj : D76 r n bCc x0 r76 = (K3 (cKt r n) 0 1 2) :=
 (cMh r n).trans
 ((dBj r n).trans
 ((by kernel_rfl)))
theorem dSy : D76 r n c76 x0 r76 = D76 r n dDe x0 (K3 (cKt r n) 0 1 2) :=
 congrArg (fun k => D76 r n dDe x0 k) (dKj r n)
theorem dZp : D76 r n c76 x0 r76 = (K3 (s76 r n) 0 1 2) :=
 (dSy r n).trans
 ((by kernel_rfl))
theorem dQr : aG CF r n 76 args h = s76 r n (aR args 0) (aR args 1) (aR args 2) h :=
 (by kernel_rfl : aG CF r n 76 args h = D76 r n c76 x0 r76 (aK args) h).trans ((congrFun (congrFun (dZp r n) (aK args)) h).trans (by kernel_rfl))
noncomputable def s79 (r : RT) (n : Nat) (x0 x1 : DV) (h0 : Hp) : aH :=
 bnd (r 119 [x0, x1] h0) fun v1 h1 =>
 bnd (aE .geq v1 (aF 0) h1) fun v2 h2 =>
 some (v2, h2)
noncomputable abbrev c79 : Code := cf Tryz.f79
noncomputable abbrev r79 : K := aQ CF Tryz.f79
noncomputable def D79 (r : RT) (n : Nat) (c : Code) (X : Nat → K) (k : K) : K := aM CF r 9 n c X r79 k
theorem eAn : D79 r n c79 x0 r79 = (K2 (s79 r n) 0 1) :=
 (by kernel_rfl)
theorem dYs : aG CF r n 79 args h = s79 r n (aR args 0) (aR args 1) h :=
 (by kernel_rfl : aG CF r n 79 args h = D79 r n c79 x0 r79 (aK args) h).trans ((congrFun (congrFun (eAn r n) (aK args)) h).trans (by kernel_rfl))
end Go.Dd

