/- A part of the proof: N O CH RF1 RF2 RF3 RF4 RF5 RF6 RF7 SM SN RS RG MF Qh XL4 Q0 Q1: each text has a comment of its own. -/
import Derived.Test.YtkdndgecldkiiaaGreatPl0
import Derived.LoopN
import Derived.Scope
import Derived.OrdersIn
import Derived.LoopNIn
import Derived.LoopIn
import Derived.RangeFuncIn
import Derived.RangeFuncCalls
import Derived.RangeFuncLeaves
import Derived.Test.YtkdndgecldkiiaaGreatProg
import Derived.KernelRfl
set_option linter.unusedVariables false
set_option linter.unusedSimpArgs false
set_option linter.constructorNameAsVariable false
set_option maxRecDepth 100000
namespace Go.Dd
open Go.RowKit (Below)
section
variable {C : Cfg} {G : Gd} {rec : FuncId → List DV → Hp → aK} {ops : Array Oper} {nt : Nat} {p0 : Pos}
theorem sA {listed : Array Bool} {i : Nat} : i ∈ Region.ready .any ops listed ↔ i < ops.size ∧ listed.getD i true = false ∧ ∃ o, ops[i]? = some o ∧ ∀ e ∈ o.after, Region.binds .any e = true → listed.getD e.on false = true := by
 unfold Region.ready
 rw [List.mem_filter]
 simp only [List.mem_range, Bool.and_eq_true, Bool.not_eq_eq_eq_not, Bool.not_true]
 constructor
 ·rintro ⟨h1, h2, h3⟩
  refine ⟨h1, h2, ops[i], by simp [h1], fun e he hb => ?_⟩
  simp only [h1, getElem?_pos, Option.map_some, Option.getD_some] at h3
  have := (Array.all_eq_true_iff_forall_mem.1 h3) e he
  simpa [hb] using this
 ·rintro ⟨h1, h2, o, ho, h3⟩
  refine ⟨h1, h2, ?_⟩
  simp only [ho, Option.map_some, Option.getD_some]
  refine Array.all_eq_true_iff_forall_mem.2 fun e he => ?_
  cases hb : Region.binds .any e with
  | false => simp
  | true => simp [h3 e he hb]
noncomputable def idp (C : Cfg) (ops : Array Oper) (p0 : Pos) (p : Nat) : Pos := bD (cE C.P (ops.toList.take p)) p0
structure Tr1 (C : Cfg) (rec : FuncId → List DV → Hp → aK) (ops : Array Oper) (nt : Nat) (p0 : Pos) (E : Nat → aV) (Hh : Nat → Hp) (V : Nat → DV) : Prop where
 ok : eJ C.P ops = true
 st : ∀ p o, ops[p]? = some o → StepT C rec ops (Region.before ops) nt (idp C ops p0 p) E Hh V 0 [(none, Hh 0)] p o
theorem Tr1.same {E : Nat → aV} {Hh : Nat → Hp} {V : Nat → DV} (T : Tr1 C rec ops nt p0 E Hh V) {p : Nat} {o : Oper} (ho : ops[p]? = some o) (hc : bU C.P o.op ≠ .acts) (hm : bU C.P o.op ≠ .makes) : Hh (p + 1) = Hh p := by
 have hs := (T.st p o ho).step hm
 cases hcl : bU C.P o.op with
 | pure => exact (sH hcl _ _ _ hs).1
 | reads => exact oU hcl hs
 | makes => exact absurd hcl hm
 | acts => exact absurd hcl hc
def dIb (C : Cfg) (ops : Array Oper) (q : Nat) : Prop := q = 0 ∨ ∃ j oj, ops[j]? = some oj ∧ bU C.P oj.op = .acts ∧ q = j + 1
theorem oH {m : Array Nat} {i q : Nat} {Pv : Hp → Prop} {Hh : Nat → Hp} {tl : List (Option Nat × Hp)} : ∀ d, q ≤ d → rM m i Pv (iQ C ops Hh 0 d ++ tl) →
  (∀ j oj, ops[j]? = some oj → bU C.P oj.op = .acts → q ≤ j → j < d → ¬ gR m j i = true) → rM m i Pv (iQ C ops Hh 0 q ++ tl)
 | 0, hq, hc, _ => by have : q = 0 := by omega
                      subst this; exact hc
 | d + 1, hq, hc, hno => by
  by_cases e : q = d + 1
  ·subst e; exact hc
  ·have hq' : q ≤ d := by omega
   simp only [iQ, Nat.zero_add] at hc
   cases ha : jG C ops d with
   | false =>
    rw [ha] at hc
    simp only [Bool.false_eq_true, if_false, List.nil_append] at hc
    exact oH d hq' hc fun j oj h1 h2 h3 h4 => hno j oj h1 h2 h3 (by omega)
   | true =>
    rw [ha] at hc
    simp only [if_true, List.cons_append, List.nil_append] at hc
    obtain ⟨_, h2⟩ := hc
    have ⟨oj, hoj, hcj⟩ : ∃ oj, ops[d]? = some oj ∧ bU C.P oj.op = .acts := by
     unfold jG at ha
     split at ha
     ·rename_i o ho; exact ⟨o, ho, by simpa using ha⟩
     ·cases ha
    rcases h2 with h2 | h2
    ·exact absurd h2 (hno d oj hoj hcj hq' (by omega))
    ·exact oH d hq' h2 fun j oj h1 h2 h3 h4 => hno j oj h1 h2 h3 (by omega)
theorem Tr1.value {E : Nat → aV} {Hh : Nat → Hp} {V : Nat → DV} (T : Tr1 C rec ops nt p0 E Hh V) {listed : Array Bool} {i q : Nat} {o : Oper} (ho : ops[i]? = some o) (hc : bU C.P o.op ≠ .acts) (hm : bU C.P o.op ≠ .makes)
  (hq : dIb C ops q) (hgap : ∀ j oj, ops[j]? = some oj → bU C.P oj.op = .acts → (j < q ↔ S listed j))
  (hni : ¬ S listed i) (hdown : ∀ j x, gR (Region.before ops) j x = true → S listed x → S listed j) (hpre : ∀ j, gR (Region.before ops) j i = true → S listed j) :
  bJ C rec ops o (E i) (Hh q) = some (V i, Hh q) := by
 have hst := T.st i o ho
 cases hcl : bU C.P o.op with
 | acts => exact absurd hcl hc
 | makes => exact absurd hcl hm
 | pure => exact (sH hcl _ _ _ (hst.step hm)).2 _
 | reads =>
  rcases Nat.lt_or_ge i q with h | h
  ·rcases hq with rfl | ⟨j, oj, hj, haj, rfl⟩
   ·omega
   ·have hSj : S listed j := (hgap j oj hj haj).1 (by omega)
    have hij : i ≠ j := fun e => by subst e; exact hni hSj
    rcases (T.st j oj hj).acts haj i o (Nat.zero_le _) (by omega) ho hcl with h3 | h3
    ·exact absurd (hdown i j h3 hSj) hni
    ·exact sL hcl h3
  ·have h1 := hst.reads hcl
   rw [Nat.sub_zero] at h1
   have h2 := oH (q := q) i h h1 fun j oj hj haj hqj hji hord => by
    have := (hgap j oj hj haj).2 (hpre j hord)
    omega
   rcases hq with rfl | ⟨j, oj, hj, haj, rfl⟩
   ·exact h2.1
   ·simp only [iQ, Nat.zero_add, (bMx hj).2 haj, if_true, List.cons_append, List.nil_append] at h2
    exact h2.1
theorem dHk {listed : Array Bool} {i j : Nat} (hi : i < listed.size) : S (listed.setIfInBounds i true) j ↔ (j = i ∨ S listed j) := by
 unfold S
 by_cases e : j = i
 ·subst e; simp [hi]
 ·simp [Array.getElem?_setIfInBounds_ne (Ne.symm e), e]
theorem sB {listed : Array Bool} {i : Nat} (hi : i < listed.size) : listed.getD i true = listed.getD i false := by
 simp [hi]
theorem dQv {V : Nat → DV} {env : aV} {listed : Array Bool} {i : Nat} {o : Oper} (ho : ops[i]? = some o) (hi : i < listed.size) (hni : ¬ S listed i) (t : Nat)
  (hlast : ∀ j oj, i < j → ops[j]? = some oj → oj.dst = some t → o.dst = some t → ¬ S listed j) :
  ∀ p, i < p → TS ops V env (listed.setIfInBounds i true) p t = if o.dst = some t then V i else TS ops V env listed p t := by
 have hbefore : ∀ p, p ≤ i → TS ops V env (listed.setIfInBounds i true) p = TS ops V env listed p := by
  intro p
  induction p with
  | zero => intro _; rfl
  | succ p ih =>
   intro h
   have e : (listed.setIfInBounds i true).getD p false = listed.getD p false := by simp [Array.getElem?_setIfInBounds_ne (show i ≠ p by omega)]
   simp only [TS, ih (by omega), e]
 intro p
 induction p with
 | zero => intro h; omega
 | succ p ih =>
  intro h
  by_cases hpi : p = i
  ·subst hpi
   have e1 : (listed.setIfInBounds p true).getD p false = true := by simp [hi]
   have e2 : ¬ listed.getD p false = true := hni
   simp only [TS, ho, hbefore p (Nat.le_refl _), e1, if_true, lH]
   rw [if_neg e2]
  ·have ih' := ih (by omega)
   have e : (listed.setIfInBounds i true).getD p false = listed.getD p false := by simp [Array.getElem?_setIfInBounds_ne (Ne.symm hpi)]
   cases hop : ops[p]? with
   | none => simp only [TS, hop]; exact ih'
   | some op =>
    simp only [TS, hop, e]
    split
    ·rename_i hl
     rw [lH, lH, ih']
     by_cases hd : op.dst = some t
     ·rw [if_pos hd, if_pos hd]
      by_cases hod : o.dst = some t
      ·exact absurd hl (hlast p op (by omega) hop hd hod)
      ·rw [if_neg hod]
     ·rw [if_neg hd, if_neg hd]
    ·exact ih'
def iS (C : Cfg) (ops : Array Oper) (listed : Array Bool) (q i : Nat) : Prop := ∃ o, ops[i]? = some o ∧ bU C.P o.op = .makes ∧ S listed i ∧ q ≤ i
def GX (G : Gd) (N : Nat) (C : Cfg) (ops : Array Oper) (listed : Array Bool) (R : Nat → Nat) (q : Nat) : Gd := ⟨G.B, fun k => G.X k ∨ ∃ i, iS C ops listed q i ∧ R i = k, N, G.W, G.ok⟩
structure Made (G : Gd) (C : Cfg) (ops : Array Oper) (p0 : Pos) (Hh : Nat → Hp) (ρ : cM) (w : World) (R : Nat → Nat) (i : Nat) : Prop where
 name : ρ (idp C ops p0 i) = some ⟨R i, 0, 0, none⟩
 low : G.B ≤ R i
 ex : ¬ G.X (R i)
 row : ∃ (arr : Array Value) (t : TypeId) (cs : List DV), w.heap[R i]? = some (.cells arr t (0, 0)) ∧ VRs ρ cs arr.toList ∧ Hh (i + 1) = ⟨(Hh i).next, Tr.set (.row .ex cs) (idp C ops p0 i) (Hh i).bl⟩
theorem aPz {E : Nat → aV} {Hh : Nat → Hp} {V : Nat → DV} (T : Tr1 C rec ops nt p0 E Hh V) {listed : Array Bool} {R : Nat → Nat} {N q : Nat} {ρ : cM} {w : World}
  (hmade : ∀ i, iS C ops listed q i → Made G C ops p0 Hh ρ w R i) (hdist : ∀ i i', iS C ops listed q i → iS C ops listed q i' → R i = R i' → i = i') :
  ∀ p, q ≤ p → p ≤ ops.size → (∀ j oj, ops[j]? = some oj → q ≤ j → j < p → bU C.P oj.op ≠ .acts ∧ (bU C.P oj.op = .makes → S listed j)) →
  HR (GX G N C ops listed R q) ρ (Hh q) w → HR (GX G N C ops listed R p) ρ (Hh p) w := by
 intro p
 induction p with
 | zero => intro h1 _ _ H; have : q = 0 := by omega
           subst this; exact H
 | succ p ih =>
  intro h1 h2 hr H
  by_cases e : q = p + 1
  ·subst e; exact H
  ·have H' := ih (by omega) (by omega) (fun j oj hj hq hjp => hr j oj hj hq (by omega)) H
   obtain ⟨o, ho⟩ : ∃ o, ops[p]? = some o := ⟨ops[p], by simp [show p < ops.size by omega]⟩
   obtain ⟨ha, hm⟩ := hr p o ho (by omega) (by omega)
   have hsub : ∀ k, (GX G N C ops listed R (p + 1)).X k → (GX G N C ops listed R p).X k := by
    rintro k (hk | ⟨i, ⟨oi, h3, h4, h5, h6⟩, h7⟩)
    ·exact .inl hk
    ·exact .inr ⟨i, ⟨oi, h3, h4, h5, by omega⟩, h7⟩
   by_cases hmk : bU C.P o.op = .makes
   ·have hE : iS C ops listed q p := ⟨o, ho, hmk, hm hmk, by omega⟩
    have hM := hmade p hE
    obtain ⟨arr, t, cs, r1, r2, r3⟩ := hM.row
    rw [r3]
    refine eQi (G := GX G N C ops listed R (p + 1)) H' rfl hsub (Nat.le_refl _) rfl hM.name r1 r2 hM.low ?_ (.inr ⟨p, ⟨o, ho, hmk, hm hmk, Nat.le_refl _⟩, rfl⟩)
    rintro (hk | ⟨i, ⟨oi, h3, h4, h5, h6⟩, h7⟩)
    ·exact hM.ex hk
    ·have := hdist i p ⟨oi, h3, h4, h5, by omega⟩ hE h7
     omega
   ·rw [T.same ho ha hmk]
    exact H'.weak rfl hsub (Nat.le_refl _) rfl
def Inv (DD : List Deferred) (C : Cfg) (G : Gd) (ops : Array Oper) (nt : Nat) (p0 : Pos) (N : Nat) (E : Nat → aV) (Hh : Nat → Hp) (V : Nat → DV) (ρ : cM) (w0 : World) (listed : Array Bool) (a : Act) (w : World) : Prop :=
 listed.size = ops.size ∧ (∀ j x, gR (Region.before ops) j x = true → S listed x → S listed j) ∧
 ∃ q, q ≤ ops.size ∧ dIb C ops q ∧ (∀ j oj, ops[j]? = some oj → bU C.P oj.op = .acts → (j < q ↔ S listed j)) ∧
 ∃ (ρ' : cM) (R : Nat → Nat), Ex G ρ ρ' ∧ HR (GX G N C ops listed R q) ρ' (Hh q) w ∧ EnvR ρ' (TS ops V (E 0) listed ops.size) a ∧ Kp G w0 w ∧ nt ≤ a.tmps.size ∧ a.defers = DD ∧
  (∀ i o, ops[i]? = some o → bU C.P o.op = .makes → ¬ S listed i → ρ' (idp C ops p0 i) = none) ∧
  (∀ i, iS C ops listed q i → Made G C ops p0 Hh ρ' w R i) ∧ (∀ i i', iS C ops listed q i → iS C ops listed q i' → R i = R i' → i = i')
theorem cJu {i : Nat} {o : Oper} (ho : ops[i]? = some o) (hm : bU C.P o.op = .makes) : (idp C ops p0 i).toNat < p0.toNat + cE C.P ops.toList := by
 unfold idp
 rw [dK]
 have hlt : i < ops.toList.length := by
  rcases Nat.lt_or_ge i ops.toList.length with h | h
  ·exact h
  ·simp at h; simp [Array.getElem?_eq_none h] at ho
 have key : ∀ (l : List Oper) (i : Nat), l[i]? = some o → cE C.P (l.take i) < cE C.P l := by
  intro l
  induction l with
  | nil => intro i h; simp at h
  | cons x l ih =>
   intro i h
   cases i with
   | zero => simp at h; subst h; simp [cE, hm]; omega
   | succ i => simp at h; have := ih i h; simp only [List.take_succ_cons, cE]; omega
 have := key ops.toList i (by simpa using ho)
 omega
theorem dHy {i i' : Nat} {o o' : Oper} (ho : ops[i]? = some o) (hm : bU C.P o.op = .makes) (ho' : ops[i']? = some o') (hm' : bU C.P o'.op = .makes) (hne : i ≠ i') : idp C ops p0 i ≠ idp C ops p0 i' := by
 have key : ∀ (l : List Oper) (i j : Nat) (o : Oper), l[i]? = some o → bU C.P o.op = .makes → i < j → cE C.P (l.take i) < cE C.P (l.take j) := by
  intro l
  induction l with
  | nil => intro i j o h; simp at h
  | cons x l ih =>
   intro i j o h hm hij
   cases j with
   | zero => omega
   | succ j =>
    cases i with
    | zero => simp at h; subst h; simp only [List.take_succ_cons, cE, hm, List.take_zero]; omega
    | succ i => simp at h; have := ih i j o h hm (by omega); simp only [List.take_succ_cons, cE]; omega
 intro e
 have e' := congrArg Pos.toNat e
 unfold idp at e'
 rw [dK, dK] at e'
 rcases Nat.lt_or_ge i i' with h | h
 ·have := key ops.toList i i' o (by simpa using ho) hm h; omega
 ·have := key ops.toList i' i o' (by simpa using ho') hm' (by omega); omega
theorem bTe {DD : List Deferred} (K : OkC C rec) {N : Nat} {E : Nat → aV} {Hh : Nat → Hp} {V : Nat → DV} (T : Tr1 C rec ops nt p0 E Hh V) (hN : N = p0.toNat + cE C.P ops.toList) (hGN : G.N ≤ p0.toNat) {ρ : cM} {w0 : World} {Q : Exit → Act → World → Prop}
  (hQ : ∀ ρ' a' w', Ex G ρ ρ' → HR G ρ' (Hh ops.size) w' → EnvR ρ' (E ops.size) a' → Kp G w0 w' → nt ≤ a'.tmps.size → a'.defers = DD → Q .normal a' w') :
  ∀ (fuel : Nat) (listed : Array Bool) (a : Act) (w : World), Inv DD C G ops nt p0 N E Hh V ρ w0 listed a w → ((List.range ops.size).filter fun i => !listed.getD i false).length ≤ fuel → wpAny C.P .any ops Q fuel listed a w := by
 have hlt : ∀ p, p < ops.size → ∃ o, ops[p]? = some o := fun p hp => ⟨ops[p], by simp [hp]⟩
 have hin : ∀ (j : Nat) oj, ops[j]? = some oj → j < ops.size := fun j oj hj => by
  rcases Nat.lt_or_ge j ops.size with h | h
  ·exact h
  ·simp [Array.getElem?_eq_none h] at hj
 have hend : ∀ listed a w, Inv DD C G ops nt p0 N E Hh V ρ w0 listed a w → (∀ i, i < ops.size → S listed i) → Q .normal a w := by
  rintro listed a w ⟨hsz, hdown, q, hq, hcand, hgap, ρ', R, h1, h2, h3, h4, h5, h6, h7, h8, h9⟩ hall
  have hH := aPz (G := G) T h8 h9 ops.size hq (Nat.le_refl _) (fun j oj hj hqj hjn => ⟨fun ha => by
   have := (hgap j oj hj ha).2 (hall j hjn)
   omega, fun _ => hall j hjn⟩) h2
  have hE : ∀ t, TS ops V (E 0) listed ops.size t = E ops.size t := fun t =>
   cCb (E := E) rfl (fun p o hp ho => (T.st p o ho).env) (fun p hp => hlt p hp) (fun j o hj _ _ => hall j hj) ops.size (Nat.le_refl _)
  refine hQ ρ' a w h1 (hH.weak rfl (fun k hk => .inl hk) (by show G.N ≤ N; omega) rfl) (fun t => ?_) h4 h5 h6
  rw [← hE t]
  exact h3 t
 have hready : ∀ listed, listed.size = ops.size → Region.ready .any ops listed = [] → ∀ i, i < ops.size → S listed i := by
  intro listed hsz hr i
  induction i using Nat.strongRecOn with
  | _ i ih =>
   intro hi
   obtain ⟨o, ho⟩ := hlt i hi
   by_cases hs : S listed i
   ·exact hs
   ·exfalso
    have hmem : i ∈ Region.ready .any ops listed := by
     rw [sA]
     refine ⟨hi, ?_, o, ho, fun e he hb => ?_⟩
     ·rw [sB (by omega)]
      unfold S at hs
      simpa using hs
     ·have := (dL T.ok ho).1 e he hb
      exact ih e.on this (by omega)
    rw [hr] at hmem
    cases hmem
 intro fuel
 induction fuel with
 | zero =>
  intro listed a w hI hfuel
  have hall : ∀ i, i < ops.size → S listed i := by
   intro i hi
   by_cases hs : S listed i
   ·exact hs
   ·exfalso
    have : i ∈ (List.range ops.size).filter fun i => !listed.getD i false := by
     rw [List.mem_filter]
     refine ⟨by simpa using hi, ?_⟩
     unfold S at hs
     simpa using hs
    have := List.length_pos_of_mem this
    omega
  refine ⟨?_, hend listed a w hI hall⟩
  cases hr : Region.ready .any ops listed with
  | nil => rfl
  | cons x xs =>
   have hx : x ∈ Region.ready .any ops listed := by rw [hr]; simp
   rw [sA] at hx
   have := hall x hx.1
   rw [sB (by rw [hI.1]; exact hx.1)] at hx
   unfold S at this
   rw [this] at hx
   cases hx.2.1
 | succ fuel ih =>
  intro listed a w hI hfuel
  refine ⟨fun hr => hend listed a w hI (hready listed hI.1 hr), fun i hi => ?_⟩
  obtain ⟨hsz, hdown, q, hq, hcand, hgap, ρ', R, h1, h2, h3, h4, h5, h6, h7, h8, h9⟩ := hI
  rw [sA] at hi
  obtain ⟨hisz, hni, o, ho, hpre0⟩ := hi
  rw [sB (by omega)] at hni
  have hnS : ¬ S listed i := by unfold S; rw [hni]; simp
  have hpre : ∀ j, gR (Region.before ops) j i = true → S listed j := by
   intro j hj
   obtain ⟨e, he, hb, h | h⟩ := aRk ho hj
   ·rw [← h]; exact hpre0 e he hb
   ·exact hdown j e.on h (hpre0 e he hb)
  have hst := T.st i o ho
  have hlook : ∀ t ∈ o.looksAt ops, TS ops V (E 0) listed ops.size t = E i t := by
   intro t ht
   rw [cZt (i := i) (fun j oj hij hj hd hS => ?_) ops.size (by omega)]
   ·exact cCb (E := E) rfl (fun p op hp hop => (T.st p op hop).env) (fun p hp => hlt p (by omega)) (fun j oj hj hoj hd => by
     rcases (dL T.ok ho).2.2 j oj hj hoj with h | ⟨h, _⟩
     ·exact hpre j h
     ·exact absurd ht ((Oper.apart_spec h).1 t hd)) i (Nat.le_refl _)
   ·rcases Nat.eq_or_lt_of_le hij with e | e
    ·subst e; exact hnS hS
    ·rcases (dL T.ok hj).2.2 i o e ho with h | ⟨h, _⟩
     ·exact hnS (hdown i j h hS)
     ·exact absurd ht ((Oper.apart_spec h).2.2 t hd)
  have hmkq : ∀ j oj, ops[j]? = some oj → bU C.P oj.op = .makes → j < q → S listed j := by
   intro j oj hj hmj hjq
   rcases hcand with rfl | ⟨l, ol, hl, hal, rfl⟩
   ·omega
   ·have hSl : S listed l := (hgap l ol hl hal).1 (by omega)
    have hjl : j ≠ l := fun e => by subst e; rw [hl] at hj; cases hj; rw [hal] at hmj; cases hmj
    rcases (dL T.ok hl).2.2 j oj (by omega) hj with h | ⟨_, h⟩
    ·exact hdown j l h hSl
    ·exact absurd ⟨.inr hmj, hal⟩ h
  have hdown' : ∀ j x, gR (Region.before ops) j x = true → S (listed.setIfInBounds i true) x → S (listed.setIfInBounds i true) j := by
   intro j x hjx hx
   rw [dHk (by omega)] at hx ⊢
   rcases hx with rfl | hx
   ·exact .inr (hpre j hjx)
   ·exact .inr (hdown j x hjx hx)
  have hTS : ∀ (ρ2 : cM) (v2 : Value), Ext ρ' ρ2 → VR ρ2 (V i) v2 → EnvR ρ2 (TS ops V (E 0) (listed.setIfInBounds i true) ops.size) (a.put o.dst v2) := by
   intro ρ2 v2 e1 e2 t
   rw [dQv ho (by omega) hnS t (fun j oj hij hj hd hod hS => by
    rcases (dL T.ok hj).2.2 i o hij ho with h | ⟨h, _⟩
    ·exact hnS (hdown i j h hS)
    ·exact (Oper.apart_spec h).2.1 t hod hd) ops.size (by omega)]
   have := EnvR.put h3 e1 e2 hst.fits h5 t
   rwa [lH] at this
  have hcount : ((List.range ops.size).filter fun j => !(listed.setIfInBounds i true).getD j false).length ≤ fuel := by
   have hmem : i ∈ (List.range ops.size).filter fun i => !listed.getD i false := by
    rw [List.mem_filter]
    exact ⟨by simpa using hisz, by simp [hni]⟩
   have hle : ((List.range ops.size).filter fun j => !(listed.setIfInBounds i true).getD j false).length < ((List.range ops.size).filter fun j => !listed.getD j false).length := by
    have hsub : ((List.range ops.size).filter fun j => !(listed.setIfInBounds i true).getD j false) = ((List.range ops.size).filter fun j => !listed.getD j false).filter (fun j => j != i) := by
     rw [List.filter_filter]
     apply List.filter_congr
     intro j hj
     by_cases e : j = i
     ·subst e; simp [show j < listed.size by omega]
     ·simp [Array.getElem?_setIfInBounds_ne (Ne.symm e), e]
    rw [hsub]
    exact List.length_filter_lt_length_iff_exists.2 ⟨i, hmem, by simp⟩
   omega
  have hS' : ∀ j, S (listed.setIfInBounds i true) j ↔ (j = i ∨ S listed j) := fun j => dHk (by omega)
  by_cases hmk : bU C.P o.op = .makes
  ·
   have hqi : q ≤ i := by
    rcases Nat.lt_or_ge i q with h | h
    ·exact absurd (hmkq i o ho hmk h) hnS
    ·exact h
   have hg := (dL T.ok ho).2.1 hmk
   have hbn := h7 i o ho hmk hnS
   have hst1 := hst.made hmk
   have hext : Ext ρ' (lV ρ' (idp C ops p0 i) ⟨w.heap.size, 0, 0, none⟩) := by
    intro x L hx
    by_cases e : x = idp C ops p0 i
    ·subst e; rw [hbn] at hx; cases hx
    ·rw [aY _ _ e]; exact hx
   have hE0 : dO C o (idp C ops p0 i) (TS ops V (E 0) listed ops.size) (Hh i) = some (V i, Hh (i + 1)) := by
    rw [← hst1]
    refine aBl fun x hx => aCc fun t ht => hlook t ?_
    unfold Oper.looksAt
    refine List.mem_append_left _ (List.mem_filterMap.2 ⟨x, by simpa using hx, ?_⟩)
    rw [ht]
   obtain ⟨cs, arr, t, v', m1, m2, m3, m4⟩ := dWi (w := w) h3 hE0 hbn
   have hidlt := cJu (p0 := p0) ho hmk
   have H2 := h2.early hbn (by have := h2.nx; simp only [GX] at this; omega) arr t
   unfold wpOp
   simp only [ho]
   rw [if_pos (by simp [Region.wanted, hg])]
   refine .inl ?_
   unfold Oper.wp
   rw [m1]
   show wpAny C.P .any ops Q fuel (listed.setIfInBounds i true) (a.put o.dst v') (w.alloc (.cells arr t))
   have hEarly : ∀ j, iS C ops (listed.setIfInBounds i true) q j → j = i ∨ iS C ops listed q j := by
    rintro j ⟨oj, e1, e2, e3, e4⟩
    rcases (hS' j).1 e3 with e | e
    ·exact .inl e
    ·exact .inr ⟨oj, e1, e2, e, e4⟩
   have hRlt : ∀ j, iS C ops listed q j → R j < w.heap.size := fun j hj => h2.sz.2 _ (.inr ⟨j, hj, rfl⟩)
   have hjne : ∀ j, iS C ops listed q j → j ≠ i := by
    rintro j ⟨oj, e1, e2, e3, e4⟩ e
    subst e; exact hnS e3
   refine ih _ _ _ ⟨by simpa using hsz, hdown', q, hq, hcand, fun j oj hj haj => ?_, lV ρ' (idp C ops p0 i) ⟨w.heap.size, 0, 0, none⟩, fun j => if j = i then w.heap.size else R j, ?_, ?_, hTS _ _ hext m4, ?_, by rw [kY]; exact h5, by rw [iH]; exact h6, ?_, ?_, ?_⟩ hcount
   ·rw [hS' j, hgap j oj hj haj]
    constructor
    ·exact .inr
    ·rintro (h | h)
     ·subst h; rw [ho] at hj; cases hj; rw [hmk] at haj; cases haj
     ·exact h
   ·refine h1.trans ⟨hext, fun b L hb => ?_⟩
    by_cases e : b = idp C ops p0 i
    ·right
     rw [e]
     unfold idp
     rw [dK]
     omega
    ·rw [aY _ _ e] at hb; exact .inl hb
   ·refine H2.weak rfl ?_ (Nat.le_refl _) rfl
    rintro k (hk | ⟨j, hj, hjk⟩)
    ·exact .inl (.inl hk)
    ·rcases hEarly j hj with rfl | hj'
     ·right; simpa using hjk.symm
     ·left; right
      refine ⟨j, hj', ?_⟩
      simpa [hjne j hj'] using hjk
   ·exact h4.trans (dT (G := G) ⟨h2.sz.1, fun k hk => h2.sz.2 k (.inl hk)⟩ _)
   ·intro j oj hj hmj hSj
    have hji : j ≠ i := fun e => hSj ((hS' j).2 (.inl e))
    rw [aY _ _ (dHy hj hmj ho hmk hji)]
    exact h7 j oj hj hmj fun h => hSj ((hS' j).2 (.inr h))
   ·intro j hj
    rcases hEarly j hj with rfl | hj'
    ·refine ⟨by simp [cD], by simp; exact h2.sz.1, ?_, arr, t, cs, ?_, m2.mono hext, m3⟩
     ·simp only [if_true]
      intro hx
      have := h2.sz.2 _ (.inl hx)
      omega
     ·simp only [if_true]
      show (w.heap.push _)[w.heap.size]? = _
      simp
    ·have hM := h8 j hj'
     obtain ⟨arr', t', cs', r1, r2, r3⟩ := hM.row
     have hji := hjne j hj'
     refine ⟨?_, by simp [hji]; exact hM.low, by simp [hji]; exact hM.ex, arr', t', cs', ?_, r2.mono hext, r3⟩
     ·simp only [hji, if_false]; exact hext _ _ hM.name
     ·simp only [hji, if_false]
      rw [Below.heap_alloc _ _ _ (hRlt j hj')]
      exact r1
   ·intro j j' hj hj' he
    rcases hEarly j hj with rfl | hj1
    ·rcases hEarly j' hj' with rfl | hj1'
     ·rfl
     ·simp only [if_true, hjne j' hj1', if_false] at he
      have := hRlt j' hj1'
      omega
    ·rcases hEarly j' hj' with rfl | hj1'
     ·simp only [if_true, hjne j hj1, if_false] at he
      have := hRlt j hj1
      omega
     ·simp only [hjne j hj1, hjne j' hj1', if_false] at he
      exact h9 j j' hj1 hj1' he
  ·
   have hstep : ∃ q1 q2, q ≤ q1 ∧ q1 ≤ ops.size ∧ q2 ≤ ops.size ∧ q1 ≤ q2 ∧ dIb C ops q2 ∧ HR (GX G N C ops listed R q1) ρ' (Hh q1) w ∧
     bJ C rec ops o (TS ops V (E 0) listed ops.size) (Hh q1) = some (V i, Hh q2) ∧
     (∀ j oj, ops[j]? = some oj → bU C.P oj.op = .acts → (j < q2 ↔ S (listed.setIfInBounds i true) j)) ∧
     (∀ j, iS C ops (listed.setIfInBounds i true) q2 j → iS C ops listed q1 j) := by
    rw [show bJ C rec ops o (TS ops V (E 0) listed ops.size) = bJ C rec ops o (E i) from funext fun h => aRs hlook]
    by_cases ha : bU C.P o.op = .acts
    ·have hqi : q ≤ i := by
      rcases Nat.lt_or_ge i q with h | h
      ·exact absurd ((hgap i o ho ha).1 h) hnS
      ·exact h
     refine ⟨i, i + 1, hqi, by omega, by omega, by omega, .inr ⟨i, o, ho, ha, rfl⟩, ?_, hst.step hmk, fun j oj hj haj => ?_, ?_⟩
     ·refine aPz (G := G) T h8 h9 i hqi (by omega) (fun j oj hj hqj hji => ⟨fun haj => ?_, fun hmj => ?_⟩) h2
      ·rcases (dL T.ok ho).2.2 j oj hji hj with h | ⟨_, h⟩
       ·have := (hgap j oj hj haj).2 (hpre j h); omega
       ·exact absurd ⟨.inl haj, ha⟩ h
      ·rcases (dL T.ok ho).2.2 j oj hji hj with h | ⟨_, h⟩
       ·exact hpre j h
       ·exact absurd ⟨.inr hmj, ha⟩ h
     ·rw [hS' j]
      constructor
      ·intro hlt'
       by_cases e : j = i
       ·exact .inl e
       ·right
        rcases (dL T.ok ho).2.2 j oj (by omega) hj with h | ⟨_, h⟩
        ·exact hpre j h
        ·exact absurd ⟨.inl haj, ha⟩ h
      ·rintro (h | h)
       ·omega
       ·rcases Nat.lt_or_ge i j with hij | hij
        ·rcases (dL T.ok hj).2.2 i o hij ho with h' | ⟨_, h'⟩
         ·exact absurd (hdown i j h' h) hnS
         ·exact absurd ⟨.inl ha, haj⟩ h'
        ·omega
     ·rintro j ⟨oj, e1, e2, e3, e4⟩
      rcases (hS' j).1 e3 with e | e
      ·omega
      ·exact ⟨oj, e1, e2, e, by omega⟩
    ·refine ⟨q, q, Nat.le_refl _, hq, hq, Nat.le_refl _, hcand, h2, T.value ho ha hmk hcand hgap hnS hdown hpre, fun j oj hj haj => ?_, ?_⟩
     ·rw [hS' j, hgap j oj hj haj]
      constructor
      ·exact .inr
      ·rintro (h | h)
       ·subst h; rw [ho] at hj; cases hj; exact absurd haj ha
       ·exact h
     ·rintro j ⟨oj, e1, e2, e3, e4⟩
      rcases (hS' j).1 e3 with e | e
      ·subst e; rw [ho] at e1; cases e1; exact absurd e2 hmk
      ·exact ⟨oj, e1, e2, e, e4⟩
   obtain ⟨q1, q2, k1, k2, k2', k12, k3, k4, k5, k6, k7⟩ := hstep
   refine uF (tK K k4 h3 k5) rfl ho k4 fun ρ2 w2 v2 e1 e2 e3 e4 => ?_
   have hEq : ∀ j, iS C ops listed q1 j → iS C ops listed q j := by
    rintro j ⟨oj, f1, f2, f3, f4⟩
    exact ⟨oj, f1, f2, f3, by omega⟩
   refine ih _ _ _ ⟨by simpa using hsz, hdown', q2, k2', k3, k6, ρ2, R, ?_, ?_, hTS _ _ e1.ext e2, ?_, by rw [kY]; exact h5, by rw [iH]; exact h6, ?_, ?_, ?_⟩ hcount
   ·refine h1.trans ⟨e1.ext, fun b L hb => (e1.new b L hb).imp id fun h => ?_⟩
    simp only [GX] at h
    omega
   ·refine e3.weak rfl ?_ (Nat.le_refl _) rfl
    rintro k (hk | ⟨j, hj, hjk⟩)
    ·exact .inl hk
    ·exact .inr ⟨j, k7 j hj, hjk⟩
   ·exact h4.trans ⟨e4.low, fun k hk => e4.ex k (.inl hk)⟩
   ·intro j oj hj hmj hSj
    have hn := h7 j oj hj hmj fun h => hSj ((hS' j).2 (.inr h))
    cases hr : ρ2 (idp C ops p0 j) with
    | none => rfl
    | some L =>
     rcases e1.new _ _ hr with h | h
     ·rw [hn] at h; cases h
     ·have := cJu (p0 := p0) hj hmj
      simp only [GX] at h
      omega
   ·intro j hj
    have hj1 := k7 j hj
    have hM := h8 j (hEq j hj1)
    obtain ⟨arr', t', cs', r1, r2, r3⟩ := hM.row
    exact ⟨e1.ext _ _ hM.name, hM.low, hM.ex, arr', t', cs', by rw [e4.ex _ (.inr ⟨j, hj1, rfl⟩)]; exact r1, r2.mono e1.ext, r3⟩
   ·intro j j' hj hj' he
    exact h9 j j' (hEq j (k7 j hj)) (hEq j' (k7 j' hj')) he
theorem aQl {DD : List Deferred} (K : OkC C rec) {k : Dd.K} {r : DV × Hp} {env : aV} {h : Hp} {ρ : cM} {a : Act} {w : World} {Q : Exit → Act → World → Prop}
  (hok : eJ C.P ops = true) (hp : iE C rec nt ops k env h = some r) (H : HR G ρ h w) (he : EnvR ρ env a) (hnt : nt ≤ a.tmps.size) (hd : a.defers = DD)
  (hQ : ∀ ρ' env' h' a' w', Ex G ρ ρ' → HR G ρ' h' w' → EnvR ρ' env' a' → Kp G w w' → nt ≤ a'.tmps.size → a'.defers = DD → k env' h' = some r → Q .normal a' w') :
  wpAny C.P .any ops Q ops.size (Array.replicate ops.size false) a { w with drawn := w.drawn + 1 } := by
 obtain ⟨E, Hh, V, e1, e2, e3, e4⟩ := tB (p0 := h.next) ops.toList 0 0 false [] _ env _ r hp (by simp) (fun _ => ⟨_, _, rfl⟩)
 simp only [Nat.zero_add, Array.length_toList, Nat.sub_zero] at e3 e4
 have T : Tr1 C rec ops nt h.next E Hh V := ⟨hok, fun p o ho => by
  have := (e4 p o (Nat.zero_le _) (by
   rcases Nat.lt_or_ge p ops.size with h | h
   ·exact h
   ·simp [Array.getElem?_eq_none h] at ho) ho).1
  rw [← e2] at this
  exact this⟩
 obtain ⟨n1, n2⟩ := sD (cE C.P ops.toList) h
 have hNN : (resv (cE C.P ops.toList) h).next.toNat = h.next.toNat + cE C.P ops.toList := by rw [n1, dK]
 refine (bTe (G := G) K T rfl H.nx (ρ := ρ) (w0 := w) (fun ρ' a' w' h1 h2 h3 h4 h5 h6 => hQ ρ' _ _ a' w' h1 h2 h3 h4 h5 h6 e3) ops.size _ a _ ?_ ?_)
 ·have hno : ∀ j, ¬ S (Array.replicate ops.size false) j := by
   intro j hj
   unfold S at hj
   simp [Array.getElem?_replicate] at hj
   split at hj <;> simp at hj
  have hnoE : ∀ j, ¬ iS C ops (Array.replicate ops.size false) 0 j := by
   rintro j ⟨oj, _, _, h3, _⟩
   exact hno j h3
  refine ⟨by simp, fun j x _ hx => absurd hx (hno x), 0, Nat.zero_le _, .inl rfl, fun j oj hj ha => ⟨fun h => by omega, fun h => absurd h (hno j)⟩, ρ, fun _ => 0, Ex.refl G ρ, ?_, ?_, ?_, hnt, hd, ?_, fun j hj => absurd hj (hnoE j), fun j j' hj => absurd hj (hnoE j)⟩
  ·rw [e2]
   have := (H.reserve (cE C.P ops.toList)).congr (w' := { w with drawn := w.drawn + 1 }) rfl
   rw [hNN] at this
   refine this.weak rfl ?_ (Nat.le_refl _) rfl
   rintro k (hk | ⟨j, hj, _⟩)
   ·exact hk
   ·exact absurd hj (hnoE j)
  ·have hT : ∀ p, TS ops V (E 0) (Array.replicate ops.size false) p = E 0 := by
    intro p
    induction p with
    | zero => rfl
    | succ p ih =>
     simp only [TS, ih]
     split
     ·rename_i o ho
      rw [if_neg (show ¬ (Array.replicate ops.size false).getD p false = true from hno p)]
     ·rfl
   intro t
   rw [hT, e1]
   exact he t
  ·exact (Kp.refl G w).drew
  ·intro j oj hj hmj _
   cases hr : ρ (idp C ops h.next j) with
   | none => rfl
   | some L =>
    have h1 := H.lt _ _ hr
    unfold idp at h1
    rw [dK] at h1
    omega
 ·have := List.length_filter_le (fun i => !(Array.replicate ops.size false).getD i false) (List.range ops.size)
  simpa using this
theorem bGl {DD : List Deferred} (K : OkC C rec) (hm : C.P.follows .mixedOrders = true) {id : Nat} {k : Dd.K} {r : DV × Hp} {env : aV} {h : Hp} {ρ : cM} {a : Act} {w : World} {Q : Exit → Act → World → Prop}
  (hok : eJ C.P ops = true) (hp : iE C rec nt ops k env h = some r) (H : HR G ρ h w) (he : EnvR ρ env a) (hnt : nt ≤ a.tmps.size) (hd : a.defers = DD)
  (hQ : ∀ ρ' env' h' a' w', Ex G ρ ρ' → HR G ρ' h' w' → EnvR ρ' env' a' → Kp G w w' → nt ≤ a'.tmps.size → a'.defers = DD → k env' h' = some r → Q .normal a' w') :
  (Code.region id ops true).wp C.P Q a w :=
 wp_region_any hm (aQl K hok hp H he hnt hd hQ)
end
end Go.Dd

namespace Go.Dd
open Go.RowKit (Below)
section
variable {C : Cfg} {G : Gd} {rec : FuncId → List DV → Hp → aK} {nt n : Nat}
def St (DD : List Deferred) (G : Gd) (nt : Nat) (ρ : cM) (w0 : World) (k : K) (r : DV × Hp) (a : Act) (w : World) : Prop :=
 ∃ ρ' env h, Ex G ρ ρ' ∧ HR G ρ' h w ∧ EnvR ρ' env a ∧ Kp G w0 w ∧ nt ≤ a.tmps.size ∧ a.defers = DD ∧ k env h = some r
def QQ (DD : List Deferred) (G : Gd) (nt : Nat) (ρ : cM) (w0 : World) (X : Nat → K) (kr k : K) (r : DV × Hp) : Exit → Act → World → Prop
 | .normal, a, w => St DD G nt ρ w0 k r a w
 | .exit id, a, w => St DD G nt ρ w0 (X id) r a w
 | .ret, a, w => St DD G nt ρ w0 kr r a w
 | _, _, _ => False
theorem cPa {DD : List Deferred} (K : OkC C rec) (hm : C.P.follows .mixedOrders = true) {ρ : cM} {w0 : World} {r : DV × Hp} : ∀ (c : Code) (X : Nat → Dd.K) (kr k : Dd.K) (a : Act) (w : World),
  St DD G nt ρ w0 (aM C rec nt n c X kr k) r a w → c.wp C.P (QQ DD G nt ρ w0 X kr k r) a w := by
 intro c
 induction c with
 | skip => intro X kr k a w h; exact wp_skip h
 | region id ops dr =>
  intro X kr k a w h
  obtain ⟨ρ', env, hp, h1, h2, h3, h4, h5, h6, h7⟩ := h
  change (Bool.rec (motive := fun _ => Dd.K) (gV C rec nt ops ops.toList k) (Bool.rec (motive := fun _ => Dd.K) cJ (iE C rec nt ops k) (eJ C.P ops)) dr) env hp = some r at h7
  cases dr with
  | true =>
   dsimp only at h7
   cases hok : eJ C.P ops with
   | false => rw [hok] at h7; cases h7
   | true =>
    rw [hok] at h7
    exact bGl K hm hok h7 h2 h3 h5 h6 fun ρ2 env2 h2' a2 w2 e1 e2 e3 e4 e5 e6 e7 => ⟨ρ2, env2, h2', h1.trans e1, e2, e3, h4.trans e4, e5, e6, e7⟩
  | false =>
   simp only [cond_false] at h7
   obtain ⟨env', h', hr, hk⟩ := mW ops.toList k env hp r h7
   refine wp_region ?_
   have := aMk (Q := QQ DD G nt ρ w0 X kr k r) K ops.toList 0 ρ' env hp a w (by simp) hr h2 h3 h5 h6 fun ρ2 a2 w2 e1 e2 e3 e4 e5 e6 => ⟨ρ2, env', h', h1.trans e1, e2, e3, h4.trans e4, e5, e6, hk⟩
   rw [List.range_eq_range']
   simpa using this
 | seq x y ihx ihy =>
  intro X kr k a w h
  refine wp_seq (wp_mono (ihx X kr (aM C rec nt n y X kr k) a w h) fun e a' w' hq => ?_)
  cases e with
  | normal => exact ihy X kr k a' w' hq
  | exit id => exact hq
  | ret => exact hq
  | goto l => exact hq
  | panic ch => exact hq
  | outgrown => exact hq
 | cond c x y ihx ihy =>
  intro X kr k a w h
  obtain ⟨ρ', env, hp, h1, h2, h3, h4, h5, h6, h7⟩ := h
  change aU (opr env c) (aM C rec nt n x X kr k env hp) (aM C rec nt n y X kr k env hp) = some r at h7
  have hc := bF h3 c
  unfold aU at h7
  split at h7 <;> (try (cases h7; done))
  ·rename_i hcb
   rw [hcb] at hc
   generalize hcv : a.eval c = cv at hc
   cases hc
   exact wp_cond_true hcv (ihx X kr k a w ⟨ρ', env, hp, h1, h2, h3, h4, h5, h6, h7⟩)
  ·rename_i hcb
   rw [hcb] at hc
   generalize hcv : a.eval c = cv at hc
   cases hc
   exact wp_cond_false hcv (ihy X kr k a w ⟨ρ', env, hp, h1, h2, h3, h4, h5, h6, h7⟩)
 | block id x ih =>
  intro X kr k a w h
  refine wp_block (wp_mono (ih (fun j => bif Nat.beq j id then k else X j) kr k a w h) fun e a' w' hq => ?_)
  cases e with
  | normal => exact hq
  | exit id' =>
   simp only [QQ] at hq
   simp only [Exit.inBlock, QQ]
   split
   ·rename_i e
    subst e
    have hb : Nat.beq id' id' = true := Nat.beq_refl id'
    rw [hb] at hq
    exact hq
   ·rename_i e
    have : Nat.beq id' id = false := by
     cases hb : Nat.beq id' id with
     | false => rfl
     | true => exact absurd (Nat.eq_of_beq_eq_true hb) e
    rw [this] at hq
    exact hq
  | ret => exact hq
  | goto l => exact hq
  | panic ch => exact hq
  | outgrown => exact hq
 | loop x ih =>
  intro X kr k a w h
  have key : ∀ (m : Nat) (a : Act) (w : World), St DD G nt ρ w0 (aL (fun kk => aM C rec nt n x X kr kk) m) r a w → Code.rounds C.P x (QQ DD G nt ρ w0 X kr k r) m a w := by
   intro m
   induction m with
   | zero =>
    rintro a w ⟨ρ', env, hp, h1, h2, h3, h4, h5, h6, h7⟩
    cases h7
   | succ m ihm =>
    intro a w hs
    rw [rounds_succ]
    refine wp_mono (ih X kr (aL (fun kk => aM C rec nt n x X kr kk) m) a w hs) fun e a' w' hq => ?_
    cases e with
    | normal => exact ihm a' w' hq
    | exit id => exact hq
    | ret => exact hq
    | goto l => exact hq
    | panic ch => exact hq
    | outgrown => exact hq
  exact wp_loop_rounds n (key n a w h)
 | rangeFunc f ps x y ihx ihy =>
  rintro X kr k a w ⟨ρ', env, hp, h1, h2, h3, h4, h5, h6, h7⟩
  cases h7
 | exit id => intro X kr k a w h; exact wp_exit h
 | scope x ih =>
  intro X kr k a w h
  refine wp_scope_straight (wp_mono (ih X kr k a w h) fun e a' w' hq => ?_)
  cases e with
  | goto l => exact hq
  | normal => exact hq
  | exit id => exact hq
  | ret => exact hq
  | panic ch => exact hq
  | outgrown => exact hq
 | label l => intro X kr k a w h; exact wp_label h
 | goto l =>
  rintro X kr k a w ⟨ρ', env, hp, h1, h2, h3, h4, h5, h6, h7⟩
  cases h7
 | ret => intro X kr k a w h; exact wp_ret h
 | refuse why =>
  rintro X kr k a w ⟨ρ', env, hp, h1, h2, h3, h4, h5, h6, h7⟩
  cases h7
def aOf (tmps : Array Value) (rv : ResultVar) : Sem Value :=
 match rv with
 | .tmp t => pure (tmps.getD t undef)
 | .cell q t => do loadVar t (← asAddr (tmps.getD q undef))
theorem nY (fn : Func) (tmps : Array Value) : results fn tmps = (do
  let vs ← fn.results.mapM (aOf tmps)
  pure (if h : vs.size = 1 then vs[0] else .tuple vs)) := by
 unfold results
 congr 2
theorem cBs {ρ : cM} {w : World} {h : Hp} {x : DV} {x' : Value} {t : TypeId} {k : DV → aK} {r : DV × Hp} (H : HR G ρ h w) (hx : VR ρ x x') (hr : aBx C t x h k = some r) :
  ∃ v v', (do loadVar t (← asAddr x') : Sem Value).run C.P w = .ok v' w ∧ VR ρ v v' ∧ k v = some r := by
 unfold aBx at hr
 split at hr <;> (try (cases hr; done))
 rename_i d i ht hi
 obtain ⟨v, h', hl, hk⟩ := dI hr
 have hconv : ∀ b o, x = .p b o → (Instr.loadAt t x') = (do loadVar t (← asAddr x')) := by
  rintro b o rfl
  cases hx
  simp [Instr.loadAt, Instr.sureAddr, asAddr]
 cases hd : jA d with
 | true =>
  rw [hd] at hl
  simp only [cond_true] at hl
  unfold aH at hl
  split at hl <;> (try (cases hl; done))
  rename_i b o
  split at hl <;> (try (cases hl; done))
  rename_i cs hc
  simp only [bG, bR] at hl
  obtain ⟨rfl, _⟩ := hl
  cases hx with
  | p _ _ L hL =>
   obtain ⟨c1, c2, _, vs, c4, c5, c6⟩ := eT H hc hL
   have hrun := cX (P := C.P) vs rfl c6
   rw [c5] at hrun
   refine ⟨_, .agg vs.toArray, ?_, .a cs vs.toArray (by simpa using c4), hk⟩
   simp only [asAddr, Sem.run_bind, Sem.run_pure, Result.andThen_ok, loadVar, rA ht, hd, if_true, rS hi, hrun]
 | false =>
  rw [hd] at hl
  simp only [cond_false] at hl
  unfold aA at hl
  split at hl <;> (try (cases hl; done))
  rename_i b o
  split at hl <;> (try (cases hl; done))
  rename_i u' hc
  simp only [bG, bR] at hl
  obtain ⟨rfl, _⟩ := hl
  cases hx with
  | p _ _ L hL =>
   unfold cellD rowOf at hc
   split at hc <;> (try (cases hc; done))
   rename_i l hl
   split at hl <;> (try (cases hl; done))
   rename_i kd l0 hb
   simp only [bG] at hl
   subst hl
   split at hc <;> (try (cases hc; done))
   rename_i u0 hu
   split at hc <;> (try (cases hc; done))
   rename_i ho
   simp only [bG] at hc
   subst hc
   obtain ⟨v', h5, h6⟩ := H.cell b kd l0 L o u0 hb hL hu ho
   refine ⟨_, v', ?_, h6, hk⟩
   simp only [asAddr, Sem.run_bind, Sem.run_pure, Result.andThen_ok, loadVar, rA ht, hd, Bool.false_eq_true, if_false, run_load, h5]
theorem aAr {ρ : cM} {w : World} {h : Hp} {env : aV} {a : Act} (H : HR G ρ h w) (he : EnvR ρ env a) {r : DV × Hp} : ∀ (l : List ResultVar) (k : List DV → aK), bEr C env h l k = some r →
  ∃ vs vs', (l.mapM (aOf a.tmps)).run C.P w = .ok vs' w ∧ VRs ρ vs vs' ∧ k vs = some r
 | [], k, hr => ⟨[], [], by simp, .nil, hr⟩
 | .tmp t :: l, k, hr => by
  obtain ⟨vs, vs', h1, h2, h3⟩ := aAr H he l (fun vs => k (env t :: vs)) hr
  refine ⟨env t :: vs, a.tmps.getD t undef :: vs', ?_, .cons _ _ _ _ (he t) h2, h3⟩
  simp only [List.mapM_cons, Sem.run_bind, aOf, Result.andThen_ok, h1, Sem.run_pure]
 | .cell q t :: l, k, hr => by
  obtain ⟨v, v', h1, h2, h3⟩ := cBs (x' := a.tmps.getD q undef) H (he q) hr
  obtain ⟨vs, vs', h4, h5, h6⟩ := aAr H he l (fun vs => k (v :: vs)) h3
  refine ⟨v :: vs, v' :: vs', ?_, .cons _ _ _ _ h2 h5, h6⟩
  simp only [List.mapM_cons, Sem.run_bind, aOf] at h1 ⊢
  simp only [h1, Result.andThen_ok, h4, Sem.run_pure]
theorem aOr {ρ : cM} {w : World} {h h1 : Hp} {env : aV} {a : Act} (H : HR G ρ h w) (he : EnvR ρ env a) {fn : Func} {v : DV} (hr : aR C fn env h = some (v, h1)) :
  h1 = h ∧ ∃ v', (results fn a.tmps).run C.P w = .ok v' w ∧ VR ρ v v' := by
 obtain ⟨us, vs', h2, h3, hk⟩ := aAr H he _ _ hr
 unfold bWo at hk
 split at hk
 ·rename_i u
  simp only [bG, bR] at hk
  obtain ⟨rfl, rfl⟩ := hk
  cases h3 with
  | cons _ v' _ l' hv hn =>
   cases hn
   refine ⟨rfl, v', ?_, hv⟩
   rw [nY, Array.mapM_eq_mapM_toList]
   simp only [Sem.run_bind, Sem.run_map, h2, Result.andThen_ok, Sem.run_pure]
   simp
 ·rename_i hne
  simp only [bG, bR] at hk
  obtain ⟨rfl, rfl⟩ := hk
  have hl := h3.length
  have hne1 : vs'.length ≠ 1 := by
   intro e
   rw [e] at hl
   match us, hl with
   | [x], _ => exact hne x rfl
  refine ⟨rfl, .tuple vs'.toArray, ?_, .t _ _ (by simpa using h3)⟩
  rw [nY, Array.mapM_eq_mapM_toList]
  simp only [Sem.run_bind, Sem.run_map, h2, Result.andThen_ok, Sem.run_pure]
  rw [dif_neg (by simpa using hne1)]
structure POk (P : Program) : Prop where
 mixed : P.follows .mixedOrders = true
 names : ∀ (f : Nat) (fn : Func), P.funcs[f]? = some fn → (fn.name == "runtime.NumGoroutine") = false
theorem qE (K : OkC C rec) (hP : POk C.P) (n : Nat) (f : FuncId) : jQ C.P G f (aE C rec n f) := by
 intro args h v h1 hr ρ w args' H hargs
 unfold aE at hr
 split at hr <;> (try (cases hr; done))
 rename_i fn hf
 split at hr <;> (try (cases hr; done))
 rename_i c hb
 refine .inl ⟨?_, ?_⟩
 ·unfold callFunc
  have hn : ¬ fn.name = "runtime.NumGoroutine" := by simpa using hP.names f fn hf
  simp [hf, hn, hb]
 ·refine calls_of_wp hf hb ?_
  have he : EnvR ρ (aJ args) { tmps := args' ++ Array.replicate (fn.ntmps - args'.size) undef, defers := [] } := by
   intro t
   unfold aJ
   have hlen := hargs.length
   simp only [Array.length_toList] at hlen
   by_cases ht : t < args.length
   ·have hg : args[t]? = some args[t] := by simp [ht]
    obtain ⟨v', h2, h3⟩ := hargs.get t _ hg
    simp only [Array.getElem?_toList] at h2
    rw [show args.getD t bB = args[t] by simp [List.getD, hg]]
    have : (args' ++ Array.replicate (fn.ntmps - args'.size) undef).getD t undef = v' := by
     simp [Array.getElem?_append_left (show t < args'.size by omega), h2]
    rw [this]
    exact h3
   ·have hg : args.getD t bB = bB := by simp [List.getD, List.getElem?_eq_none (Nat.le_of_not_lt ht)]
    rw [hg]
    have : (args' ++ Array.replicate (fn.ntmps - args'.size) undef).getD t undef = undef := by
     rw [Array.getD_eq_getD_getElem?, Array.getElem?_append_right (by omega)]
     simp only [Array.getElem?_replicate]
     split <;> rfl
    rw [this]
    exact .t [] #[] .nil
  have hst : St [] G fn.ntmps ρ w (aM C rec fn.ntmps n c (fun _ => cJ) (aR C fn) (aR C fn)) (v, h1) { tmps := args' ++ Array.replicate (fn.ntmps - args'.size) undef, defers := [] } w :=
   ⟨ρ, aJ args, h, Ex.refl G ρ, H, he, Kp.refl G w, by simp; omega, rfl, hr⟩
  refine wp_mono (cPa K hP.mixed c _ _ _ _ _ hst) fun e a' w' hq => ?_
  have hfin : St [] G fn.ntmps ρ w (aR C fn) (v, h1) a' w' → a'.defers = [] ∧ ∃ v', (results fn a'.tmps).run C.P w' = .ok v' w' ∧ kS G ρ w v h1 (.returned v') w' := by
   rintro ⟨ρ', env, h', e1, e2, e3, e4, e5, e6, e7⟩
   obtain ⟨rfl, v', r1, r2⟩ := aOr e2 e3 e7
   exact ⟨e6, v', r1, ρ', v', rfl, e1, r2, e2, e4⟩
  cases e with
  | normal => exact hfin hq
  | ret => exact hfin hq
  | exit id =>
   obtain ⟨ρ', env, h', e1, e2, e3, e4, e5, e6, e7⟩ := hq
   cases e7
  | goto l => exact hq.elim
  | panic ch => exact hq.elim
  | outgrown => exact hq.elim
theorem cHf (hP : POk C.P) (hI : ∀ G g F, C.I g = some F → jQ C.P G g F) : ∀ (n : Nat) (G : Gd) (f : FuncId), jQ C.P G f (fnD C n f)
 | 0, G, f => fun args h v h1 hr => by cases hr
 | n + 1, G, f => qE (rec := fnD C n) ⟨hI, fun G g => cHf hP hI n G g⟩ hP n f
end
end Go.Dd

namespace Go.Dd
open Go.RowKit (Below)
section
variable {C : Cfg} {G : Gd} {rec : FuncId → List DV → Hp → aK} {nt : Nat}
def nK (h : Hp) : Prop := ∀ b o, h.bl.get b = some o → b.toNat < h.next.toNat
theorem HR.isFresh {ρ : cM} {h : Hp} {w : World} (H : HR G ρ h w) : nK h := fun b o hb => by
 obtain ⟨L, hL⟩ := H.dom b o hb
 exact H.lt b L hL
def aQa (C : Cfg) (rec : FuncId → List DV → Hp → aK) (nt : Nat) (ops : Array Oper) (kS : aV → Hp → Prop) : Nat → Array Bool → aV → Hp → Prop
 | 0, listed, env, h => Region.ready .any ops listed = [] ∧ kS env h
 | f + 1, listed, env, h => (Region.ready .any ops listed = [] → kS env h) ∧
   ∀ i ∈ Region.ready .any ops listed, ∃ o v h', ops[i]? = some o ∧ cV nt o.dst = true ∧ bJ C rec ops o env h = some (v, h') ∧
    aQa C rec nt ops kS f (listed.setIfInBounds i true) (bP env o.dst v) h'
theorem cLa (K : OkC C rec) {ops : Array Oper} {kS : aV → Hp → Prop} {Q : Exit → Act → World → Prop} : ∀ (fuel : Nat) (listed : Array Bool) (ρ : cM) (env : aV) (h : Hp) (a : Act) (w : World),
  aQa C rec nt ops kS fuel listed env h → HR G ρ h w → EnvR ρ env a → nt ≤ a.tmps.size → a.defers = [] →
  (∀ ρ' env' h' a' w', kS env' h' → Ex G ρ ρ' → HR G ρ' h' w' → EnvR ρ' env' a' → Kp G w w' → nt ≤ a'.tmps.size → a'.defers = [] → Q .normal a' w') →
  wpAny C.P .any ops Q fuel listed a w
 | 0, listed, ρ, env, h, a, w, hp, H, he, hnt, hd, hQ => ⟨hp.1, hQ ρ env h a w hp.2 (Ex.refl G ρ) H he (Kp.refl G w) hnt hd⟩
 | f + 1, listed, ρ, env, h, a, w, hp, H, he, hnt, hd, hQ => by
  refine ⟨fun hr => hQ ρ env h a w (hp.1 hr) (Ex.refl G ρ) H he (Kp.refl G w) hnt hd, fun i hi => ?_⟩
  obtain ⟨o, v, h', ho, hf, hs, hn⟩ := hp.2 i hi
  refine uF (tK K H he hs) rfl ho H fun ρ' w' v' h2 h3 h4 h5 => ?_
  exact cLa K f _ ρ' _ h' _ w' hn h4 (he.put h2.ext h3 hf hnt) (by rw [kY]; exact hnt) (by rw [iH]; exact hd)
   fun ρ2 env2 hh a2 w2 e0 e1 e2 e3 e4 e5 e6 => hQ ρ2 env2 hh a2 w2 e0 (h2.trans e1) e2 e3 (h5.trans e4) e5 e6
def sK (C : Cfg) (rec : FuncId → List DV → Hp → aK) (nt : Nat) : Code → (Nat → aV → Hp → Prop) → (aV → Hp → Prop) → (aV → Hp → Prop) → aV → Hp → Prop
 | .skip, _, _, N => N
 | .region _ ops dr, _, _, N => fun env h => if dr then (aQa C rec nt ops (fun e h => nK h → N e h) ops.size (Array.replicate ops.size false) env h ∨
    (eJ C.P ops = true ∧ ∃ k r, iE C rec nt ops k env h = some r ∧ ∀ env' h', k env' h' = some r → nK h' → N env' h'))
   else ∃ env' h', xR C rec nt ops ops.toList env h env' h' ∧ (nK h' → N env' h')
 | .seq a b, X, R, N => sK C rec nt a X R (sK C rec nt b X R N)
 | .cond c a b, X, R, N => fun env h => (opr env c = .b true ∧ sK C rec nt a X R N env h) ∨ (opr env c = .b false ∧ sK C rec nt b X R N env h)
 | .block id a, X, R, N => sK C rec nt a (fun j => if j = id then N else X j) R N
 | .exit id, X, _, _ => X id
 | .scope a, X, R, N => sK C rec nt a X R N
 | .ret, _, R, _ => R
 | _, _, _, _ => fun _ _ => False
def StP (G : Gd) (nt : Nat) (ρ : cM) (w0 : World) (N : aV → Hp → Prop) (a : Act) (w : World) : Prop :=
 ∃ ρ' env h, Ex G ρ ρ' ∧ HR G ρ' h w ∧ EnvR ρ' env a ∧ Kp G w0 w ∧ nt ≤ a.tmps.size ∧ a.defers = [] ∧ N env h
def QP (G : Gd) (nt : Nat) (ρ : cM) (w0 : World) (X : Nat → aV → Hp → Prop) (R N : aV → Hp → Prop) : Exit → Act → World → Prop
 | .normal, a, w => StP G nt ρ w0 N a w
 | .exit id, a, w => StP G nt ρ w0 (X id) a w
 | .ret, a, w => StP G nt ρ w0 R a w
 | _, _, _ => False
theorem cAu (K : OkC C rec) (hm : C.P.follows .mixedOrders = true) {ρ : cM} {w0 : World} : ∀ (c : Code) (X : Nat → aV → Hp → Prop) (R N : aV → Hp → Prop) (a : Act) (w : World),
  StP G nt ρ w0 (sK C rec nt c X R N) a w → c.wp C.P (QP G nt ρ w0 X R N) a w := by
 intro c
 induction c with
 | skip => intro X R N a w h; exact wp_skip h
 | region id ops dr =>
  intro X R N a w h
  obtain ⟨ρ', env, hp, h1, h2, h3, h4, h5, h6, h7⟩ := h
  cases dr with
  | true =>
   simp only [sK, if_true] at h7
   rcases h7 with h7 | ⟨hok, k, r, h7, h8⟩
   ·refine wp_region_any hm (cLa K ops.size _ ρ' env hp a _ h7 (h2.congr rfl) h3 h5 h6 fun ρ2 env2 h2' a2 w2 e0 e1 e2 e3 e4 e5 e6 => ?_)
    exact ⟨ρ2, env2, h2', h1.trans e1, e2, e3, (h4.trans ((Kp.refl G w).drew)).trans e4, e5, e6, e0 e2.isFresh⟩
   ·exact bGl K hm hok h7 h2 h3 h5 h6 fun ρ2 env2 h2' a2 w2 e1 e2 e3 e4 e5 e6 e7 => ⟨ρ2, env2, h2', h1.trans e1, e2, e3, h4.trans e4, e5, e6, h8 _ _ e7 e2.isFresh⟩
  | false =>
   simp only [sK, Bool.false_eq_true, if_false] at h7
   obtain ⟨env', h', hr, hk⟩ := h7
   refine wp_region ?_
   have := aMk (Q := QP G nt ρ w0 X R N) K ops.toList 0 ρ' env hp a w (by simp) hr h2 h3 h5 h6 fun ρ2 a2 w2 e1 e2 e3 e4 e5 e6 => ⟨ρ2, env', h', h1.trans e1, e2, e3, h4.trans e4, e5, e6, hk e2.isFresh⟩
   rw [List.range_eq_range']
   simpa using this
 | seq x y ihx ihy =>
  intro X R N a w h
  refine wp_seq (wp_mono (ihx X R (sK C rec nt y X R N) a w h) fun e a' w' hq => ?_)
  cases e with
  | normal => exact ihy X R N a' w' hq
  | exit id => exact hq
  | ret => exact hq
  | goto l => exact hq
  | panic ch => exact hq
  | outgrown => exact hq
 | cond c x y ihx ihy =>
  intro X R N a w h
  obtain ⟨ρ', env, hp, h1, h2, h3, h4, h5, h6, h7⟩ := h
  have hc := bF h3 c
  rcases h7 with ⟨hcb, h7⟩ | ⟨hcb, h7⟩
  ·rw [hcb] at hc
   generalize hcv : a.eval c = cv at hc
   cases hc
   exact wp_cond_true hcv (ihx X R N a w ⟨ρ', env, hp, h1, h2, h3, h4, h5, h6, h7⟩)
  ·rw [hcb] at hc
   generalize hcv : a.eval c = cv at hc
   cases hc
   exact wp_cond_false hcv (ihy X R N a w ⟨ρ', env, hp, h1, h2, h3, h4, h5, h6, h7⟩)
 | block id x ih =>
  intro X R N a w h
  refine wp_block (wp_mono (ih (fun j => if j = id then N else X j) R N a w h) fun e a' w' hq => ?_)
  cases e with
  | normal => exact hq
  | exit id' =>
   simp only [QP] at hq
   simp only [Exit.inBlock]
   split
   ·rename_i e
    rw [if_pos e] at hq
    exact hq
   ·rename_i e
    rw [if_neg e] at hq
    exact hq
  | ret => exact hq
  | goto l => exact hq
  | panic ch => exact hq
  | outgrown => exact hq
 | loop x ih => rintro X R N a w ⟨ρ', env, hp, h1, h2, h3, h4, h5, h6, h7⟩; exact h7.elim
 | rangeFunc f ps x y ihx ihy => rintro X R N a w ⟨ρ', env, hp, h1, h2, h3, h4, h5, h6, h7⟩; exact h7.elim
 | exit id => intro X R N a w h; exact wp_exit h
 | scope x ih =>
  intro X R N a w h
  refine wp_scope_straight (wp_mono (ih X R N a w h) fun e a' w' hq => ?_)
  cases e with
  | goto l => exact hq
  | normal => exact hq
  | exit id => exact hq
  | ret => exact hq
  | panic ch => exact hq
  | outgrown => exact hq
 | label l => rintro X R N a w ⟨ρ', env, hp, h1, h2, h3, h4, h5, h6, h7⟩; exact h7.elim
 | goto l => rintro X R N a w ⟨ρ', env, hp, h1, h2, h3, h4, h5, h6, h7⟩; exact h7.elim
 | ret => intro X R N a w h; exact wp_ret h
 | refuse why => rintro X R N a w ⟨ρ', env, hp, h1, h2, h3, h4, h5, h6, h7⟩; exact h7.elim
def Le (h2 h1 : Hp) : Prop := ∀ G ρ w, HR G ρ h2 w → HR G ρ h1 w
theorem dWp (K : OkC C rec) (hP : POk C.P) {f : FuncId} {fn : Func} {c : Code} (hf : C.P.funcs[f]? = some fn) (hb : fn.body = some c) {F : List DV → Hp → aK}
  (hF : ∀ args h v h1, F args h = some (v, h1) → nK h → sK C rec fn.ntmps c (fun _ _ _ => False) (fun env h' => ∃ h2, aR C fn env h' = some (v, h2) ∧ Le h2 h1)
   (fun env h' => ∃ h2, aR C fn env h' = some (v, h2) ∧ Le h2 h1) (aJ args) h) : jQ C.P G f F := by
 intro args h v h1 hr ρ w args' H hargs
 refine .inl ⟨?_, ?_⟩
 ·unfold callFunc
  have hn : ¬ fn.name = "runtime.NumGoroutine" := by simpa using hP.names f fn hf
  simp [hf, hn, hb]
 ·refine calls_of_wp hf hb ?_
  have he : EnvR ρ (aJ args) { tmps := args' ++ Array.replicate (fn.ntmps - args'.size) undef, defers := [] } := by
   intro t
   unfold aJ
   have hlen := hargs.length
   simp only [Array.length_toList] at hlen
   by_cases ht : t < args.length
   ·have hg : args[t]? = some args[t] := by simp [ht]
    obtain ⟨v', h2, h3⟩ := hargs.get t _ hg
    simp only [Array.getElem?_toList] at h2
    rw [show args.getD t bB = args[t] by simp [List.getD, hg]]
    have : (args' ++ Array.replicate (fn.ntmps - args'.size) undef).getD t undef = v' := by
     simp [Array.getElem?_append_left (show t < args'.size by omega), h2]
    rw [this]
    exact h3
   ·have hg : args.getD t bB = bB := by simp [List.getD, List.getElem?_eq_none (Nat.le_of_not_lt ht)]
    rw [hg]
    have : (args' ++ Array.replicate (fn.ntmps - args'.size) undef).getD t undef = undef := by
     rw [Array.getD_eq_getD_getElem?, Array.getElem?_append_right (by omega)]
     simp only [Array.getElem?_replicate]
     split <;> rfl
    rw [this]
    exact .t [] #[] .nil
  have hst : StP G fn.ntmps ρ w _ { tmps := args' ++ Array.replicate (fn.ntmps - args'.size) undef, defers := [] } w :=
   ⟨ρ, aJ args, h, Ex.refl G ρ, H, he, Kp.refl G w, by simp; omega, rfl, hF args h v h1 hr H.isFresh⟩
  refine wp_mono (cAu K hP.mixed c _ _ _ _ _ hst) fun e a' w' hq => ?_
  have hfin : StP G fn.ntmps ρ w (fun env h' => ∃ h2, aR C fn env h' = some (v, h2) ∧ Le h2 h1) a' w' → a'.defers = [] ∧ ∃ v', (results fn a'.tmps).run C.P w' = .ok v' w' ∧ kS G ρ w v h1 (.returned v') w' := by
   rintro ⟨ρ', env, h', e1, e2, e3, e4, e5, e6, h2, e7, e8⟩
   obtain ⟨rfl, v', r1, r2⟩ := aOr e2 e3 e7
   exact ⟨e6, v', r1, ρ', v', rfl, e1, r2, e8 _ _ _ e2, e4⟩
  cases e with
  | normal => exact hfin hq
  | ret => exact hfin hq
  | exit id => obtain ⟨ρ', env, h', e1, e2, e3, e4, e5, e6, e7⟩ := hq; exact e7.elim
  | goto l => exact hq.elim
  | panic ch => exact hq.elim
  | outgrown => exact hq.elim
end
end Go.Dd

namespace Go.Dd
open Go.RowKit (Below)
def Fw (ro : Option Nat) : Fence := { Fence.wide with round := ro }
theorem aVd {ro : Option Nat} {n : Nat} {P : Program} {f : FuncId} {args : Array Value} {w : World} {R : Ending → World → Prop} (h : Calls P f args w R) : CallsIn (Fw ro) n P f args w R := by
 have e : CallsIn Fence.wide n P f args w R := callsIn_wide.2 h
 exact e
theorem stepsIn_fw {ro : Option Nat} {P : Program} {m m' : Machine} : StepsIn (Machine.fenced P (Fw ro)) P m m' ↔ Steps P m m' := by
 exact stepsIn_wide (P := P)
def fX (o : Oper) : Bool := match o.op with
 | .defer _ => false
 | _ => true
section
variable {ro : Option Nat} {n : Nat} {P : Program} {Q : Exit → Act → World → Prop}
theorem cGw {o : Oper} {ρ : Operand → Value} (h : fX o = true) : o.semAt ro ρ = execOp ρ o := by
 refine Oper.semAt_eq ro ρ o fun c e => ?_
 unfold fX at h
 rw [e] at h
 cases h
theorem dYd {o : Oper} {a : Act} {w : World} {K : Act → World → Prop} (hd : fX o = true) (h : o.wp P a w K Q) : o.wpIn (Fw ro) n P a w K Q := by
 refine ⟨fun _ _ => trivial, ?_⟩
 show o.uponIn (Fw ro) n P a K Q ((o.semAt ro a.eval).run P w)
 rw [cGw hd]
 unfold Oper.wp at h
 generalize (execOp a.eval o).run P w = r at h
 cases r with
 | ok x w' =>
  cases x <;> first
   | exact h
   | exact h.elim
   | exact ⟨fun e => (by cases e), aVd h⟩
   | exact ⟨fun e => (by cases e), fun c cs _ => (let ⟨v, w2, r, s⟩ := h c cs; ⟨v, w2, r, stepsIn_fw.2 s⟩)⟩
 | halt x w' => cases x <;> exact h
theorem aDf {ops : Array Oper} {i : Nat} {K K' : Act → World → Prop} {a : Act} {w : World} (hd : ∀ o ∈ ops.toList, fX o = true) (hQ : ¬ LetsOut Q) (hK : ∀ a w, K a w → K' a w) (h : wpOp P ops Q i K a w) : wpOpIn (Fw ro) n P ops Q i K' a w := by
 unfold wpOp at h
 unfold wpOpIn
 cases ho : ops[i]? with
 | none => rw [ho] at h; exact hK _ _ h
 | some o =>
  rw [ho] at h
  dsimp only at h ⊢
  have hm : o ∈ ops.toList := by
   have := Array.mem_of_getElem? ho
   exact Array.mem_toList_iff.2 this
  split
  ·rename_i hw
   rw [if_pos hw] at h
   rcases h with h | h
   ·exact Oper.wpIn_mono hK (dYd (hd o hm) h)
   ·exact absurd h.2 hQ
  ·rename_i hw
   rw [if_neg hw] at h
   exact ⟨fun _ _ => trivial, hK _ _ h⟩
theorem aPi {ops : Array Oper} (hd : ∀ o ∈ ops.toList, fX o = true) (hQ : ¬ LetsOut Q) : ∀ (l : List Nat) (a : Act) (w : World), wpOps P ops Q l a w → wpOpsIn (Fw ro) n P ops Q l a w
 | [], a, w, h => h
 | i :: l, a, w, h => by
  rw [wpOps_cons] at h
  rw [wpOpsIn_cons]
  exact aDf hd hQ (aPi hd hQ l) h
theorem aPy {ops : Array Oper} {md : Region.Mode} (hd : ∀ o ∈ ops.toList, fX o = true) (hQ : ¬ LetsOut Q) : ∀ (fuel : Nat) (listed : Array Bool) (a : Act) (w : World), wpAny P md ops Q fuel listed a w → wpAnyIn (Fw ro) n P md ops Q fuel listed a w
 | 0, listed, a, w, h => h
 | fuel + 1, listed, a, w, h => ⟨h.1, fun i hi => aDf hd hQ (aPy hd hQ fuel _) (h.2 i hi)⟩
def dR : Code → Bool
 | .skip => true
 | .region _ ops _ => ops.toList.all fX
 | .seq x y => dR x && dR y
 | .cond _ x y => dR x && dR y
 | .block _ x => dR x
 | .loop x => dR x
 | .exit _ => true
 | .ret => true
 | _ => false
end
section
variable {C : Cfg} {G : Gd} {rec : FuncId → List DV → Hp → aK} {nt n : Nat}
theorem bZw {DD : List Deferred} {ρ : cM} {w0 : World} {X : Nat → K} {kr k : K} {r : DV × Hp} : ¬ LetsOut (QQ DD G nt ρ w0 X kr k r) := fun ⟨_, _, h⟩ => h
theorem bAr {ro : Option Nat} {N : Nat} {DD : List Deferred} (K : OkC C rec) (hm : C.P.follows .mixedOrders = true) {ρ : cM} {w0 : World} {r : DV × Hp} : ∀ (c : Code), dR c = true → ∀ (X : Nat → Dd.K) (kr k : Dd.K) (a : Act) (w : World),
  St DD G nt ρ w0 (aM C rec nt n c X kr k) r a w → c.wpIn (Fw ro) N C.P (QQ DD G nt ρ w0 X kr k r) a w := by
 intro c
 induction c with
 | skip => intro _ X kr k a w h; exact wpIn_skip h
 | region id ops dr =>
  intro hpc X kr k a w h
  have hd : ∀ o ∈ ops.toList, fX o = true := List.all_eq_true.1 hpc
  obtain ⟨ρ', env, hp, h1, h2, h3, h4, h5, h6, h7⟩ := h
  change (Bool.rec (motive := fun _ => Dd.K) (gV C rec nt ops ops.toList k) (Bool.rec (motive := fun _ => Dd.K) cJ (iE C rec nt ops k) (eJ C.P ops)) dr) env hp = some r at h7
  cases dr with
  | true =>
   dsimp only at h7
   cases hok : eJ C.P ops with
   | false => rw [hok] at h7; cases h7
   | true =>
    rw [hok] at h7
    exact wpIn_region_any hm (aPy hd bZw _ _ _ _ (aQl K hok h7 h2 h3 h5 h6 fun ρ2 env2 h2' a2 w2 e1 e2 e3 e4 e5 e6 e7 => ⟨ρ2, env2, h2', h1.trans e1, e2, e3, h4.trans e4, e5, e6, e7⟩))
  | false =>
   simp only [cond_false] at h7
   obtain ⟨env', h', hr, hk⟩ := mW ops.toList k env hp r h7
   refine wpIn_region ?_
   have := aMk (Q := QQ DD G nt ρ w0 X kr k r) K ops.toList 0 ρ' env hp a w (by simp) hr h2 h3 h5 h6 fun ρ2 a2 w2 e1 e2 e3 e4 e5 e6 => ⟨ρ2, env', h', h1.trans e1, e2, e3, h4.trans e4, e5, e6, hk⟩
   rw [List.range_eq_range']
   exact aPi hd bZw _ _ _ (by simpa using this)
 | seq x y ihx ihy =>
  intro hpc X kr k a w h
  simp only [dR, Bool.and_eq_true] at hpc
  refine wpIn_seq (wpIn_mono (ihx hpc.1 X kr (aM C rec nt n y X kr k) a w h) fun e a' w' hq => ?_)
  cases e with
  | normal => exact ihy hpc.2 X kr k a' w' hq
  | exit id => exact hq
  | ret => exact hq
  | goto l => exact hq
  | panic ch => exact hq
  | outgrown => exact hq
 | cond c x y ihx ihy =>
  intro hpc X kr k a w h
  simp only [dR, Bool.and_eq_true] at hpc
  obtain ⟨ρ', env, hp, h1, h2, h3, h4, h5, h6, h7⟩ := h
  change aU (opr env c) (aM C rec nt n x X kr k env hp) (aM C rec nt n y X kr k env hp) = some r at h7
  have hc := bF h3 c
  unfold aU at h7
  split at h7 <;> (try (cases h7; done))
  ·rename_i hcb
   rw [hcb] at hc
   generalize hcv : a.eval c = cv at hc
   cases hc
   exact wpIn_cond_true hcv (ihx hpc.1 X kr k a w ⟨ρ', env, hp, h1, h2, h3, h4, h5, h6, h7⟩)
  ·rename_i hcb
   rw [hcb] at hc
   generalize hcv : a.eval c = cv at hc
   cases hc
   exact wpIn_cond_false hcv (ihy hpc.2 X kr k a w ⟨ρ', env, hp, h1, h2, h3, h4, h5, h6, h7⟩)
 | block id x ih =>
  intro hpc X kr k a w h
  refine wpIn_block (wpIn_mono (ih hpc (fun j => bif Nat.beq j id then k else X j) kr k a w h) fun e a' w' hq => ?_)
  cases e with
  | normal => exact hq
  | exit id' =>
   simp only [QQ] at hq
   simp only [Exit.inBlock, QQ]
   split
   ·rename_i e
    subst e
    have hb : Nat.beq id' id' = true := Nat.beq_refl id'
    rw [hb] at hq
    exact hq
   ·rename_i e
    have : Nat.beq id' id = false := by
     cases hb : Nat.beq id' id with
     | false => rfl
     | true => exact absurd (Nat.eq_of_beq_eq_true hb) e
    rw [this] at hq
    exact hq
  | ret => exact hq
  | goto l => exact hq
  | panic ch => exact hq
  | outgrown => exact hq
 | loop x ih =>
  intro hpc X kr k a w h
  have key : ∀ (m : Nat) (a : Act) (w : World), St DD G nt ρ w0 (aL (fun kk => aM C rec nt n x X kr kk) m) r a w → Code.roundsIn (Fw ro) N C.P x (QQ DD G nt ρ w0 X kr k r) m a w := by
   intro m
   induction m with
   | zero =>
    rintro a w ⟨ρ', env, hp, h1, h2, h3, h4, h5, h6, h7⟩
    cases h7
   | succ m ihm =>
    intro a w hs
    rw [roundsIn_succ]
    refine wpIn_mono (ih hpc X kr (aL (fun kk => aM C rec nt n x X kr kk) m) a w hs) fun e a' w' hq => ?_
    cases e with
    | normal => exact ihm a' w' hq
    | exit id => exact hq
    | ret => exact hq
    | goto l => exact hq
    | panic ch => exact hq
    | outgrown => exact hq
  exact wpIn_loop_rounds n (key n a w h)
 | exit id => intro _ X kr k a w h; exact wpIn_exit h
 | ret => intro _ X kr k a w h; exact wpIn_ret h
 | _ => intro hpc; cases hpc
end
end Go.Dd

namespace Go.Dd
open Go.RowKit (Below)
section
variable {G G' : Gd} {ρ : cM} {h : Hp} {w : World}
theorem HR.earlyO (H : HR G ρ h w) {b : Pos} (hb : ρ b = none) (hlt : b.toNat < h.next.toNat) (ob : Obj) :
  HR ⟨G.B, fun k => G.X k ∨ k = w.heap.size, G.N, G.W, G.ok⟩ (lV ρ b ⟨w.heap.size, 0, 0, none⟩) h (w.alloc ob) := by
 have hext : Ext ρ (lV ρ b ⟨w.heap.size, 0, 0, none⟩) := by
  intro x L hx
  by_cases e : x = b
  ·subst e; rw [hb] at hx; cases hx
  ·rw [aY _ _ e]; exact hx
 have hrow : h.bl.get b = none := by
  cases hr : h.bl.get b with
  | none => rfl
  | some o => obtain ⟨L, hL⟩ := H.dom b o hr; rw [hb] at hL; cases hL
 have hne : ∀ x o, h.bl.get x = some o → x ≠ b := fun x o hx e => by subst e; rw [hrow] at hx; cases hx
 have hcl : ∀ {x a}, Claims (lV ρ b ⟨w.heap.size, 0, 0, none⟩) h x a → Claims ρ h x a := by
  rintro x a ⟨k, l, L, h1, h2, h3⟩
  rw [aY _ _ (hne x _ h1)] at h2
  exact ⟨k, l, L, h1, h2, h3⟩
 have hblt : ∀ {x a}, Claims ρ h x a → a.block < w.heap.size := fun hc => by
  obtain ⟨v, hv⟩ := H.lt_cell hc
  exact dS hv
 refine { gl := fun k hk => by rw [Below.heap_alloc _ _ _ (Nat.lt_of_lt_of_le hk H.sz.1)]; exact H.gl k hk, sz := ⟨by have := H.sz.1; simp; omega, fun k hk => ?_⟩, nx := H.nx, ro := fun x a h1 h2 => H.ro x a (hcl h1) h2, dom := ?_, lt := ?_, cell := ?_, spare := ?_, free := ?_, inj := ?_, ex := ?_, grone := H.grone, itr := ?_, itj := ?_ }
 ·rcases hk with hk | hk
  ·have := H.sz.2 k hk; simp; omega
  ·simp; omega
 ·intro x o hx
  obtain ⟨L, hL⟩ := H.dom x o hx
  exact ⟨L, hext _ _ hL⟩
 ·intro x L hx
  by_cases e : x = b
  ·subst e; exact hlt
  ·rw [aY _ _ e] at hx; exact H.lt x L hx
 ·intro x k l L i v hx hL hi hv
  rw [aY _ _ (hne x _ hx)] at hL
  obtain ⟨v', h5, h6⟩ := H.cell x k l L i v hx hL hi hv
  exact ⟨v', by rw [dM (dS h5)]; exact h5, h6.mono hext⟩
 ·intro x l L es j hx hL hj
  rw [aY _ _ (hne x _ hx)] at hL
  obtain ⟨v', h5⟩ := H.spare x l L es j hx hL hj
  exact ⟨v', by rw [dM (dS h5)]; exact h5⟩
 ·intro x a hc hr
  have hlt' := hblt (hcl hc)
  obtain ⟨h3, h4, h5⟩ := H.free x a (hcl hc) hr
  refine ⟨by rw [fY (by omega)]; exact h3, h4, ?_⟩
  rintro (hk | hk)
  ·exact h5 hk
  ·omega
 ·intro x x' a hc hc' hr
  exact H.inj x x' a (hcl hc) (hcl hc') hr
 ·intro x l L hx hL
  have : x ≠ b := by rcases hx with hx | hx <;> exact hne x _ hx
  rw [aY _ _ this] at hL
  exact H.ex x l L hx hL
 ·intro x o L h0 hx hL
  rw [aY _ _ (hne x _ hx)] at hL
  obtain ⟨⟨h1, h1'⟩, h2, bs, h3, h4⟩ := H.itr x o L h0 hx hL
  have hlt' : L.bl < w.heap.size := by
   rcases Nat.lt_or_ge L.bl w.heap.size with h | h
   ·exact h
   ·simp [Array.getElem?_eq_none h] at h3
  refine ⟨⟨h1, ?_⟩, h2, bs, by rw [Below.heap_alloc _ _ _ hlt']; exact h3, h4.mono hext⟩
  rintro (hk | hk)
  ·exact h1' hk
  ·omega
 ·intro x o x' o' L L' h0 h0' hx hx' hL hL' he
  rw [aY _ _ (hne x _ hx)] at hL
  rw [aY _ _ (hne x' _ hx')] at hL'
  exact H.itj x o x' o' L L' h0 h0' hx hx' hL hL' he
theorem aRe {w : World} {l : Nat} {o o' : Obj} (hl : w.heap[l]? = some o) (ho : o.isCells = false) (ho' : o'.isCells = false) (a : Addr) : (w.putObj l o').cell? a = w.cell? a := by
 by_cases e : a.block = l
 ·have h1 : (w.putObj l o').heap[a.block]? = some o' := by rw [e]; exact World.putObj_heap_same (Array.getElem?_eq_some_iff.1 hl).1
  have h2 : w.heap[a.block]? = some o := by rw [e]; exact hl
  unfold World.cell?
  rw [h1, h2]
  cases o <;> cases ho <;> cases o' <;> cases ho' <;> rfl
 ·unfold World.cell?
  rw [World.putObj_heap_other e]
theorem aWq {w : World} {l : Nat} {o' : Obj} {a : Addr} (e : a.block ≠ l) : (w.putObj l o').frozen? a = w.frozen? a := by
 unfold World.frozen?
 rw [World.putObj_heap_other e]
theorem HR.putX (H : HR G ρ h w) {l : Nat} {o o' : Obj} (hB : G.B ≤ l) (hX : G.X l) (hl : w.heap[l]? = some o) (ho : o.isCells = false) (ho' : o'.isCells = false) : HR G ρ h (w.putObj l o') where
 gl := fun k hk => by rw [World.putObj_heap_other (by omega)]; exact H.gl k hk
 sz := by
  have e : (w.putObj l o').heap.size = w.heap.size := by simp [World.putObj]
  rw [e]
  exact H.sz
 nx := H.nx
 ro := H.ro
 dom := H.dom
 lt := H.lt
 cell := fun b k L i v v' h1 h2 h3 h4 => by
  obtain ⟨x, h5, h6⟩ := H.cell b k L i v v' h1 h2 h3 h4
  exact ⟨x, by rw [aRe hl ho ho']; exact h5, h6⟩
 spare := fun b k L es j h1 h2 h3 => by
  obtain ⟨x, h5⟩ := H.spare b k L es j h1 h2 h3
  exact ⟨x, by rw [aRe hl ho ho']; exact h5⟩
 free := fun b a h1 h2 => by
  obtain ⟨h3, h4, h5⟩ := H.free b a h1 h2
  exact ⟨by rw [aWq (by intro e; rw [e] at h5; exact h5 hX)]; exact h3, h4, h5⟩
 inj := H.inj
 ex := H.ex
 grone := H.grone
 itr := fun b o2 L h0 h1 h2 => by
  obtain ⟨⟨h3, h4⟩, h5, x, h6, h7⟩ := H.itr b o2 L h0 h1 h2
  exact ⟨⟨h3, h4⟩, h5, x, by rw [World.putObj_heap_other (by intro e; rw [e] at h4; exact h4 hX)]; exact h6, h7⟩
 itj := H.itj
theorem Kp.putX {w0 : World} (k : Kp G w0 w) {l : Nat} {o o' : Obj} (hO : Own G l) (hs : ∀ k, G.X k → k < w0.heap.size) (hB : G.B ≤ w0.heap.size) (hl : w.heap[l]? = some o) : Kp G w0 (w.putObj l o') where
 low := k.low.grown (grownBy_putObj' w l o') (Nat.le_trans hB k.low.size) (fun j e => by cases e; exact hO.1)
 ex := fun j hj => by rw [World.putObj_heap_other (by intro e; subst e; exact hO.2 hj)]; exact k.ex j hj
end
end Go.Dd

namespace Go.Dd
open Go.RowKit (Below)
structure ItC where
 gf : FuncId
 nt : Nat
 pre : Code
 b0 : Nat
 test : Code
 b1 : Nat
 rid : Nat
 front : List Oper
 y : Oper
 back : List Oper
 after : Code
 post : Code
 step : Code
 yd : Tmp
 yt : Tmp
 yx : Tmp
def ItC.ops (I : ItC) : Array Oper := (I.front ++ I.y :: I.back).toArray
def ItC.round (I : ItC) : Code := .seq I.test (.seq (.block I.b1 (.seq (.seq (.region I.rid I.ops false) I.after) I.post)) I.step)
def ItC.code (I : ItC) : Code := .seq I.pre (.block I.b0 (.loop I.round))
def jY : Nat → K := fun _ => cJ
def ylB (v : DV) (b : Pos) : Bool := match v with
 | .yl b' => b' == b
 | _ => false
section
variable (C : Cfg) (rec : FuncId → List DV → Hp → aK) (n : Nat) (I : ItC)
noncomputable def pB (b : Bool) (kr k : K) (e1 : aV) : Hp → aK := fun h =>
 cnd (cV I.nt (some I.yd)) (gV C rec I.nt I.ops I.back (aM C rec I.nt n I.after jY kr k) (bP e1 (some I.yd) (.b b)) h)
noncomputable def aIh (nt : Nat) (p : Tmp) (x y : Code) (env : aV) (X : Nat → K) (kr kk : K) : K := fun e1 h1 =>
 cnd (cV nt (some p)) (aM C rec nt n x jY cJ (aM C rec nt n y
   (fun i _ h2 => pB C rec n I false (fun _ h3 => X i env h3) cJ e1 h2)
   (fun _ h2 => pB C rec n I false (fun _ h3 => kr env h3) cJ e1 h2)
   (fun _ h2 => pB C rec n I true cJ (aM C rec I.nt n I.post jY cJ (aM C rec I.nt n I.step jY cJ kk)) e1 h2))
  (bP env (some p) (e1 I.yx)) h1)
noncomputable def mQ (nt : Nat) (g : Operand) (p : Tmp) (x y : Code) (X : Nat → K) (kr k : K) : K := fun env h =>
 match opr env g with
 | .f gf [] cap => cnd (Nat.beq gf I.gf) (aM C rec I.nt n I.pre jY cJ
   (aL (fun kk => aM C rec I.nt n I.test (fun j => bif Nat.beq j I.b0 then (fun _ h => k env h) else cJ) cJ
    (gV C rec I.nt I.ops I.front (fun e1 h1 => cnd (ylB (e1 I.yt) h.next) (aIh C rec n I nt p x y env X kr kk e1 h1)))) n)
   (aJ (.yl h.next :: cap)) (resv 2 h))
 | _ => none
end
structure ItOk (P : Program) (I : ItC) : Prop where
 pre : dR I.pre = true
 test : dR I.test = true
 after : dR I.after = true
 post : dR I.post = true
 step : dR I.step = true
 ops : ∀ o ∈ I.ops.toList, fX o = true
 dst : I.y.dst = some I.yd
 guard : I.y.guard = none
 op : ∃ tys, I.y.op = .call ⟨.value (.tmp I.yt), #[.tmp I.yx], tys⟩
 fn : ∃ fn, P.funcs[I.gf]? = some fn ∧ fn.body = some I.code ∧ fn.ntmps = I.nt ∧ fn.results = #[] ∧ (fn.name == "runtime.NumGoroutine") = false
theorem aPg {ρ : cM} {args : List DV} {args' : Array Value} (hargs : VRs ρ args args'.toList) (nt : Nat) (ds : List Deferred) : EnvR ρ (aJ args) { tmps := args' ++ Array.replicate (nt - args'.size) undef, defers := ds } := by
 intro t
 unfold aJ
 have hlen := hargs.length
 simp only [Array.length_toList] at hlen
 by_cases ht : t < args.length
 ·have hg : args[t]? = some args[t] := by simp [ht]
  obtain ⟨v', h2, h3⟩ := hargs.get t _ hg
  simp only [Array.getElem?_toList] at h2
  rw [show args.getD t bB = args[t] by simp [List.getD, hg]]
  have : (args' ++ Array.replicate (nt - args'.size) undef).getD t undef = v' := by
   simp [Array.getElem?_append_left (show t < args'.size by omega), h2]
  rw [this]
  exact h3
 ·have hg : args.getD t bB = bB := by simp [List.getD, List.getElem?_eq_none (Nat.le_of_not_lt ht)]
  rw [hg]
  have : (args' ++ Array.replicate (nt - args'.size) undef).getD t undef = undef := by
   rw [Array.getD_eq_getD_getElem?, Array.getElem?_append_right (by omega)]
   simp only [Array.getElem?_replicate]
   split <;> rfl
  rw [this]
  exact .t [] #[] .nil
def GD (G : Gd) (D : Nat) : Gd := ⟨G.B, fun k => G.X k ∨ k = D, G.N, G.W, G.ok⟩
theorem Ex.ofGD {G : Gd} {D : Nat} {ρ ρ' : cM} (h : Ex (GD G D) ρ ρ') : Ex G ρ ρ' := ⟨h.ext, h.new⟩
theorem Kp.ofGD {G : Gd} {D : Nat} {w w' : World} (h : Kp (GD G D) w w') : Kp G w w' := ⟨h.low, fun k hk => h.ex k (.inl hk)⟩
section
variable {C : Cfg} {G : Gd} {rec : FuncId → List DV → Hp → aK} {n : Nat} {I : ItC} {N : Nat}
def StM (DD : List Deferred) (G : Gd) (nt : Nat) (ρ : cM) (w0 : World) (k : K) (r : DV × Hp) (a : Act) (w : World) : Prop :=
 ∃ D ρ' env h, Ex G ρ ρ' ∧ HR (GD G D) ρ' h w ∧ EnvR ρ' env a ∧ Kp G w0 w ∧ nt ≤ a.tmps.size ∧ a.defers = { target := .collected D, args := #[] } :: DD ∧ Own G D ∧ w.heap[D]? = some (.deferred (some [])) ∧ k env h = some r
def QM (DD : List Deferred) (G : Gd) (nt : Nat) (ρ : cM) (w0 : World) (X : Nat → K) (kr k : K) (r : DV × Hp) : Exit → Act → World → Prop
 | .normal, a, w => StM DD G nt ρ w0 k r a w
 | .exit id, a, w => StM DD G nt ρ w0 (X id) r a w
 | .ret, a, w => StM DD G nt ρ w0 kr r a w
 | _, _, _ => False
structure Iv (G : Gd) (ρ : cM) (w0 : World) (D l : Nat) (rc : Loop) (ρ' : cM) (h : Hp) (W : World) : Prop where
 ex : Ex G ρ ρ'
 hr : HR (GD (GD G D) l) ρ' h W
 kp : Kp G w0 W
 hl : W.heap[l]? = some (.loop rc)
 hD : W.heap[D]? = some (.deferred (some []))
def SS (G : Gd) (ρ : cM) (w0 : World) (D l : Nat) (rc : Loop) (ds : List Deferred) (nt : Nat) (K : K) (r : DV × Hp) (a : Act) (W : World) : Prop :=
 ∃ ρ' env h, Iv G ρ w0 D l rc ρ' h W ∧ EnvR ρ' env a ∧ nt ≤ a.tmps.size ∧ a.defers = ds ∧ K env h = some r
def QS (G : Gd) (ρ : cM) (w0 : World) (D l : Nat) (rc : Loop) (ds : List Deferred) (nt : Nat) (X : Nat → K) (kr k : K) (r : DV × Hp) : Exit → Act → World → Prop
 | .normal, a, w => SS G ρ w0 D l rc ds nt k r a w
 | .exit id, a, w => SS G ρ w0 D l rc ds nt (X id) r a w
 | .ret, a, w => SS G ρ w0 D l rc ds nt kr r a w
 | _, _, _ => False
theorem Iv.step {ρ : cM} {w0 : World} {D l : Nat} {rc : Loop} {ρ' ρ2 : cM} {h h2 : Hp} {W W2 : World} (v : Iv G ρ w0 D l rc ρ' h W) (e : Ex (GD (GD G D) l) ρ' ρ2) (H : HR (GD (GD G D) l) ρ2 h2 W2) (k : Kp (GD (GD G D) l) W W2) : Iv G ρ w0 D l rc ρ2 h2 W2 where
 ex := v.ex.trans e.ofGD.ofGD
 hr := H
 kp := v.kp.trans k.ofGD.ofGD
 hl := by rw [k.ex l (.inr rfl)]; exact v.hl
 hD := by rw [k.ex D (.inl (.inr rfl))]; exact v.hD
theorem jV {ro : Option Nat} (K : OkC C rec) (hm : C.P.follows .mixedOrders = true) {ρ : cM} {w0 : World} {D l : Nat} {rc : Loop} {ds : List Deferred} {nt : Nat} {X : Nat → Dd.K} {kr k : Dd.K} {r : DV × Hp} {a : Act} {W : World} (c : Code) (hc : dR c = true)
  (h : SS G ρ w0 D l rc ds nt (aM C rec nt n c X kr k) r a W) : c.wpIn (Fw ro) N C.P (QS G ρ w0 D l rc ds nt X kr k r) a W := by
 obtain ⟨ρ', env, hp, v, he, hnt, hd, hk⟩ := h
 refine wpIn_mono (bAr (DD := ds) (G := GD (GD G D) l) (ρ := ρ') (w0 := W) K hm c hc X kr k a W ⟨ρ', env, hp, Ex.refl _ _, v.hr, he, Kp.refl _ _, hnt, hd, hk⟩) fun e a' w' hq => ?_
 cases e with
 | normal => obtain ⟨ρ2, env2, h2, e1, e2, e3, e4, e5, e6, e7⟩ := hq; exact ⟨ρ2, env2, h2, v.step e1 e2 e4, e3, e5, e6, e7⟩
 | exit id => obtain ⟨ρ2, env2, h2, e1, e2, e3, e4, e5, e6, e7⟩ := hq; exact ⟨ρ2, env2, h2, v.step e1 e2 e4, e3, e5, e6, e7⟩
 | ret => obtain ⟨ρ2, env2, h2, e1, e2, e3, e4, e5, e6, e7⟩ := hq; exact ⟨ρ2, env2, h2, v.step e1 e2 e4, e3, e5, e6, e7⟩
 | goto l => exact hq
 | panic ch => exact hq
 | outgrown => exact hq
theorem bOy {G : Gd} {ro : Option Nat} (K : OkC C rec) {nt : Nat} {DD : List Deferred} {ops : Array Oper} {Q : Exit → Act → World → Prop} {env' : aV} {h' : Hp} (hops : ∀ o ∈ ops.toList, fX o = true) (hQo : ¬ LetsOut Q) (rest : List Nat) : ∀ (l : List Oper) (i : Nat) (ρ : cM) (env : aV) (h : Hp) (a : Act) (w : World),
  (∀ j : Nat, j < l.length → l[j]? = ops[i + j]?) → xR C rec nt ops l env h env' h' → HR G ρ h w → EnvR ρ env a → nt ≤ a.tmps.size → a.defers = DD →
  (∀ ρ' a' w', Ex G ρ ρ' → HR G ρ' h' w' → EnvR ρ' env' a' → Kp G w w' → nt ≤ a'.tmps.size → a'.defers = DD → wpOpsIn (Fw ro) N C.P ops Q rest a' w') → wpOpsIn (Fw ro) N C.P ops Q (List.range' i l.length ++ rest) a w
 | [], i, ρ, env, h, a, w, _, hr, H, he, hnt, hd, hQ => by
  obtain ⟨rfl, rfl⟩ := hr
  exact hQ ρ a w (Ex.refl G ρ) H he (Kp.refl G w) hnt hd
 | o :: os, i, ρ, env, h, a, w, hl, hr, H, he, hnt, hd, hQ => by
  obtain ⟨hf, v, h1, hs, hr'⟩ := hr
  have hi : ops[i]? = some o := by simpa using (hl 0 (by simp)).symm
  simp only [List.length_cons, List.range'_succ, List.cons_append]
  rw [wpOpsIn_cons]
  refine aDf (K := fun a w => wpOpsIn (Fw ro) N C.P ops Q (List.range' (i + 1) os.length ++ rest) a w) hops hQo (fun _ _ h => h) (uF (tK K H he hs) rfl hi H fun ρ' w' v' h2 h3 h4 h5 => ?_)
  refine bOy (DD := DD) K hops hQo rest os (i + 1) ρ' _ h1 _ w' (fun j hj => ?_) hr' h4 (he.put h2.ext h3 hf hnt) (by rw [kY]; exact hnt) (by rw [iH]; exact hd) fun ρ2 a2 w2 e1 e2 e3 e4 e5 e6 => ?_
  ·have := hl (j + 1) (by simpa using hj)
   simpa [Nat.add_assoc, Nat.add_comm 1 j] using this
  ·exact hQ ρ2 a2 w2 (h2.trans e1) e2 e3 (h5.trans e4) e5 e6
theorem aXv {ro : Option Nat} (K : OkC C rec) {ρ : cM} {w0 : World} {D l : Nat} {rc : Loop} {ds : List Deferred} {nt : Nat} {k : Dd.K} {r : DV × Hp} {a : Act} {W : World} {ops : Array Oper} {Q : Exit → Act → World → Prop} (hops : ∀ o ∈ ops.toList, fX o = true) (L : List Oper) (i : Nat) (hL : ∀ j : Nat, j < L.length → L[j]? = ops[i + j]?)
  (hQ : ¬ LetsOut Q) (h : SS G ρ w0 D l rc ds nt (gV C rec nt ops L k) r a W) (rest : List Nat) (hn : ∀ a W, SS G ρ w0 D l rc ds nt k r a W → wpOpsIn (Fw ro) N C.P ops Q rest a W) : wpOpsIn (Fw ro) N C.P ops Q (List.range' i L.length ++ rest) a W := by
 obtain ⟨ρ', env, hp, v, he, hnt, hd, hk⟩ := h
 obtain ⟨env', h', hr, hk'⟩ := mW L k env hp r hk
 exact bOy (G := GD (GD G D) l) (DD := ds) K hops hQ rest L i ρ' env hp a W hL hr v.hr he hnt hd fun ρ2 a2 w2 e1 e2 e3 e4 e5 e6 => hn a2 w2 ⟨ρ2, env', h', v.step e1 e2 e4, e3, e5, e6, hk'⟩
end
end Go.Dd

namespace Go.Dd
open Go.RowKit (Below)
theorem bJs {P : Program} {o : Oper} {a : Act} {W : World} {t x p : Tmp} {tys : Array TypeId} {l : Nat} {rc : Loop} (ho : o.op = .call ⟨.value (.tmp t), #[.tmp x], tys⟩) (ht : a.eval (.tmp t) = .func (.yield l) #[] #[])
  (hl : W.heap[l]? = some (.loop rc)) (hp : rc.params = #[p]) : (execOp a.eval o).run P W = .ok (.round l rc.fn (rc.tmps.setIfInBounds p (a.eval (.tmp x))) rc.assign rc.body) W := by
 have hy := run_yield (P := P) (args := #[a.eval (.tmp x)]) hl (by rw [hp]; rfl)
 rw [hp] at hy
 unfold execOp
 rw [ho]
 simp only [resolve, ht, Deferred.ofValue, Sem.run_bind, Sem.run_pure, Result.andThen, List.map_toArray, List.map_cons, List.map_nil]
 simp only [Array.map, List.map] at *
 simpa [invoke] using hy
section
variable {C : Cfg} {G : Gd} {rec : FuncId → List DV → Hp → aK} {n : Nat} {I : ItC} {N : Nat}
def nI (f : FuncId) (tmps : Array Value) (p : Tmp) (x y : Code) (D : Nat) (st : LoopState) (pe : Option Code) : Loop := { state := st, pending := pe, fn := f, tmps := tmps, params := #[p], assign := x, body := y, defers := D }
theorem Iv.put {ρ : cM} {w0 : World} {D l : Nat} {rc : Loop} {ρ' : cM} {h : Hp} {W : World} (v : Iv G ρ w0 D l rc ρ' h W) (rc' : Loop) (hD : D ≠ l) (hO : Own G l) (hs : ∀ k, G.X k → k < w0.heap.size) (hB : G.B ≤ w0.heap.size) : Iv G ρ w0 D l rc' ρ' h (W.putObj l (.loop rc')) where
 ex := v.ex
 hr := v.hr.putX hO.1 (.inr rfl) v.hl rfl rfl
 kp := v.kp.putX hO hs hB v.hl
 hl := World.putObj_heap_same (Array.getElem?_eq_some_iff.1 v.hl).1
 hD := by rw [World.putObj_heap_other hD]; exact v.hD
def QI (G : Gd) (ρ : cM) (w0 : World) (D l nt : Nat) (rc : LoopState → Option Code → Loop) (env : aV) (X : Nat → K) (kr k : K) (r : DV × Hp) : Exit → Act → World → Prop
 | .normal, a, w => SS G ρ w0 D l (rc .ready none) [] nt (fun _ h => k env h) r a w
 | .ret, a, w => ∃ c J, ((c = .ret ∧ J = kr) ∨ ∃ i, c = .exit i ∧ J = X i) ∧ SS G ρ w0 D l (rc .done (some c)) [] nt (fun _ h => J env h) r a w
 | _, _, _ => False
theorem ItC.ops_size (I : ItC) : I.ops.size = I.front.length + (I.back.length + 1) := by simp [ItC.ops]
theorem ItC.ops_front (I : ItC) (j : Nat) (h : j < I.front.length) : I.front[j]? = I.ops[0 + j]? := by
 simp [ItC.ops, List.getElem?_append_left h]
theorem ItC.ops_y (I : ItC) : I.ops[I.front.length]? = some I.y := by simp [ItC.ops]
theorem ItC.ops_back (I : ItC) (j : Nat) (h : j < I.back.length) : I.back[j]? = I.ops[I.front.length + 1 + j]? := by
 simp only [ItC.ops, List.getElem?_toArray]
 rw [List.getElem?_append_right (by omega), show I.front.length + 1 + j - I.front.length = j + 1 by omega, List.getElem?_cons_succ]
theorem ItC.ops_range (I : ItC) : List.range I.ops.size = List.range' 0 I.front.length ++ I.front.length :: (List.range' (I.front.length + 1) I.back.length ++ []) := by
 rw [I.ops_size, List.range_eq_range', ← List.range'_append_1, List.append_nil, Nat.zero_add, List.range'_succ]
section
variable {ρ : cM} {w0 : World} {D l : Nat} {nt : Nat} {p : Tmp} {x y : Code} {f0 : FuncId} {a0 : Act} {env : aV} {X : Nat → Dd.K} {kr k : Dd.K} {r : DV × Hp} {b : Pos}
theorem bNj (K : OkC C rec) (hm : C.P.follows .mixedOrders = true) (iOk : ItOk C.P I) {rc : LoopState → Option Code → Loop} {kk : Dd.K} {Qr : Exit → Act → World → Prop} (hQr : ¬ LetsOut Qr)
  (ih : ∀ a W, SS G ρ w0 D l (rc .ready none) [] I.nt kk r a W → Qr .normal a W) {a : Act} {W : World}
  (h : SS G ρ w0 D l (rc .ready none) [] I.nt (gV C rec I.nt I.ops I.back (aM C rec I.nt n I.after jY cJ (aM C rec I.nt n I.post jY cJ (aM C rec I.nt n I.step jY cJ kk)))) r a W) :
  wpOpsIn (Fw none) N C.P I.ops (Exit.then (I.after.wpIn (Fw none) N C.P (Exit.then (I.post.wpIn (Fw none) N C.P (Exit.inBlock I.b1 (Exit.then (I.step.wpIn (Fw none) N C.P Qr) Qr))) (Exit.inBlock I.b1 (Exit.then (I.step.wpIn (Fw none) N C.P Qr) Qr)))) (Exit.then (I.post.wpIn (Fw none) N C.P (Exit.inBlock I.b1 (Exit.then (I.step.wpIn (Fw none) N C.P Qr) Qr))) (Exit.inBlock I.b1 (Exit.then (I.step.wpIn (Fw none) N C.P Qr) Qr))))
   (List.range' (I.front.length + 1) I.back.length ++ []) a W := by
 refine aXv K iOk.ops I.back (I.front.length + 1) (fun j hj => I.ops_back j hj) ?_ h [] fun a1 W1 h1 => ?_
 ·rintro ⟨a, w, q⟩
  exact hQr ⟨a, w, q⟩
 show I.after.wpIn (Fw none) N C.P _ a1 W1
 refine wpIn_mono (jV K hm I.after iOk.after h1) fun e a2 W2 hq => ?_
 cases e with
 | normal =>
  show I.post.wpIn (Fw none) N C.P _ a2 W2
  refine wpIn_mono (jV K hm I.post iOk.post hq) fun e a3 W3 hq => ?_
  cases e with
  | normal =>
   show I.step.wpIn (Fw none) N C.P Qr a3 W3
   refine wpIn_mono (jV K hm I.step iOk.step hq) fun e a4 W4 hq => ?_
   cases e with
   | normal => exact ih a4 W4 hq
   | exit id => obtain ⟨_, _, _, _, _, _, _, q⟩ := hq; cases q
   | ret => obtain ⟨_, _, _, _, _, _, _, q⟩ := hq; cases q
   | goto l => exact hq.elim
   | panic ch => exact hq.elim
   | outgrown => exact hq.elim
  | exit id => obtain ⟨_, _, _, _, _, _, _, q⟩ := hq; cases q
  | ret => obtain ⟨_, _, _, _, _, _, _, q⟩ := hq; cases q
  | goto l => exact hq.elim
  | panic ch => exact hq.elim
  | outgrown => exact hq.elim
 | exit id => obtain ⟨_, _, _, _, _, _, _, q⟩ := hq; cases q
 | ret => obtain ⟨_, _, _, _, _, _, _, q⟩ := hq; cases q
 | goto l => exact hq.elim
 | panic ch => exact hq.elim
 | outgrown => exact hq.elim
theorem zM (K : OkC C rec) (hm : C.P.follows .mixedOrders = true) (iOk : ItOk C.P I) {rc : Loop} {J : Dd.K} {Qr : Exit → Act → World → Prop} (hQr : ¬ LetsOut Qr)
  (ih : ∀ a W, SS G ρ w0 D l rc [] I.nt J r a W → Qr .ret a W) {a : Act} {W : World}
  (h : SS G ρ w0 D l rc [] I.nt (gV C rec I.nt I.ops I.back (aM C rec I.nt n I.after jY J cJ)) r a W) :
  wpOpsIn (Fw none) N C.P I.ops (Exit.then (I.after.wpIn (Fw none) N C.P (Exit.then (I.post.wpIn (Fw none) N C.P (Exit.inBlock I.b1 (Exit.then (I.step.wpIn (Fw none) N C.P Qr) Qr))) (Exit.inBlock I.b1 (Exit.then (I.step.wpIn (Fw none) N C.P Qr) Qr)))) (Exit.then (I.post.wpIn (Fw none) N C.P (Exit.inBlock I.b1 (Exit.then (I.step.wpIn (Fw none) N C.P Qr) Qr))) (Exit.inBlock I.b1 (Exit.then (I.step.wpIn (Fw none) N C.P Qr) Qr))))
   (List.range' (I.front.length + 1) I.back.length ++ []) a W := by
 refine aXv K iOk.ops I.back (I.front.length + 1) (fun j hj => I.ops_back j hj) ?_ h [] fun a1 W1 h1 => ?_
 ·rintro ⟨a, w, q⟩
  exact hQr ⟨a, w, q⟩
 show I.after.wpIn (Fw none) N C.P _ a1 W1
 refine wpIn_mono (jV K hm I.after iOk.after h1) fun e a2 W2 hq => ?_
 cases e with
 | normal => obtain ⟨_, _, _, _, _, _, _, q⟩ := hq; cases q
 | exit id => obtain ⟨_, _, _, _, _, _, _, q⟩ := hq; cases q
 | ret => exact ih a2 W2 hq
 | goto l => exact hq.elim
 | panic ch => exact hq.elim
 | outgrown => exact hq.elim
end
end
end Go.Dd

namespace Go.Dd
open Go.RowKit (Below)
section
variable {C : Cfg} {G : Gd} {rec : FuncId → List DV → Hp → aK} {n : Nat} {I : ItC} {N : Nat}
variable {ρ : cM} {w0 : World} {D l : Nat} {nt : Nat} {p : Tmp} {x y : Code} {f0 : FuncId} {a0 : Act} {env : aV} {X : Nat → Dd.K} {kr k : Dd.K} {r : DV × Hp} {b : Pos}
noncomputable def aRx (C : Cfg) (rec : FuncId → List DV → Hp → aK) (n : Nat) (I : ItC) (nt : Nat) (p : Tmp) (x y : Code) (env : aV) (X : Nat → K) (kr k : K) (b : Pos) (kk : K) : K :=
 aM C rec I.nt n I.test (fun j => bif Nat.beq j I.b0 then (fun _ h => k env h) else cJ) cJ
  (gV C rec I.nt I.ops I.front (fun e1 h1 => cnd (ylB (e1 I.yt) b) (aIh C rec n I nt p x y env X kr kk e1 h1)))
theorem dSi {v : DV} {b : Pos} (h : ylB v b = true) : v = .yl b := by
 unfold ylB at h
 split at h
 ·rename_i b'
  have : b' = b := by simpa using h
  rw [this]
 ·cases h
theorem pP {c : Bool} {q : aK} {z : DV × Hp} (h : cnd c q = some z) : c = true ∧ q = some z := by
 cases c with
 | false => cases h
 | true => exact ⟨rfl, h⟩
theorem Iv.base {rc : Loop} {ρ' : cM} {h : Hp} {W : World} (v : Iv G ρ w0 D l rc ρ' h W) : Iv G ρ' w0 D l rc ρ' h W := ⟨Ex.refl _ _, v.hr, v.kp, v.hl, v.hD⟩
theorem Iv.up {rc : Loop} {ρ' ρ2 : cM} {h : Hp} {W : World} (v : Iv G ρ' w0 D l rc ρ2 h W) (e : Ex G ρ ρ') : Iv G ρ w0 D l rc ρ2 h W := ⟨e.trans v.ex, v.hr, v.kp, v.hl, v.hD⟩
theorem SS.out {rc : Loop} {ds : List Deferred} {nt : Nat} {a : Act} {W : World} (h : SS G ρ w0 D l rc ds nt cJ r a W) : False := by
 obtain ⟨_, _, _, _, _, _, _, q⟩ := h
 cases q
theorem cTi (K : OkC C rec) (hm : C.P.follows .mixedOrders = true) (iOk : ItOk C.P I) (hx : dR x = true) (hy : dR y = true) (hDl : D ≠ l) (hOl : Own G l) (hs : ∀ k, G.X k → k < w0.heap.size) (hB : G.B ≤ w0.heap.size)
  (hb : ρ b = some ⟨l, 0, 0, none⟩) (he0 : EnvR ρ env a0) (hnt0 : nt ≤ a0.tmps.size) :
  ∀ (m : Nat) (a : Act) (W : World), SS G ρ w0 D l (nI f0 a0.tmps p x y D .ready none) [] I.nt (aL (aRx C rec n I nt p x y env X kr k b) m) r a W →
   Code.roundsIn (Fw none) N C.P I.round (Exit.inBlock I.b0 (QI G ρ w0 D l I.nt (nI f0 a0.tmps p x y D) env X kr k r)) m a W := by
 intro m
 induction m with
 | zero => intro a W h; exact h.out.elim
 | succ m ih =>
  intro a W h
  rw [roundsIn_succ]
  change SS G ρ w0 D l _ [] I.nt (aRx C rec n I nt p x y env X kr k b (aL (aRx C rec n I nt p x y env X kr k b) m)) r a W at h
  refine wpIn_seq (wpIn_mono (jV K hm I.test iOk.test h) fun e a1 W1 hq => ?_)
  cases e with
  | exit id =>
   obtain ⟨ρ', e', h', v, h2, h3, h4, h5⟩ := hq
   dsimp only at h5
   show Exit.inBlock I.b0 (QI G ρ w0 D l I.nt (nI f0 a0.tmps p x y D) env X kr k r) (.exit id) a1 W1
   cases hid : Nat.beq id I.b0 with
   | false => rw [hid] at h5; cases h5
   | true =>
    rw [hid] at h5
    have e0 : id = I.b0 := Nat.eq_of_beq_eq_true hid
    unfold Exit.inBlock
    simp only
    rw [if_pos e0]
    exact ⟨ρ', e', h', v, h2, h3, h4, h5⟩
  | ret => exact (SS.out hq).elim
  | goto l => exact hq.elim
  | panic ch => exact hq.elim
  | outgrown => exact hq.elim
  | normal =>
   have hQr : ¬ LetsOut (Exit.then (Code.roundsIn (Fw none) N C.P I.round (Exit.inBlock I.b0 (QI G ρ w0 D l I.nt (nI f0 a0.tmps p x y D) env X kr k r)) m) (Exit.inBlock I.b0 (QI G ρ w0 D l I.nt (nI f0 a0.tmps p x y D) env X kr k r))) := fun ⟨_, _, q⟩ => q
   show (Code.seq _ _).wpIn (Fw none) N C.P _ a1 W1
   refine wpIn_seq (wpIn_block (wpIn_seq (wpIn_seq (wpIn_region ?_))))
   rw [I.ops_range]
   refine aXv K iOk.ops I.front 0 (fun j hj => I.ops_front j hj) ?_ hq _ fun a2 W2 h2 => ?_
   ·rintro ⟨_, _, q⟩
    exact q
   obtain ⟨ρ', e1, h1, v, he, hnt, hd, hk⟩ := h2
   obtain ⟨hyl, hk⟩ := pP hk
   obtain ⟨hfp, hk⟩ := pP hk
   have hyv := he I.yt
   rw [dSi hyl] at hyv
   obtain ⟨L, hL, hyv'⟩ : ∃ L, ρ' b = some L ∧ a2.tmps.getD I.yt undef = .func (.yield L.bl) #[] #[] := by
    generalize hz : a2.tmps.getD I.yt undef = z at hyv
    cases hyv with
    | yl _ L h => exact ⟨L, h, rfl⟩
   rw [v.ex.ext _ _ hb] at hL
   cases hL
   obtain ⟨tys, hop⟩ := iOk.op
   have hrun := bJs (P := C.P) (a := a2) (W := W2) hop hyv' v.hl rfl
   rw [wpOpsIn_cons]
   unfold wpOpIn
   rw [I.ops_y]
   have hw : Region.wanted I.y (yielded I.ops a2.tmps) = true := by simp [Region.wanted, iOk.guard]
   simp only [hw, if_true]
   refine ⟨fun _ _ => trivial, ?_⟩
   show I.y.uponIn (Fw none) N C.P a2 _ _ ((execOp a2.eval I.y).run C.P W2)
   rw [hrun]
   refine ⟨fun e => (by cases e), roundIn_of_wpIn (F := Fw none) trivial ?_⟩
   have put : ∀ (rc' : Loop) {ρ1 ρ2 : cM} {h2 : Hp} {W3 : World} {rc : Loop}, Iv G ρ1 w0 D l rc ρ2 h2 W3 → Iv G ρ1 w0 D l rc' ρ2 h2 (W3.putObj l (.loop rc')) := fun rc' _ _ _ _ _ v => v.put rc' hDl hOl hs hB
   have hass : SS G ρ' w0 D l (nI f0 a0.tmps p x y D .ready none) [] nt (aM C rec nt n x jY cJ (aM C rec nt n y
     (fun i _ h2 => pB C rec n I false (fun _ h3 => X i env h3) cJ e1 h2)
     (fun _ h2 => pB C rec n I false (fun _ h3 => kr env h3) cJ e1 h2)
     (fun _ h2 => pB C rec n I true cJ (aM C rec I.nt n I.post jY cJ (aM C rec I.nt n I.step jY cJ (aL (aRx C rec n I nt p x y env X kr k b) m))) e1 h2))) r
     { tmps := a0.tmps.setIfInBounds p (a2.eval (.tmp I.yx)), defers := [] } W2 :=
    ⟨ρ', bP env (some p) (e1 I.yx), h1, v.base, (he0.mono v.ex.ext).put (fun _ _ h => h) (he I.yx) hfp hnt0, by simpa using hnt0, rfl, hk⟩
   refine wpIn_mono (jV (ro := some l) K hm x hx hass) fun e a3 W3 hq => ?_
   cases e with
   | exit id => exact (SS.out hq).elim
   | ret => exact (SS.out hq).elim
   | goto l => exact hq.elim
   | panic ch => exact hq.elim
   | outgrown => exact hq.elim
   | normal =>
    obtain ⟨ρ3, e3, h3, v3, he3, hnt3, hd3, hk3⟩ := hq
    refine ⟨_, run_beginRound v3.hl rfl, ?_⟩
    have v4 := put (nI f0 a0.tmps p x y D .busy none) v3
    have key : ∀ (bb : Bool) (kr' k' : Dd.K) {ρ5 : cM} {h5 : Hp} {W5 : World} {rc : Loop}, Iv G ρ w0 D l rc ρ5 h5 W5 → Ext ρ' ρ5 → pB C rec n I bb kr' k' e1 h5 = some r →
      SS G ρ w0 D l rc [] I.nt (gV C rec I.nt I.ops I.back (aM C rec I.nt n I.after jY kr' k')) r (a2.put (some I.yd) (.bool bb)) W5 := by
     intro bb kr' k' ρ5 h5 W5 rc v5 hext hbk
     obtain ⟨hf5, hk5⟩ := pP hbk
     exact ⟨ρ5, _, h5, v5, he.put hext (.b bb) hf5 hnt, by rw [kY]; exact hnt, by rw [iH]; exact hd, hk5⟩
    refine wpIn_mono (jV (ro := some l) K hm y hy ⟨ρ3, e3, h3, v4, he3, hnt3, hd3, hk3⟩) fun e a5 W5 hq => ?_
    cases e with
    | normal =>
     obtain ⟨ρ5, e5, h5, v5, he5, hnt5, hd5, hk5⟩ := hq
     refine ⟨_, _, run_endRound none v5.hl, ?_⟩
     show wpOpsIn (Fw none) N C.P I.ops _ _ (a2.put I.y.dst (.bool true)) _
     rw [iOk.dst]
     exact bNj K hm iOk hQr (fun a W h => ih a W h) (key true _ _ ((put (nI f0 a0.tmps p x y D .ready none) v5).up v.ex) v5.ex.ext hk5)
    | exit i =>
     obtain ⟨ρ5, e5, h5, v5, he5, hnt5, hd5, hk5⟩ := hq
     refine ⟨_, _, run_endRound (some (.exit i)) v5.hl, ?_⟩
     show wpOpsIn (Fw none) N C.P I.ops _ _ (a2.put I.y.dst (.bool false)) _
     rw [iOk.dst]
     exact zM K hm iOk hQr (fun a W h => ⟨_, X i, .inr ⟨i, rfl, rfl⟩, h⟩) (key false _ _ ((put (nI f0 a0.tmps p x y D .done (some (.exit i))) v5).up v.ex) v5.ex.ext hk5)
    | ret =>
     obtain ⟨ρ5, e5, h5, v5, he5, hnt5, hd5, hk5⟩ := hq
     refine ⟨_, _, run_endRound (some .ret) v5.hl, ?_⟩
     show wpOpsIn (Fw none) N C.P I.ops _ _ (a2.put I.y.dst (.bool false)) _
     rw [iOk.dst]
     exact zM K hm iOk hQr (fun a W h => ⟨_, kr, .inl ⟨rfl, rfl⟩, h⟩) (key false _ _ ((put (nI f0 a0.tmps p x y D .done (some .ret)) v5).up v.ex) v5.ex.ext hk5)
    | goto l => exact hq.elim
    | panic ch => exact hq.elim
    | outgrown => exact hq.elim
end
end Go.Dd

namespace Go.Dd
open Go.RowKit (Below)
section
variable {C : Cfg} {G : Gd} {rec : FuncId → List DV → Hp → aK} {n : Nat} {I : ItC} {N : Nat}
theorem aIc {P : Program} {fn : Func} (h : fn.results = #[]) (tmps : Array Value) (w : World) : ∃ v, (results fn tmps).run P w = .ok v w := by
 rw [nY, h]
 exact ⟨.tuple #[], by simp [go_sem]⟩
theorem cJr (K : OkC C rec) (hm : C.P.follows .mixedOrders = true) (iOk : ItOk C.P I) {DD : List Deferred} {nt : Nat} {ρ : cM} {w0 : World} {g : Operand} {p : Tmp} {x y : Code} (hx : dR x = true) (hy : dR y = true)
  {X : Nat → Dd.K} {kr k : Dd.K} {r : DV × Hp} {a : Act} {w : World} (h : St DD G nt ρ w0 (mQ C rec n I nt g p x y X kr k) r a w) :
  (Code.rangeFunc g #[p] x y).wpIn (Fw none) N C.P (QM DD G nt ρ w0 X kr k r) a w := by
 obtain ⟨ρ1, env, h0, e1, H, he, kp, hnt, hd, hk⟩ := h
 unfold mQ at hk
 split at hk <;> (try (cases hk; done))
 rename_i gf cap hg
 obtain ⟨hgf, hk2⟩ := pP hk
 clear hk
 have hgf' : gf = I.gf := Nat.eq_of_beq_eq_true hgf
 subst hgf'
 have hv := bF he g
 rw [hg] at hv
 obtain ⟨lb, hlb, hge⟩ : ∃ lb, VRs ρ1 cap lb.toList ∧ a.eval g = .func (.func I.gf) #[] lb := by
  generalize a.eval g = z at hv
  cases hv with
  | f _ _ _ x' y' h1 h2 =>
   refine ⟨y', h2, ?_⟩
   have : x' = #[] := by
    obtain ⟨q⟩ := x'
    cases h1
    rfl
   rw [this]
 obtain ⟨fnI, hf, hb, hntI, hres, hname⟩ := iOk.fn
 refine wpIn_rangeFunc ?_
 intro fn _
 obtain ⟨W1, hW1⟩ : ∃ W1, (w.alloc (.deferred (some []))).alloc (.loop (nI fn a.tmps p x y w.heap.size .ready none)) = W1 := ⟨_, rfl⟩
 have hL1 : W1.heap[w.heap.size + 1]? = some (.loop (nI fn a.tmps p x y w.heap.size .ready none)) := by
  rw [← hW1]
  have := World.alloc_heap_new (w.alloc (.deferred (some []))) (.loop (nI fn a.tmps p x y w.heap.size .ready none))
  rwa [World.size_alloc] at this
 have hD1 : W1.heap[w.heap.size]? = some (.deferred (some [])) := by
  rw [← hW1]
  exact (Below.heap_alloc _ _ _ (by simp)).trans (World.alloc_heap_new w _)
 obtain ⟨iargs, hia⟩ : ∃ iargs : Array Value, #[Value.func (.yield (w.heap.size + 1)) #[] #[]] ++ lb = iargs := ⟨_, rfl⟩
 refine ⟨w.heap.size + 1, [{ target := .collected w.heap.size, args := #[] }], W1, { target := .fn (.func I.gf) lb, args := #[Value.func (.yield (w.heap.size + 1)) #[] #[]] }, W1, I.gf,
  iargs, W1, ?_, ?_, fun _ _ => trivial, ?_, fun e => (by cases e), ?_⟩
 ·rw [← hW1]
  exact run_enterLoop_outer _ _ _ _ _
 ·simp only [resolve, hge]
  simp [go_sem]
 ·have hn : ¬ fnI.name = "runtime.NumGoroutine" := by simpa using hname
  unfold invoke
  simp only
  rw [hia]
  unfold callFunc
  simp [hf, hn, hb]
 ·
  have hno : ∀ b : Pos, h0.next.toNat ≤ b.toNat → ρ1 b = none := fun b hb => by
   cases e : ρ1 b with
   | none => rfl
   | some L => have := H.lt b L e; omega
  obtain ⟨n1, n2⟩ := sD 2 h0
  have hN2 : (resv 2 h0).next.toNat = h0.next.toNat + 2 := by rw [n1, dK]
  have hsucc := ePa h0.next
  have H1 := H.reserve 2
  have H2 := H1.earlyO (b := h0.next.succ) (hno _ (by omega)) (by omega) (.deferred (some []))
  have hne : h0.next ≠ h0.next.succ := fun e => by have := congrArg Pos.toNat e; omega
  have H3 := H2.earlyO (b := h0.next) (by rw [aY _ _ hne]; exact hno _ (Nat.le_refl _)) (by omega) (.loop (nI fn a.tmps p x y w.heap.size .ready none))
  rw [hW1] at H3
  obtain ⟨ρ2, hρ2⟩ : ∃ ρ2, lV (lV ρ1 h0.next.succ ⟨w.heap.size, 0, 0, none⟩) h0.next ⟨(w.alloc (.deferred (some []))).heap.size, 0, 0, none⟩ = ρ2 := ⟨_, rfl⟩
  rw [hρ2] at H3
  have hb2 : ρ2 h0.next = some ⟨w.heap.size + 1, 0, 0, none⟩ := by rw [← hρ2, cD, World.size_alloc]
  have ex2 : Ex G ρ1 ρ2 := by
   refine ⟨fun b L hL => ?_, fun b L hL => ?_⟩
   ·have h1 : b ≠ h0.next := fun e => by rw [e, hno _ (Nat.le_refl _)] at hL; cases hL
    have h2 : b ≠ h0.next.succ := fun e => by rw [e, hno _ (by omega)] at hL; cases hL
    rw [← hρ2, aY _ _ h1, aY _ _ h2]
    exact hL
   ·have hx := H.nx
    by_cases h1 : b = h0.next
    ·exact .inr (by rw [h1]; exact hx)
    ·by_cases h2 : b = h0.next.succ
     ·exact .inr (by rw [h2]; omega)
     ·rw [← hρ2, aY _ _ h1, aY _ _ h2] at hL
      exact .inl hL
  have H4 : HR (GD (GD G w.heap.size) (w.heap.size + 1)) ρ2 (resv 2 h0) W1 := H3.weak rfl (fun k hk => by rw [World.size_alloc]; exact hk) (by have := H.nx; show G.N ≤ (resv 2 h0).next.toNat; omega) rfl
  have kp1 : Kp G w W1 := by
   rw [← hW1]
   refine (dT H.sz _).trans (dT ⟨?_, fun k hk => ?_⟩ _)
   ·have := H.sz.1; simp; omega
   ·have := H.sz.2 k hk; simp; omega
  have hOD : Own G w.heap.size := ⟨H.sz.1, fun hX => Nat.lt_irrefl _ (H.sz.2 _ hX)⟩
  have hOl : Own G (w.heap.size + 1) := ⟨by have := H.sz.1; omega, fun hX => by have := H.sz.2 _ hX; omega⟩
  have hbody : I.code.wpIn (Fw none) (N - 1) C.P (QI G ρ2 w w.heap.size (w.heap.size + 1) I.nt (nI fn a.tmps p x y w.heap.size) env X kr k r)
    { tmps := iargs ++ Array.replicate (fnI.ntmps - iargs.size) undef, defers := [] } W1 := by
   have hargs : VRs ρ2 (.yl h0.next :: cap) iargs.toList := by
    rw [← hia]
    have := VRs.cons (ρ := ρ2) _ _ _ _ (.yl h0.next _ hb2) (hlb.mono ex2.ext)
    simpa using this
   have hss : SS G ρ2 w w.heap.size (w.heap.size + 1) (nI fn a.tmps p x y w.heap.size .ready none) [] I.nt
     (aM C rec I.nt n I.pre jY cJ (aL (aRx C rec n I nt p x y env X kr k h0.next) n)) r
     { tmps := iargs ++ Array.replicate (fnI.ntmps - iargs.size) undef, defers := [] } W1 :=
    ⟨ρ2, _, _, ⟨Ex.refl _ _, H4, kp1, hL1, hD1⟩, aPg hargs _ _, by rw [hntI]; simp; omega, rfl, hk2⟩
   refine wpIn_seq (wpIn_mono (jV K hm I.pre iOk.pre hss) fun e a1 W2 hq => ?_)
   cases e with
   | exit id => exact (SS.out hq).elim
   | ret => exact (SS.out hq).elim
   | goto l => exact hq.elim
   | panic ch => exact hq.elim
   | outgrown => exact hq.elim
   | normal =>
    show (Code.block I.b0 (.loop I.round)).wpIn (Fw none) (N - 1) C.P _ a1 W2
    exact wpIn_block (wpIn_loop_rounds n (cTi K hm iOk hx hy (by omega) hOl H.sz.2 H.sz.1 hb2 (he.mono ex2.ext) hnt n a1 W2 hq))
  refine callsIn_of_wp hf hb trivial (wpIn_mono hbody fun e a' W' hq => ?_)
  have fin : ∀ (rc : Loop) (J : Dd.K), rc.state ≠ .busy → SS G ρ2 w w.heap.size (w.heap.size + 1) rc [] I.nt (fun _ h => J env h) r a' W' →
    a'.defers = [] ∧ (Instr.endLoop (w.heap.size + 1)).run C.P W' = .ok rc.pending (W'.putObj (w.heap.size + 1) (.loop { rc with state := .exhausted })) ∧
    StM DD G nt ρ w0 J r { a with defers := [{ target := .collected w.heap.size, args := #[] }] ++ a.defers } (W'.putObj (w.heap.size + 1) (.loop { rc with state := .exhausted })) := by
   rintro rc J hst ⟨ρ', e', h', v, _, _, hd', hk'⟩
   have v' := v.put { rc with state := .exhausted } (by omega) hOl H.sz.2 H.sz.1
   refine ⟨hd', run_endLoop v.hl hst, w.heap.size, ρ', env, h', e1.trans (ex2.trans v.ex), v'.hr.weak rfl (fun k hk => .inl hk) (Nat.le_refl _) rfl, he.mono (ex2.trans v.ex).ext, kp.trans v'.kp, hnt, ?_, hOD, v'.hD, hk'⟩
   rw [← hd]
   rfl
  obtain ⟨vv, hvv⟩ := aIc (P := C.P) hres a'.tmps W'
  cases e with
  | normal =>
   obtain ⟨q1, q2, q3⟩ := fin _ k (by intro e; cases e) hq
   exact ⟨q1, vv, hvv, _, _, q2, q3⟩
  | ret =>
   obtain ⟨c, J, hcj, hss⟩ := hq
   obtain ⟨q1, q2, q3⟩ := fin _ J (by intro e; cases e) hss
   refine ⟨q1, vv, hvv, _, _, q2, ?_⟩
   rcases hcj with ⟨rfl, rfl⟩ | ⟨i, rfl, rfl⟩
   ·exact wpIn_ret q3
   ·exact wpIn_exit q3
  | exit id => exact hq.elim
  | goto l => exact hq.elim
  | panic ch => exact hq.elim
  | outgrown => exact hq.elim
end
end Go.Dd

namespace Go.Dd
open Go.RowKit (Below)
noncomputable def dKo (ps : Array Tmp) (k : Tmp → K) : K := match ps.toList with
 | [p] => k p
 | _ => cJ
section
variable (C : Cfg) (rec : FuncId → List DV → Hp → aK) (nt n : Nat) (I : ItC)
noncomputable def nP (c : Code) : (Nat → K) → K → K → K :=
 Code.rec (motive := fun _ => (Nat → K) → K → K → K)
  (fun _ _ k => k)
  (fun _ ops dr _ _ k => Bool.rec (motive := fun _ => K) (gV C rec nt ops ops.toList k) (Bool.rec (motive := fun _ => K) cJ (iE C rec nt ops k) (eJ C.P ops)) dr)
  (fun _ _ iha ihb X kr k => iha X kr (ihb X kr k))
  (fun c _ _ iha ihb X kr k => fun env h => aU (opr env c) (iha X kr k env h) (ihb X kr k env h))
  (fun id _ ih X kr k => ih (fun j => bif Nat.beq j id then k else X j) kr k)
  (fun _ ih X kr _ => aL (fun kk => ih X kr kk) n)
  (fun g ps x y _ _ X kr k => dKo ps fun p => mQ C rec n I nt g p x y X kr k)
  (fun id X _ _ => X id)
  (fun _ _ _ _ _ => cJ)
  (fun _ _ _ _ => cJ)
  (fun _ _ _ _ => cJ)
  (fun _ kr _ => kr)
  (fun _ _ _ _ => cJ) c
noncomputable def iY (f : FuncId) (args : List DV) (h : Hp) : aK :=
 match C.P.funcs[f]? with
 | some fn => match fn.body with
  | some c => nP C rec fn.ntmps n I c (fun _ => cJ) (aR C fn) (aR C fn) (aJ args) h
  | none => none
 | none => none
end
def gO : Code → Bool
 | .skip => true
 | .region _ ops _ => ops.toList.all fX
 | .seq x y => gO x && gO y
 | .cond _ x y => gO x && gO y
 | .block _ x => gO x
 | .loop x => gO x
 | .rangeFunc _ _ x y => dR x && dR y
 | .exit _ => true
 | .ret => true
 | _ => false
def GDs (G : Gd) (Ds : List Nat) : Gd := ⟨G.B, fun k => G.X k ∨ k ∈ Ds, G.N, G.W, G.ok⟩
def mkD (D : Nat) : Deferred := { target := .collected D, args := #[] }
theorem Ex.ofGDs {G : Gd} {Ds : List Nat} {ρ ρ' : cM} (h : Ex (GDs G Ds) ρ ρ') : Ex G ρ ρ' := ⟨h.ext, h.new⟩
theorem Kp.ofGDs {G : Gd} {Ds : List Nat} {w w' : World} (h : Kp (GDs G Ds) w w') : Kp G w w' := ⟨h.low, fun k hk => h.ex k (.inl hk)⟩
section
variable {C : Cfg} {G : Gd} {rec : FuncId → List DV → Hp → aK} {nt n : Nat} {I : ItC}
def StL (G : Gd) (nt : Nat) (ρ : cM) (w0 : World) (k : K) (r : DV × Hp) (a : Act) (w : World) : Prop :=
 ∃ Ds ρ' env h, Ex G ρ ρ' ∧ HR (GDs G Ds) ρ' h w ∧ EnvR ρ' env a ∧ Kp G w0 w ∧ nt ≤ a.tmps.size ∧ a.defers = Ds.map mkD ∧ Ds.Nodup ∧ (∀ D ∈ Ds, Own G D ∧ w.heap[D]? = some (.deferred (some []))) ∧ k env h = some r
def QL (G : Gd) (nt : Nat) (ρ : cM) (w0 : World) (X : Nat → K) (kr k : K) (r : DV × Hp) : Exit → Act → World → Prop
 | .normal, a, w => StL G nt ρ w0 k r a w
 | .exit id, a, w => StL G nt ρ w0 (X id) r a w
 | .ret, a, w => StL G nt ρ w0 kr r a w
 | _, _, _ => False
theorem cBv {N : Nat} (K : OkC C rec) (hm : C.P.follows .mixedOrders = true) (iOk : ItOk C.P I) {ρ : cM} {w0 : World} {r : DV × Hp} : ∀ (c : Code), gO c = true → ∀ (X : Nat → Dd.K) (kr k : Dd.K) (a : Act) (w : World),
  StL G nt ρ w0 (nP C rec nt n I c X kr k) r a w → c.wpIn (Fw none) N C.P (QL G nt ρ w0 X kr k r) a w := by
 have plain : ∀ (c : Code), dR c = true → ∀ (X : Nat → Dd.K) (kr k : Dd.K) (a : Act) (w : World), StL G nt ρ w0 (aM C rec nt n c X kr k) r a w → c.wpIn (Fw none) N C.P (QL G nt ρ w0 X kr k r) a w := by
  rintro c hc X kr k a w ⟨Ds, ρ', env, h, e1, e2, e3, e4, e5, e6, e7, e8, e9⟩
  have back : ∀ (J : Dd.K) (a' : Act) (w' : World), St (Ds.map mkD) (GDs G Ds) nt ρ' w J r a' w' → StL G nt ρ w0 J r a' w' := by
   rintro J a' w' ⟨ρ2, env2, h2, q1, q2, q3, q4, q5, q6, q7⟩
   exact ⟨Ds, ρ2, env2, h2, e1.trans q1.ofGDs, q2, q3, e4.trans q4.ofGDs, q5, q6, e7, fun D hD => ⟨(e8 D hD).1, by rw [q4.ex D (.inr hD)]; exact (e8 D hD).2⟩, q7⟩
  refine wpIn_mono (bAr (DD := Ds.map mkD) (G := GDs G Ds) (ρ := ρ') (w0 := w) K hm c hc X kr k a w ⟨ρ', env, h, Ex.refl _ _, e2, e3, Kp.refl _ _, e5, e6, e9⟩) fun e a' w' hq => ?_
  cases e with
  | normal => exact back _ _ _ hq
  | exit id => exact back _ _ _ hq
  | ret => exact back _ _ _ hq
  | goto l => exact hq
  | panic ch => exact hq
  | outgrown => exact hq
 intro c
 induction c with
 | skip => intro _ X kr k a w h; exact wpIn_skip h
 | region id ops dr => intro hpc X kr k a w h; exact plain (.region id ops dr) hpc X kr k a w h
 | seq x y ihx ihy =>
  intro hpc X kr k a w h
  simp only [gO, Bool.and_eq_true] at hpc
  refine wpIn_seq (wpIn_mono (ihx hpc.1 X kr (nP C rec nt n I y X kr k) a w h) fun e a' w' hq => ?_)
  cases e with
  | normal => exact ihy hpc.2 X kr k a' w' hq
  | exit id => exact hq
  | ret => exact hq
  | goto l => exact hq
  | panic ch => exact hq
  | outgrown => exact hq
 | cond c x y ihx ihy =>
  intro hpc X kr k a w h
  simp only [gO, Bool.and_eq_true] at hpc
  obtain ⟨Ds, ρ', env, hp, h1, h2, h3, h4, h5, h6, h8, h9, h7⟩ := h
  change aU (opr env c) (nP C rec nt n I x X kr k env hp) (nP C rec nt n I y X kr k env hp) = some r at h7
  have hc := bF h3 c
  unfold aU at h7
  split at h7 <;> (try (cases h7; done))
  ·rename_i hcb
   rw [hcb] at hc
   generalize hcv : a.eval c = cv at hc
   cases hc
   exact wpIn_cond_true hcv (ihx hpc.1 X kr k a w ⟨Ds, ρ', env, hp, h1, h2, h3, h4, h5, h6, h8, h9, h7⟩)
  ·rename_i hcb
   rw [hcb] at hc
   generalize hcv : a.eval c = cv at hc
   cases hc
   exact wpIn_cond_false hcv (ihy hpc.2 X kr k a w ⟨Ds, ρ', env, hp, h1, h2, h3, h4, h5, h6, h8, h9, h7⟩)
 | block id x ih =>
  intro hpc X kr k a w h
  refine wpIn_block (wpIn_mono (ih hpc (fun j => bif Nat.beq j id then k else X j) kr k a w h) fun e a' w' hq => ?_)
  cases e with
  | normal => exact hq
  | exit id' =>
   simp only [QL] at hq
   simp only [Exit.inBlock, QL]
   split
   ·rename_i e
    subst e
    have hb : Nat.beq id' id' = true := Nat.beq_refl id'
    rw [hb] at hq
    exact hq
   ·rename_i e
    have : Nat.beq id' id = false := by
     cases hb : Nat.beq id' id with
     | false => rfl
     | true => exact absurd (Nat.eq_of_beq_eq_true hb) e
    rw [this] at hq
    exact hq
  | ret => exact hq
  | goto l => exact hq
  | panic ch => exact hq
  | outgrown => exact hq
 | loop x ih =>
  intro hpc X kr k a w h
  have key : ∀ (m : Nat) (a : Act) (w : World), StL G nt ρ w0 (aL (fun kk => nP C rec nt n I x X kr kk) m) r a w → Code.roundsIn (Fw none) N C.P x (QL G nt ρ w0 X kr k r) m a w := by
   intro m
   induction m with
   | zero =>
    rintro a w ⟨Ds, ρ', env, hp, h1, h2, h3, h4, h5, h6, h8, h9, h7⟩
    cases h7
   | succ m ihm =>
    intro a w hs
    rw [roundsIn_succ]
    refine wpIn_mono (ih hpc X kr (aL (fun kk => nP C rec nt n I x X kr kk) m) a w hs) fun e a' w' hq => ?_
    cases e with
    | normal => exact ihm a' w' hq
    | exit id => exact hq
    | ret => exact hq
    | goto l => exact hq
    | panic ch => exact hq
    | outgrown => exact hq
  exact wpIn_loop_rounds n (key n a w h)
 | rangeFunc g ps x y ihx ihy =>
  intro hpc X kr k a w h
  simp only [gO, Bool.and_eq_true] at hpc
  obtain ⟨Ds, ρ', env, hp, h1, h2, h3, h4, h5, h6, h8, h9, h7⟩ := h
  change dKo ps (fun p => mQ C rec n I nt g p x y X kr k) env hp = some r at h7
  obtain ⟨p, hps, h7⟩ : ∃ p, ps = #[p] ∧ mQ C rec n I nt g p x y X kr k env hp = some r := by
   unfold dKo at h7
   obtain ⟨l⟩ := ps
   match l, h7 with
   | [p], h7 => exact ⟨p, rfl, h7⟩
   | [], h7 => cases h7
   | _ :: _ :: _, h7 => cases h7
  subst hps
  have back : ∀ (J : Dd.K) (a' : Act) (w' : World), StM (Ds.map mkD) (GDs G Ds) nt ρ' w J r a' w' → StL G nt ρ w0 J r a' w' := by
   rintro J a' w' ⟨D, ρ2, env2, h2, q1, q2, q3, q4, q5, q6, q7, q8, q9⟩
   have hn : D ∉ Ds := fun hD => q7.2 (.inr hD)
   refine ⟨D :: Ds, ρ2, env2, h2, h1.trans q1.ofGDs, q2.weak rfl (fun k hk => ?_) (Nat.le_refl _) rfl, q3, h4.trans q4.ofGDs, q5, q6, List.nodup_cons.2 ⟨hn, h8⟩, fun E hE => ?_, q9⟩
   ·rcases hk with hk | hk
    ·exact .inl (.inl hk)
    ·rcases List.mem_cons.1 hk with rfl | hk
     ·exact .inr rfl
     ·exact .inl (.inr hk)
   ·rcases List.mem_cons.1 hE with rfl | hE
    ·exact ⟨⟨q7.1, fun hX => q7.2 (.inl hX)⟩, q8⟩
    ·exact ⟨(h9 E hE).1, by rw [q4.ex E (.inr hE)]; exact (h9 E hE).2⟩
  refine wpIn_mono (cJr (DD := Ds.map mkD) (G := GDs G Ds) (ρ := ρ') (w0 := w) K hm iOk hpc.1 hpc.2 ⟨ρ', env, hp, Ex.refl _ _, h2, h3, Kp.refl _ _, h5, h6, h7⟩) fun e a' w' hq => ?_
  cases e with
  | normal => exact back _ _ _ hq
  | exit id => exact back _ _ _ hq
  | ret => exact back _ _ _ hq
  | goto l => exact hq
  | panic ch => exact hq
  | outgrown => exact hq
 | exit id => intro _ X kr k a w h; exact wpIn_exit h
 | ret => intro _ X kr k a w h; exact wpIn_ret h
 | _ => intro hpc; cases hpc
theorem bEz {N : Nat} {fn : Func} {ρ : cM} {w0 : World} {v : DV} {h1 : Hp} {a : Act} : ∀ (Ds : List Nat) (w : World), (∃ ρ' env h, Ex G ρ ρ' ∧ HR (GDs G Ds) ρ' h w ∧ EnvR ρ' env a ∧ Kp G w0 w ∧ aR C fn env h = some (v, h1)) →
  G.B ≤ w0.heap.size → (∀ k, G.X k → k < w0.heap.size) → Ds.Nodup → (∀ D ∈ Ds, Own G D ∧ w.heap[D]? = some (.deferred (some []))) →
  LeavesInM (Fw none) N C.P fn a.tmps (kS G ρ w0 v h1) (Ds.map mkD) .returning w
 | [], w, ⟨ρ', env, h, e1, e2, e3, e4, e5⟩, _, _, _, _ => by
  obtain ⟨rfl, v', r1, r2⟩ := aOr e2 e3 e5
  exact ⟨v', r1, ρ', v', rfl, e1, r2, e2.weak rfl (fun k hk => .inl hk) (Nat.le_refl _) rfl, e4⟩
 | D :: Ds, w, ⟨ρ', env, h, e1, e2, e3, e4, e5⟩, hB, hs, hnd, hD => by
  obtain ⟨o1, o2⟩ := hD D (by simp)
  have hnd' := List.nodup_cons.1 hnd
  refine ⟨by simp, .inl ⟨D, _, rfl, run_takeDeferred o2, ?_⟩⟩
  refine bEz Ds _ ⟨ρ', env, h, e1, (e2.putX (l := D) (o := .deferred (some [])) (o' := .deferred none) o1.1 (.inr (by simp)) o2 rfl rfl).weak rfl (fun k hk => ?_) (Nat.le_refl _) rfl, e3, e4.putX o1 hs hB o2, e5⟩ hB hs hnd'.2 fun E hE => ?_
  ·rcases hk with hk | hk
   ·exact .inl hk
   ·exact .inr (List.mem_cons_of_mem _ hk)
  ·have hne : E ≠ D := fun e => hnd'.1 (by rw [← e]; exact hE)
   exact ⟨(hD E (List.mem_cons_of_mem _ hE)).1, by rw [World.putObj_heap_other hne]; exact (hD E (List.mem_cons_of_mem _ hE)).2⟩
theorem bVd (K : OkC C rec) (hP : POk C.P) (iOk : ItOk C.P I) (n : Nat) (f : FuncId) (hc : ∀ fn c, C.P.funcs[f]? = some fn → fn.body = some c → gO c = true) : jQ C.P G f (iY C rec n I f) := by
 intro args h v h1 hr ρ w args' H hargs
 unfold iY at hr
 split at hr <;> (try (cases hr; done))
 rename_i fn hf
 split at hr <;> (try (cases hr; done))
 rename_i c hb
 refine .inl ⟨?_, ?_⟩
 ·unfold callFunc
  have hn : ¬ fn.name = "runtime.NumGoroutine" := by simpa using hP.names f fn hf
  simp [hf, hn, hb]
 ·refine (callsIn_wide (n := 3)).1 ?_
  show CallsIn (Fw none) 3 C.P f args' w _
  refine callsIn_of_wp_marks hf hb trivial ?_
  have he := aPg hargs fn.ntmps []
  have hst : StL G fn.ntmps ρ w (nP C rec fn.ntmps n I c (fun _ => cJ) (aR C fn) (aR C fn)) (v, h1) { tmps := args' ++ Array.replicate (fn.ntmps - args'.size) undef, defers := [] } w :=
   ⟨[], ρ, aJ args, h, Ex.refl G ρ, H.weak rfl (fun k hk => by rcases hk with hk | hk; exact hk; cases hk) (Nat.le_refl _) rfl, he, Kp.refl G w, by simp; omega, rfl, List.nodup_nil, (by simp), hr⟩
  refine wpIn_mono (cBv K hP.mixed iOk c (hc fn c hf hb) _ _ _ _ _ hst) fun e a' w' hq => ?_
  have hfin : StL G fn.ntmps ρ w (aR C fn) (v, h1) a' w' → LeavesInM (Fw none) 3 C.P fn a'.tmps (kS G ρ w v h1) a'.defers .returning w' := by
   rintro ⟨Ds, ρ', env, h', e1, e2, e3, e4, e5, e6, e7, e8, e9⟩
   rw [e6]
   exact bEz Ds w' ⟨ρ', env, h', e1, e2, e3, e4, e9⟩ H.sz.1 H.sz.2 e7 e8
  cases e with
  | normal => exact hfin hq
  | ret => exact hfin hq
  | exit id =>
   obtain ⟨Ds, ρ', env, h', e1, e2, e3, e4, e5, e6, e7, e8, e9⟩ := hq
   cases e9
  | goto l => exact hq.elim
  | panic ch => exact hq.elim
  | outgrown => exact hq.elim
end
end Go.Dd

namespace Go.Dd
noncomputable section
def WT.get (t : WT) : Nat → Int :=
 WT.rec (motive := fun _ => Nat → Int) (fun _ => .ofNat 0)
  (fun _ v _ ihl ihr k => bif Nat.beq k 0 then v else bif Nat.beq (Nat.mod k 2) 1 then ihl (Nat.div k 2) else ihr (Nat.div (Nat.sub k 1) 2)) t
def ePs (x : Int) (fuel : Nat) : Nat → WT → WT :=
 Nat.rec (motive := fun _ => Nat → WT → WT) (fun _ t => t)
  (fun _ ih k t => WT.rec (motive := fun _ => WT)
   (bif Nat.beq k 0 then .n .e x .e else bif Nat.beq (Nat.mod k 2) 1 then .n (ih (Nat.div k 2) .e) (.ofNat 0) .e else .n .e (.ofNat 0) (ih (Nat.div (Nat.sub k 1) 2) .e))
   (fun l v r _ _ => bif Nat.beq k 0 then .n l x r else bif Nat.beq (Nat.mod k 2) 1 then .n (ih (Nat.div k 2) l) v r else .n l v (ih (Nat.div (Nat.sub k 1) 2) r)) t) fuel
def WT.set (t : WT) (k : Nat) (x : Int) : WT := ePs x 24 k t
theorem WT.get_e (k : Nat) : WT.e.get k = 0 := rfl
theorem ePp (l : WT) (v : Int) (r : WT) (k : Nat) : (WT.n l v r).get k = if k = 0 then v else if k % 2 = 1 then l.get (k / 2) else r.get ((k - 1) / 2) := by
 show (bif Nat.beq k 0 then v else bif Nat.beq (Nat.mod k 2) 1 then l.get (Nat.div k 2) else r.get (Nat.div (Nat.sub k 1) 2)) = _
 cases h0 : Nat.beq k 0 with
 | true => have := Nat.eq_of_beq_eq_true h0; subst this; rfl
 | false =>
  have n0 : k ≠ 0 := by intro e; subst e; cases h0
  rw [if_neg n0]
  cases h1 : Nat.beq (Nat.mod k 2) 1 with
  | true => have : k % 2 = 1 := Nat.eq_of_beq_eq_true h1; rw [if_pos this]; rfl
  | false =>
   have n1 : k % 2 ≠ 1 := by intro e; have e' : Nat.mod k 2 = 1 := e; rw [e'] at h1; cases h1
   rw [if_neg n1]; rfl
theorem eQb (x : Int) (f k : Nat) (t : WT) : ePs x (f + 1) k t = match t with
  | .e => if k = 0 then .n .e x .e else if k % 2 = 1 then .n (ePs x f (k / 2) .e) 0 .e else .n .e 0 (ePs x f ((k - 1) / 2) .e)
  | .n l v r => if k = 0 then .n l x r else if k % 2 = 1 then .n (ePs x f (k / 2) l) v r else .n l v (ePs x f ((k - 1) / 2) r) := by
 have hb : ∀ {α : Type} (a b c : α), (bif Nat.beq k 0 then a else bif Nat.beq (Nat.mod k 2) 1 then b else c) = if k = 0 then a else if k % 2 = 1 then b else c := by
  intro α a b c
  cases h0 : Nat.beq k 0 with
  | true => have := Nat.eq_of_beq_eq_true h0; subst this; rfl
  | false =>
   have n0 : k ≠ 0 := by intro e; subst e; cases h0
   rw [if_neg n0]
   cases h1 : Nat.beq (Nat.mod k 2) 1 with
   | true => have : k % 2 = 1 := Nat.eq_of_beq_eq_true h1; rw [if_pos this]; rfl
   | false =>
    have n1 : k % 2 ≠ 1 := by intro e; have e' : Nat.mod k 2 = 1 := e; rw [e'] at h1; cases h1
    rw [if_neg n1]; rfl
 cases t with
 | e => exact hb _ _ _
 | n l v r => exact hb _ _ _
theorem ePw (x : Int) : ∀ (f k : Nat) (t : WT) (j : Nat), k + 1 < 2 ^ f → (ePs x f k t).get j = if j = k then x else t.get j
 | 0, k, t, j, h => by simp at h
 | f + 1, k, t, j, h => by
  have h2 : 2 ^ (f + 1) = 2 * 2 ^ f := by rw [Nat.pow_succ]; omega
  have ih := fun k t j (h : k + 1 < 2 ^ f) => ePw x f k t j h
  rw [eQb]
  cases t with
  | e =>
   simp only
   split
   ·subst_vars
    rw [ePp]
    split
    ·rfl
    ·simp [WT.get_e]
   ·split
    ·rw [ePp]
     split
     ·subst_vars; rw [if_neg (by omega)]; rfl
     ·split
      ·rw [ih _ _ _ (by omega), WT.get_e, WT.get_e]
       by_cases hj : j = k
       ·rw [if_pos hj, if_pos (by omega)]
       ·rw [if_neg hj, if_neg (by omega)]
      ·rw [WT.get_e, if_neg (by omega)]; rfl
    ·rw [ePp]
     split
     ·subst_vars; rw [if_neg (by omega)]; rfl
     ·split
      ·rw [WT.get_e, if_neg (by omega)]; rfl
      ·rw [ih _ _ _ (by omega), WT.get_e, WT.get_e]
       by_cases hj : j = k
       ·rw [if_pos hj, if_pos (by omega)]
       ·rw [if_neg hj, if_neg (by omega)]
  | n l v r =>
   simp only
   split
   ·subst_vars
    rw [ePp, ePp]
    split
    ·rfl
    ·rfl
   ·split
    ·rw [ePp, ePp]
     split
     ·subst_vars; rw [if_neg (by omega)]
     ·split
      ·rw [ih _ _ _ (by omega)]
       by_cases hj : j = k
       ·rw [if_pos hj, if_pos (by omega)]
       ·rw [if_neg hj, if_neg (by omega)]
      ·rw [if_neg (by omega)]
    ·rw [ePp, ePp]
     split
     ·subst_vars; rw [if_neg (by omega)]
     ·split
      ·rw [if_neg (by omega)]
      ·rw [ih _ _ _ (by omega)]
       by_cases hj : j = k
       ·rw [if_pos hj, if_pos (by omega)]
       ·rw [if_neg hj, if_neg (by omega)]
theorem WT.get_set (t : WT) (k : Nat) (x : Int) (j : Nat) (h : k < 16000000) : (t.set k x).get j = if j = k then x else t.get j :=
 ePw x 24 k t j (by omega)
def iC (n : Nat) (t : WT) : List DV := (List.range n).map fun i => .i .i64 (t.get i)
def uS (g : Bool) : Ob → Ob → Prop
 | .big n t, o => if g then o = .big n t else o = .row .ex (iC n t)
 | .mi t, o => if g then o = .mi t else ∃ es, o = .mp es ∧ ∀ a : Int, iF (.int .i64) (.i .i64 a) es = some (if 0 ≤ a ∧ t.get a.toNat ≠ 0 then some (.b true) else none)
 | o, o' => o' = o
structure Sim (g : Bool) (h h' : Hp) : Prop where
 next : h'.next = h.next
 get : ∀ b o, h.bl.get b = some o → ∃ o', h'.bl.get b = some o' ∧ uS g o o'
def SimR (g : Bool) (r r' : aK) : Prop := ∀ v h, r = some (v, h) → ∃ h', r' = some (v, h') ∧ Sim g h h'
def SimP (g : Bool) (p p' : Hp → aK) : Prop := ∀ h h', Sim g h h' → SimR g (p h) (p' h')
variable {h h' : Hp} {g : Bool}
theorem Sim.row (S : Sim g h h') {b : Pos} {k : Kind} {l : List DV} (hb : h.bl.get b = some (.row k l)) : h'.bl.get b = some (.row k l) := by
 obtain ⟨o', h1, h2⟩ := S.get b _ hb
 rw [h1, show o' = .row k l from h2]
theorem Sim.it (S : Sim g h h') {b : Pos} {s : List Nat} {p : Nat} (hb : h.bl.get b = some (.it s p)) : h'.bl.get b = some (.it s p) := by
 obtain ⟨o', h1, h2⟩ := S.get b _ hb
 rw [h1, show o' = .it s p from h2]
theorem Sim.mp (S : Sim g h h') {b : Pos} {es : List (DV × DV)} (hb : h.bl.get b = some (.mp es)) : h'.bl.get b = some (.mp es) := by
 obtain ⟨o', h1, h2⟩ := S.get b _ hb
 rw [h1, show o' = .mp es from h2]
theorem Sim.set (S : Sim g h h') {o o' : Ob} (hr : uS g o o') (b n : Pos) : Sim g ⟨n, Tr.set o b h.bl⟩ ⟨n, Tr.set o' b h'.bl⟩ := by
 refine ⟨rfl, fun x ob hx => ?_⟩
 by_cases e : x = b
 ·subst e
  simp only [eOx, bG] at hx ⊢
  subst hx
  exact ⟨o', rfl, hr⟩
 ·simp only [eOw _ _ _ _ e] at hx ⊢
  exact S.get x ob hx
theorem Sim.setR (S : Sim g h h') (k : Kind) (l : List DV) (b n : Pos) : Sim g ⟨n, Tr.set (.row k l) b h.bl⟩ ⟨n, Tr.set (.row k l) b h'.bl⟩ := S.set (show uS g (.row k l) (.row k l) from rfl) b n
theorem Sim.setM (S : Sim g h h') (es : List (DV × DV)) (b n : Pos) : Sim g ⟨n, Tr.set (.mp es) b h.bl⟩ ⟨n, Tr.set (.mp es) b h'.bl⟩ := S.set (show uS g (.mp es) (.mp es) from rfl) b n
theorem Sim.setI (S : Sim g h h') (s : List Nat) (p : Nat) (b n : Pos) : Sim g ⟨n, Tr.set (.it s p) b h.bl⟩ ⟨n, Tr.set (.it s p) b h'.bl⟩ := S.set (show uS g (.it s p) (.it s p) from rfl) b n
theorem Sim.new (S : Sim g h h') {o o' : Ob} (hr : uS g o o') : Sim g ⟨h.next.succ, Tr.set o h.next h.bl⟩ ⟨h'.next.succ, Tr.set o' h'.next h'.bl⟩ := by
 rw [S.next]; exact S.set hr _ _
theorem SimR.none (r : aK) : SimR g none r := fun v h e => by cases e
theorem SimR.some (S : Sim g h h') (v : DV) : SimR g (some (v, h)) (some (v, h')) := fun u k e => by
 simp only [bG, bR] at e
 obtain ⟨rfl, rfl⟩ := e
 exact ⟨h', rfl, S⟩
theorem eOz {F : Hp → aK} (hF : PureP F) : SimP g F F := fun h h' S v k e => by
 obtain ⟨rfl, h2⟩ := hF h v k e
 exact ⟨h', h2 h', S⟩
theorem Sim.rowOf (S : Sim g h h') {b : Pos} {l : List DV} (hb : rowOf b h = some l) : rowOf b h' = some l := by
 unfold Dd.rowOf at hb ⊢
 split at hb <;> (try (cases hb; done))
 rename_i k l0 h0
 rw [S.row h0]; exact hb
theorem Sim.cellsAt (S : Sim g h h') {b : Pos} {o n : Nat} {cs : List DV} (hb : cellsAt b o n h = some cs) : cellsAt b o n h' = some cs := by
 unfold Dd.cellsAt at hb ⊢
 split at hb <;> (try (cases hb; done))
 rename_i l h0
 rw [S.rowOf h0]; exact hb
theorem Sim.cellD (S : Sim g h h') {b : Pos} {o : Nat} {v : DV} (hb : cellD b o h = some v) : cellD b o h' = some v := by
 unfold Dd.cellD at hb ⊢
 split at hb <;> (try (cases hb; done))
 rename_i l h0
 rw [S.rowOf h0]; exact hb
theorem Sim.storeAt (S : Sim g h h') {b : Pos} {o : Nat} {vs : List DV} {k : Hp} (hb : dG b o vs h = some k) : ∃ k', dG b o vs h' = some k' ∧ Sim g k k' := by
 unfold dG at hb ⊢
 split at hb <;> (try (cases hb; done))
 rename_i kd l h0
 rw [S.row h0]
 dsimp only
 split at hb <;> (try (cases hb; done))
 rename_i hw
 rw [if_pos hw]
 split at hb <;> (try (cases hb; done))
 rename_i l' hp
 simp only [bG] at hb
 subst hb
 try simp only [hp]
 exact ⟨_, rfl, by rw [S.next]; exact S.set (show uS g (.row kd l') (.row kd l') from rfl) _ _⟩
theorem aKa (cs : List DV) : SimP g (bA cs) (bA cs) := fun h h' S v k e => by
 simp only [bA, bG, bR] at e ⊢
 obtain ⟨rfl, rfl⟩ := e
 exact ⟨_, ⟨by rw [S.next], rfl⟩, S.new rfl⟩
theorem aBp (b : Pos) (cs : List DV) : SimP g (iX b cs) (iX b cs) := fun h h' S v k e => by
 simp only [iX, bG, bR] at e ⊢
 obtain ⟨rfl, rfl⟩ := e
 exact ⟨_, ⟨rfl, rfl⟩, by rw [S.next]; first | exact S.setR _ _ _ _ | exact S.setM _ _ _ | exact S.setI _ _ _ _⟩
theorem cQs (x : DV) : SimP g (bM x) (bM x) := by
 unfold bM
 cases fA x with
 | none => exact fun h h' S => SimR.none _
 | some cs => exact aKa cs
theorem bJw (b : Pos) (x : DV) : SimP g (yT b x) (yT b x) := by
 unfold yT
 cases fA x with
 | none => exact fun h h' S => SimR.none _
 | some cs => exact aBp b cs
theorem kM (x : DV) : SimP g (aA x) (aA x) := fun h h' S v k e => by
 unfold aA at e ⊢
 split at e <;> (try (cases e; done))
 split at e <;> (try (cases e; done))
 rename_i hc
 simp only [bG, bR] at e
 obtain ⟨rfl, rfl⟩ := e
 simp only [S.cellD hc]
 exact ⟨_, rfl, S⟩
theorem kQ (n : Nat) (x : DV) : SimP g (aH n x) (aH n x) := fun h h' S v k e => by
 unfold aH at e ⊢
 split at e <;> (try (cases e; done))
 split at e <;> (try (cases e; done))
 rename_i hc
 simp only [bG, bR] at e
 obtain ⟨rfl, rfl⟩ := e
 simp only [S.cellsAt hc]
 exact ⟨_, rfl, S⟩
theorem kP (n : Nat) (x y : DV) : SimP g (aD n x y) (aD n x y) := fun h h' S v k e => by
 unfold aD at e ⊢
 split at e <;> (try (cases e; done))
 rename_i b o cs hc
 try rw [hc]
 try dsimp only
 split at e <;> (try (cases e; done))
 rename_i hn
 rw [if_pos hn]
 split at e <;> (try (cases e; done))
 rename_i k0 hs
 simp only [bG, bR] at e
 obtain ⟨rfl, rfl⟩ := e
 obtain ⟨k', h1, h2⟩ := S.storeAt hs
 try simp only [h1]
 exact ⟨_, rfl, h2⟩
theorem bMa (size : Nat) (x : DV) (lo hi : Option DV) : SimP g (cT size x lo hi) (cT size x lo hi) := fun h h' S v k e => by
 unfold cT at e ⊢
 split at e <;> (try (cases e; done))
 ·split at e <;> (try (cases e; done))
  rename_i en he
  try simp only [he]
  split at e <;> (try (cases e; done))
  rename_i s hs
  try simp only [hs]
  split at e <;> (try (cases e; done))
  ·rename_i l0 hb
   rw [S.row hb]
   simp only [bG, bR] at e
   obtain ⟨rfl, rfl⟩ := e
   exact ⟨_, rfl, S⟩
  ·rename_i l0 hb
   rw [S.row hb]
   simp only [bG, bR] at e
   obtain ⟨rfl, rfl⟩ := e
   exact ⟨_, rfl, S⟩
  ·rename_i k0 l0 n1 n2 hb
   rw [S.row hb]
   cases k0 with
   | ro => exact absurd rfl n1
   | ex => exact absurd rfl n2
   | gr es =>
    dsimp only
    split at e
    ·rename_i hcs
     simp only [bG, bR] at e
     obtain ⟨rfl, rfl⟩ := e
     rw [if_pos hcs]
     exact ⟨_, rfl, S⟩
    ·rename_i hcs
     simp only [bG, bR] at e
     obtain ⟨rfl, rfl⟩ := e
     rw [if_neg hcs]
     exact ⟨_, rfl, S⟩
   | sp =>
    dsimp only
    split at e
    ·rename_i hcs
     simp only [bG, bR] at e
     obtain ⟨rfl, rfl⟩ := e
     rw [if_pos hcs]
     exact ⟨_, rfl, S⟩
    ·rename_i hcs
     simp only [bG, bR] at e
     obtain ⟨rfl, rfl⟩ := e
     rw [if_neg hcs]
     exact ⟨_, rfl, S⟩
 all_goals
  split at e <;> (try (cases e; done))
  rename_i en he
  try simp only [he]
  split at e <;> (try (cases e; done))
  rename_i s hs
  try simp only [hs]
  simp only [bG, bR] at e
  obtain ⟨rfl, rfl⟩ := e
  exact ⟨_, rfl, S⟩
theorem aXo (x : DV) (lo : Option DV) (hi mx : DV) : SimP g (lF x lo hi mx) (lF x lo hi mx) := fun h h' S v k e => by
 unfold lF at e ⊢
 split at e <;> (try (cases e; done))
 all_goals
  split at e <;> (try (cases e; done))
 ·rename_i m e1
  try simp only [e1]
  split at e <;> (try (cases e; done))
  rename_i n e2
  try simp only [e2]
  simp only [bG, bR] at e
  obtain ⟨rfl, rfl⟩ := e
  exact ⟨_, rfl, S⟩
 ·rename_i m e1
  try simp only [e1]
  split at e <;> (try (cases e; done))
  rename_i n e2
  try simp only [e2]
  simp only [bG, bR] at e
  obtain ⟨rfl, rfl⟩ := e
  exact ⟨_, rfl, S⟩
 ·rename_i n1 n2 e1 e2
  try simp only [e1, e2]
  simp only [bG, bR] at e
  obtain ⟨rfl, rfl⟩ := e
  exact ⟨_, rfl, S⟩
 ·rename_i n1 n2 e1 e2
  try simp only [e1, e2]
  simp only [bG, bR] at e
  obtain ⟨rfl, rfl⟩ := e
  exact ⟨_, rfl, S⟩
theorem bJt (x : DV) : SimP g (gY x) (gY x) := fun h h' S v k e => by
 unfold gY at e ⊢
 split at e <;> (try (cases e; done))
 ·simp only [bG, bR] at e
  obtain ⟨rfl, rfl⟩ := e
  exact ⟨_, rfl, S⟩
 ·split at e <;> (try (cases e; done))
  rename_i cs hc
  simp only [S.cellsAt hc]
  split at e <;> (try (cases e; done))
  rename_i l hl
  try simp only [hl]
  simp only [bG, bR] at e
  obtain ⟨rfl, rfl⟩ := e
  exact ⟨_, rfl, S⟩
theorem xC (z : List DV) (n : Nat) (ps : List (Nat × Nat × DV)) : SimP g (aN z n ps) (aN z n ps) := fun h h' S v k e => by
 unfold aN at e ⊢
 split at e <;> (try (cases e; done))
 rename_i cs hf
 try simp only [hf]
 simp only [bG, bR] at e ⊢
 obtain ⟨rfl, rfl⟩ := e
 exact ⟨_, ⟨by rw [S.next], rfl⟩, S.new rfl⟩
theorem rG (b : Pos) (z : List DV) (n : Nat) (ps : List (Nat × Nat × DV)) : SimP g (aS b z n ps) (aS b z n ps) := fun h h' S v k e => by
 unfold aS at e ⊢
 split at e <;> (try (cases e; done))
 rename_i cs hf
 try simp only [hf]
 simp only [bG, bR] at e ⊢
 obtain ⟨rfl, rfl⟩ := e
 exact ⟨_, ⟨rfl, rfl⟩, by rw [S.next]; first | exact S.setR _ _ _ _ | exact S.setM _ _ _ | exact S.setI _ _ _ _⟩
theorem aRg : SimP g dW dW := fun h h' S v k e => by
 simp only [dW, bG, bR] at e ⊢
 obtain ⟨rfl, rfl⟩ := e
 exact ⟨_, ⟨by rw [S.next], rfl⟩, S.new rfl⟩
theorem Sim.entries (S : Sim g h h') {x : DV} {es : List (DV × DV)} (he : jO x h = some es) : jO x h' = some es := by
 unfold jO at he ⊢
 split at he <;> (try (cases he; done))
 ·exact he
 ·split at he <;> (try (cases he; done))
  rename_i hb
  rw [S.mp hb]; exact he
theorem aVm (d : TypeDesc) (z : DV) (ok : Bool) (x key : DV) : SimP g (gM d z ok x key) (gM d z ok x key) := fun h h' S v k e => by
 unfold gM at e ⊢
 split at e <;> (try (cases e; done))
 rename_i es he
 simp only [S.entries he]
 split at e <;> (try (cases e; done))
 all_goals
  rename_i hf
  try simp only [hf]
  simp only [bG, bR] at e
  obtain ⟨rfl, rfl⟩ := e
  exact ⟨_, rfl, S⟩
theorem aZy (d : TypeDesc) (x key y : DV) : SimP g (gL d x key y) (gL d x key y) := fun h h' S v k e => by
 unfold gL at e ⊢
 split at e <;> (try (cases e; done))
 split at e <;> (try (cases e; done))
 rename_i b _ es hb
 rw [S.mp hb]
 dsimp only
 split at e <;> (try (cases e; done))
 rename_i hf
 try simp only [hf]
 simp only [bG, bR] at e
 obtain ⟨rfl, rfl⟩ := e
 exact ⟨_, rfl, by rw [S.next]; first | exact S.setR _ _ _ _ | exact S.setM _ _ _ | exact S.setI _ _ _ _⟩
theorem aEn (d : TypeDesc) (z x key : DV) : SimP g (iI d z x key) (iI d z x key) := fun h h' S v k e => by
 unfold iI at e ⊢
 split at e <;> (try (cases e; done))
 split at e <;> (try (cases e; done))
 rename_i b _ es hb
 rw [S.mp hb]
 dsimp only
 split at e <;> (try (cases e; done))
 all_goals
  rename_i hf
  try simp only [hf]
  simp only [bG, bR] at e
  obtain ⟨rfl, rfl⟩ := e
  exact ⟨_, rfl, by rw [S.next]; first | exact S.setR _ _ _ _ | exact S.setM _ _ _ | exact S.setI _ _ _ _⟩
theorem zU (x s y : DV) : SimP g (fS x s y) (fS x s y) := fun h h' S v k e => by
 unfold fS at e ⊢
 split at e <;> (try (cases e; done))
 split at e <;> (try (cases e; done))
 rename_i es hb
 rw [S.mp hb]
 dsimp only
 split at e <;> (try (cases e; done))
 rename_i hf
 try simp only [hf]
 simp only [bG, bR] at e
 obtain ⟨rfl, rfl⟩ := e
 exact ⟨_, rfl, by rw [S.next]; first | exact S.setR _ _ _ _ | exact S.setM _ _ _ | exact S.setI _ _ _ _⟩
theorem aBm (size bytes : Nat) (z : List DV) (n c : DV) : SimP g (cI size bytes z n c) (cI size bytes z n c) := fun h h' S v k e => by
 unfold cI at e ⊢
 split at e <;> (try (cases e; done))
 split at e <;> (try (cases e; done))
 rename_i hc
 rw [if_pos hc]
 simp only [bG, bR] at e ⊢
 obtain ⟨rfl, rfl⟩ := e
 exact ⟨_, ⟨by rw [S.next], rfl⟩, S.new rfl⟩
theorem bLz (z : List DV) (x : DV) : SimP g (jD z x) (jD z x) := fun h h' S v k e => by
 unfold jD at e ⊢
 split at e <;> (try (cases e; done))
 ·simp only [bG, bR] at e
  obtain ⟨rfl, rfl⟩ := e
  exact ⟨_, rfl, S⟩
 ·simp only [bG, bR] at e
  obtain ⟨rfl, rfl⟩ := e
  exact ⟨_, rfl, S⟩
 ·split at e
  ·rename_i hn
   simp only [bG, bR] at e
   obtain ⟨rfl, rfl⟩ := e
   simp only [hn, if_true]
   exact ⟨_, rfl, S⟩
  ·rename_i hn
   rw [if_neg hn]
   split at e <;> (try (cases e; done))
   rename_i k0 hs
   simp only [bG, bR] at e
   obtain ⟨rfl, rfl⟩ := e
   obtain ⟨k', h1, h2⟩ := S.storeAt hs
   try simp only [h1]
   exact ⟨_, rfl, h2⟩
theorem Sim.src (S : Sim g h h') {size : Nat} {x : DV} {r : Nat × List DV} (hs : aBg size x h = some r) : aBg size x h' = some r := by
 unfold aBg at hs ⊢
 split at hs <;> (try (cases hs; done))
 ·exact hs
 ·exact hs
 ·split at hs <;> (try (cases hs; done))
  rename_i hc
  simp only [S.cellsAt hc]; exact hs
 ·split at hs <;> (try (cases hs; done))
  rename_i hc
  simp only [S.cellsAt hc]; exact hs
 ·exact hs
theorem aSv (size bytes : Nat) (s x : DV) : SimP g (aX size bytes s x) (aX size bytes s x) := fun h h' S v k e => by
 unfold aX at e ⊢
 split at e <;> (try (cases e; done))
 rename_i n new hs
 simp only [S.src hs]
 split at e <;> (try (cases e; done))
 ·split at e
  ·rename_i hn
   rw [if_pos hn]
   simp only [bG, bR] at e
   obtain ⟨rfl, rfl⟩ := e
   exact ⟨_, rfl, S⟩
  ·rename_i hn
   rw [if_neg hn]
   split at e <;> (try (cases e; done))
   rename_i hr
   rw [if_pos hr]
   simp only [bG, bR] at e ⊢
   obtain ⟨rfl, rfl⟩ := e
   exact ⟨_, ⟨by rw [S.next], rfl⟩, S.new rfl⟩
 ·split at e <;> (try (cases e; done))
  rename_i hn
  rw [if_pos hn]
  simp only [bG, bR] at e
  obtain ⟨rfl, rfl⟩ := e
  exact ⟨_, rfl, S⟩
 ·rename_i b o len cap
  split at e
  ·rename_i hle
   rw [if_pos hle]
   split at e <;> (try (cases e; done))
   rename_i k0 hst
   simp only [bG, bR] at e
   obtain ⟨rfl, rfl⟩ := e
   obtain ⟨k', h1, h2⟩ := S.storeAt hst
   try simp only [h1]
   exact ⟨_, rfl, h2⟩
  ·rename_i hle
   rw [if_neg hle]
   split at e <;> (try (cases e; done))
   rename_i k0 l old hb hold
   rw [S.row hb, S.cellsAt hold]
   dsimp only
   split at e <;> (try (cases e; done))
   rename_i hroom
   rw [if_pos hroom]
   split at e <;> (try (cases e; done))
   ·simp only [bG, bR] at e ⊢
    obtain ⟨rfl, rfl⟩ := e
    exact ⟨_, ⟨by rw [S.next], rfl⟩, S.new rfl⟩
   ·simp only [bG, bR] at e ⊢
    obtain ⟨rfl, rfl⟩ := e
    exact ⟨_, ⟨by rw [S.next], rfl⟩, S.new rfl⟩
   ·split at e <;> (try (cases e; done))
    rename_i hes
    rw [if_pos hes]
    simp only [bG, bR] at e ⊢
    obtain ⟨rfl, rfl⟩ := e
    refine ⟨_, ⟨by rw [S.next], rfl⟩, ?_⟩
    have S1 : Sim g ⟨h.next, Tr.set (.row .sp (bV o l)) b h.bl⟩ ⟨h'.next, Tr.set (.row .sp (bV o l)) b h'.bl⟩ := by
     rw [S.next]; exact S.set (show uS g (.row .sp (bV o l)) (.row .sp (bV o l)) from rfl) _ _
    exact S1.new rfl
 ·rename_i b o len cap
  split at e
  ·rename_i hn
   rw [if_pos hn]
   split at e <;> (try (cases e; done))
   rename_i hc
   rw [if_pos hc]
   simp only [bG, bR] at e
   obtain ⟨rfl, rfl⟩ := e
   exact ⟨_, rfl, S⟩
  ·rename_i hn
   rw [if_neg hn]
   split at e <;> (try (cases e; done))
   rename_i hc
   rw [if_neg hc]
   split at e <;> (try (cases e; done))
   rename_i old hold
   simp only [S.cellsAt hold]
   split at e <;> (try (cases e; done))
   rename_i hr
   rw [if_pos hr]
   simp only [bG, bR] at e ⊢
   obtain ⟨rfl, rfl⟩ := e
   exact ⟨_, ⟨by rw [S.next], rfl⟩, S.new rfl⟩
theorem bNe (x : DV) : SimP g (nT x) (nT x) := fun h h' S v k e => by
 unfold nT at e ⊢
 split at e <;> (try (cases e; done))
 simp only [bG, bR] at e ⊢
 obtain ⟨rfl, rfl⟩ := e
 exact ⟨_, ⟨by rw [S.next], rfl⟩, S.new rfl⟩
theorem cAw (x : DV) : SimP g (aBa x) (aBa x) := fun h h' S v k e => by
 unfold aBa at e ⊢
 split at e <;> (try (cases e; done))
 split at e <;> (try (cases e; done))
 rename_i b _ l pos hb
 rw [S.it hb]
 dsimp only
 split at e
 ·rename_i c hc
  try simp only [hc]
  split at e <;> (try (cases e; done))
  rename_i hlt
  rw [if_pos hlt]
  simp only [bG, bR] at e ⊢
  obtain ⟨rfl, rfl⟩ := e
  exact ⟨_, ⟨rfl, rfl⟩, by rw [S.next]; first | exact S.setR _ _ _ _ | exact S.setM _ _ _ | exact S.setI _ _ _ _⟩
 ·rename_i hc
  try simp only [hc]
  simp only [bG, bR] at e ⊢
  obtain ⟨rfl, rfl⟩ := e
  exact ⟨_, ⟨rfl, rfl⟩, S⟩
end
end Go.Dd

namespace Go.Dd
theorem SimP.none {gg : Bool} (p : Hp → aK) : SimP gg (fun _ => Option.none) p := fun h h' S => SimR.none _
theorem SimP.val {gg : Bool} (v : DV) : SimP gg (fun h => some (v, h)) (fun h => some (v, h)) := fun h h' S => SimR.some S v
section
variable {gg : Bool} {P : Program} {I2 I1 : FuncId → Option (List DV → Hp → aK)} {rec2 rec1 : FuncId → List DV → Hp → aK}
theorem aPj (b : Builtin) (ts : List TypeId) (args : List DV) : SimP gg (jP ⟨P, I2⟩ b ts args) (jP ⟨P, I1⟩ b ts args) := by
 unfold jP
 cases b <;> try exact SimP.none _
 case len =>
  match ts, args with
  | [t], [x] =>
   dsimp only
   cases P.underlying t with
   | none => exact SimP.none _
   | some d => cases d <;> first | exact SimP.none _ | exact eOz (aBv x) | exact eOz (nA x)
  | [], _ => exact SimP.none _
  | [_], [] => exact SimP.none _
  | [_], _ :: _ :: _ => exact SimP.none _
  | _ :: _ :: _, _ => exact SimP.none _
 case min =>
  show SimP gg (sJ args) (sJ args)
  unfold sJ
  match args with
  | [x, y] => exact eOz (aPk x y)
  | [] => exact SimP.none _
  | [_] => exact SimP.none _
  | _ :: _ :: _ :: _ => exact SimP.none _
 case max =>
  show SimP gg (rQ args) (rQ args)
  unfold rQ
  match args with
  | [x, y] => exact eOz (aPq x y)
  | [] => exact SimP.none _
  | [_] => exact SimP.none _
  | _ :: _ :: _ :: _ => exact SimP.none _
 case clear =>
  match ts, args with
  | [t], [x] =>
   dsimp only
   cases P.underlying t with
   | none => exact SimP.none _
   | some d =>
    cases d <;> try exact SimP.none _
    rename_i e
    dsimp only
    cases P.info? e with
    | none => exact SimP.none _
    | some i =>
     dsimp only
     cases i.zero with
     | none => exact SimP.none _
     | some z =>
      dsimp only
      by_cases h0 : 0 < z.cells.size
      ·simp only [h0, if_true]; exact bLz _ _
      ·simp only [h0, if_false]; exact SimP.none _
  | [], _ => exact SimP.none _
  | [_], [] => exact SimP.none _
  | [_], _ :: _ :: _ => exact SimP.none _
  | _ :: _ :: _, _ => exact SimP.none _
 case append =>
  match ts, args with
  | [t, u], [s, x] =>
   dsimp only
   have hmain : ∀ e, SimP gg (fun h => match P.info? e with
     | some i => match i.zero with
      | some z => if 0 < i.size ∧ 0 < i.bytes ∧ z.cells.size = i.size then aX i.size i.bytes s x h else none
      | none => none
     | none => none) (fun h => match P.info? e with
     | some i => match i.zero with
      | some z => if 0 < i.size ∧ 0 < i.bytes ∧ z.cells.size = i.size then aX i.size i.bytes s x h else none
      | none => none
     | none => none) := by
    intro e
    cases P.info? e with
    | none => exact SimP.none _
    | some i =>
     dsimp only
     cases i.zero with
     | none => exact SimP.none _
     | some z =>
      dsimp only
      split
      ·exact aSv _ _ _ _
      ·exact SimP.none _
   cases P.underlying t with
   | none => exact SimP.none _
   | some d =>
    cases d <;> try exact SimP.none _
    rename_i e
    cases P.underlying u with
    | none => exact SimP.none _
    | some d2 => cases d2 <;> first | exact SimP.none _ | exact hmain e
  | [], _ => exact SimP.none _
  | [_], _ => exact SimP.none _
  | [_, _], [] => exact SimP.none _
  | [_, _], [_] => exact SimP.none _
  | [_, _], _ :: _ :: _ :: _ => exact SimP.none _
  | _ :: _ :: _ :: _, _ => exact SimP.none _
theorem aBs (HC : ∀ g args, SimP gg (bO ⟨P, I2⟩ rec2 g args) (bO ⟨P, I1⟩ rec1 g args)) (o : Oper) (env : aV) : SimP gg (iZ ⟨P, I2⟩ rec2 o env) (iZ ⟨P, I1⟩ rec1 o env) := by
 obtain ⟨dst, op, ty, pos, after, guard⟩ := o
 unfold iZ
 cases op <;> (try dsimp only) <;> try exact SimP.none _
 case move x => exact SimP.val _
 case assign x => exact SimP.val _
 case pick c x y => exact eOz (aBr _ _ _)
 case alloc t =>
  cases P.info? t with
  | none => exact SimP.none _
  | some i =>
   try dsimp only
   cases i.zero with
   | none => exact SimP.none _
   | some z => exact aKa _
 case box t x => exact cQs _
 case build t ps =>
  cases P.underlying t with
  | none => exact SimP.none _
  | some d =>
   cases d <;> (try dsimp only) <;> try exact SimP.none _
   case array n e =>
    cases P.info? t with
    | none => exact SimP.none _
    | some i =>
     try dsimp only
     split
     ·exact eOz (lN _ _)
     ·exact SimP.none _
   rename_i fs
   cases P.info? t with
   | none => exact SimP.none _
   | some i =>
    try dsimp only
    cases i.zero with
    | none => exact SimP.none _
    | some z =>
     try dsimp only
     generalize fs.toList.mapM (fun f => (P.info? f.type).map fun fi => (f.offset, fi.size)) = pl
     cases pl with
     | none => exact SimP.none _
     | some pl =>
      try dsimp only
      generalize ps.toList.mapM (fun (q : Nat × Operand) => (pl[q.1]?).map fun s => (s.1, s.2, opr env q.2)) = l
      cases l with
      | none => exact SimP.none _
      | some l => exact eOz (lN _ _)
 case buildSlice t n ps =>
  cases P.underlying t with
  | none => exact SimP.none _
  | some d =>
   cases d <;> (try dsimp only) <;> try exact SimP.none _
   rename_i e
   cases P.info? e with
   | none => exact SimP.none _
   | some i =>
    try dsimp only
    cases i.zero with
    | none => exact SimP.none _
    | some z =>
     try dsimp only
     split
     ·exact xC _ _ _
     ·exact SimP.none _
 case load t x =>
  cases P.underlying t with
  | none => exact SimP.none _
  | some d =>
   cases P.info? t with
   | none => exact SimP.none _
   | some i =>
    try dsimp only
    cases jA d with
    | true => exact kQ _ _
    | false => exact kM _
 case store t x y =>
  cases P.info? t with
  | none => exact SimP.none _
  | some i => exact kP _ _ _
 case nilCheck x => exact eOz (aPr _)
 case binOp op t x y yt =>
  cases P.underlying t with
  | none => exact SimP.none _
  | some d => cases d <;> first | exact eOz (aRf _ _ _ _) | exact eOz (aQr _ _ _ _)
 case unOp op t x => exact eOz (bBm _ _)
 case convert src dst x =>
  cases P.underlying src with
  | none => exact SimP.none _
  | some d =>
   cases P.underlying dst with
   | none => cases d <;> exact SimP.none _
   | some d2 =>
    cases d2 <;> cases d <;> (try dsimp only) <;> first | exact SimP.none _ | exact eOz (nW _ _) | exact eOz (oS _) | skip
    all_goals
     rename_i e
     cases P.underlying e with
     | none => exact SimP.none _
     | some d3 =>
      cases d3 <;> (try dsimp only) <;> try exact SimP.none _
      rename_i k
      cases k <;> first | exact SimP.none _ | exact bJt _
 case makeFunc fn first cap =>
  cases fn <;> first | exact SimP.none _ | exact SimP.val _
 case slice t x lo hi mx =>
  cases P.underlying t with
  | none => exact SimP.none _
  | some d =>
   cases mx with
   | none =>
    cases d <;> (try dsimp only) <;> first | exact SimP.none _ | exact eOz (lZ _ _ _) | skip
    rename_i e
    cases P.info? e with
    | none => exact SimP.none _
    | some i => exact bMa _ _ _ _
   | some m =>
    cases d <;> (try dsimp only) <;> try exact SimP.none _
    rename_i e
    cases P.info? e with
    | none => exact SimP.none _
    | some i =>
     cases hi with
     | none => exact SimP.none _
     | some hv => exact aXo _ _ _ _
 case fieldAddr t x f =>
  cases P.underlying t with
  | none => exact SimP.none _
  | some d =>
   cases d <;> (try dsimp only) <;> try exact SimP.none _
   rename_i fs
   cases fs[f]? with
   | none => exact SimP.none _
   | some fl =>
    try dsimp only
    cases P.info? fl.type with
    | none => exact SimP.none _
    | some i =>
     try dsimp only
     split
     ·exact SimP.none _
     ·exact eOz (zP _ _)
 case field t x f =>
  cases P.underlying t with
  | none => exact SimP.none _
  | some d =>
   cases d <;> (try dsimp only) <;> try exact SimP.none _
   rename_i fs
   cases fs[f]? with
   | none => exact SimP.none _
   | some fl =>
    try dsimp only
    cases P.underlying fl.type with
    | none => exact SimP.none _
    | some d2 =>
     cases P.info? fl.type with
     | none => exact SimP.none _
     | some i =>
      try dsimp only
      cases jA d2 with
      | true => exact eOz (xM _ _ _)
      | false => exact eOz (zX _ _)
 case indexAddr t x ix =>
  cases P.underlying t with
  | none => exact SimP.none _
  | some d =>
   cases d <;> (try dsimp only) <;> try exact SimP.none _
   ·rename_i e
    cases P.info? e with
    | none => exact SimP.none _
    | some i => exact eOz (lX _ _ _)
   ·rename_i n e
    cases P.info? e with
    | none => exact SimP.none _
    | some i => exact eOz (nM _ _ _ _)
 case index t x ix =>
  cases P.underlying t with
  | none => exact SimP.none _
  | some d => cases d <;> first | exact SimP.none _ | exact eOz (sN _ _)
 case extract x i => exact eOz (qC _ _)
 case range t x =>
  cases P.underlying t with
  | none => exact SimP.none _
  | some d => cases d <;> first | exact SimP.none _ | exact bNe _
 case next x str =>
  cases str with
  | true => simp only [if_true]; exact cAw _
  | false => simp only [Bool.false_eq_true, if_false]; exact SimP.none _
 case makeMap t r => cases r <;> first | exact SimP.none _ | exact aRg
 case lookup t x k ok =>
  cases P.underlying t with
  | none => exact SimP.none _
  | some d =>
   cases d <;> (try dsimp only) <;> try exact SimP.none _
   rename_i kt et
   cases P.underlying kt with
   | none => exact SimP.none _
   | some d2 =>
    cases P.info? et with
    | none => exact SimP.none _
    | some i =>
     try dsimp only
     cases i.zero with
     | none => exact SimP.none _
     | some z =>
      try dsimp only
      cases jK d2 with
      | true => exact aVm _ _ _ _ _
      | false => exact SimP.none _
 case mapUpdate t m k x =>
  cases P.underlying t with
  | none => exact SimP.none _
  | some d =>
   cases d <;> (try dsimp only) <;> try exact SimP.none _
   rename_i kt et
   cases P.underlying kt with
   | none => exact SimP.none _
   | some d2 =>
    try dsimp only
    cases jK d2 with
    | true => exact aZy _ _ _ _
    | false => exact SimP.none _
 case mapEntry t m k =>
  cases P.underlying t with
  | none => exact SimP.none _
  | some d =>
   cases d <;> (try dsimp only) <;> try exact SimP.none _
   rename_i kt et
   cases P.underlying kt with
   | none => exact SimP.none _
   | some d2 =>
    cases P.info? et with
    | none => exact SimP.none _
    | some i =>
     try dsimp only
     cases i.zero with
     | none => exact SimP.none _
     | some z =>
      try dsimp only
      cases jK d2 with
      | true => exact aEn _ _ _ _
      | false => exact SimP.none _
 case entryStore t m s x => exact zU _ _ _
 case makeSlice t n c =>
  cases P.underlying t with
  | none => exact SimP.none _
  | some d =>
   cases d <;> (try dsimp only) <;> try exact SimP.none _
   rename_i e
   cases P.info? e with
   | none => exact SimP.none _
   | some i =>
    try dsimp only
    cases i.zero with
    | none => exact SimP.none _
    | some z =>
     try dsimp only
     split
     ·exact aBm _ _ _ _ _
     ·exact SimP.none _
 case call c =>
  obtain ⟨callee, args, ats⟩ := c
  cases callee with
  | value f =>
   try dsimp only
   unfold cK
   cases opr env f <;> first | exact SimP.none _ | exact HC _ _
  | invoke r m => exact SimP.none _
  | builtin b => exact aPj _ _ _
theorem kU (HC : ∀ g args, SimP gg (bO ⟨P, I2⟩ rec2 g args) (bO ⟨P, I1⟩ rec1 g args)) (all : Array Oper) (o : Oper) (env : aV) :
  SimP gg (bJ ⟨P, I2⟩ rec2 all o env) (bJ ⟨P, I1⟩ rec1 all o env) := by
 unfold bJ
 cases o.guard with
 | none => exact aBs HC o env
 | some g =>
  obtain ⟨j, want⟩ := g
  dsimp only
  unfold gD
  cases bCh all j env <;> try exact SimP.none _
  ·rename_i x
   dsimp only
   split
   ·exact aBs HC o env
   ·exact SimP.val _
  ·rename_i vs
   cases vs with
   | nil => exact SimP.val _
   | cons a b => exact SimP.none _
def SimK (gg : Bool) (k k' : K) : Prop := ∀ env, SimP gg (k env) (k' env)
theorem ePe {r r' : aK} {k k' : DV → Hp → aK} (h : SimR gg r r') (hk : ∀ v, SimP gg (k v) (k' v)) : SimR gg (bnd r k) (bnd r' k') := by
 intro v h1 e
 obtain ⟨u, h0, e1, e2⟩ := dI e
 obtain ⟨h0', f1, S⟩ := h u h0 e1
 obtain ⟨h1', g1, S1⟩ := hk u h0 h0' S v h1 e2
 exact ⟨h1', by rw [f1]; exact g1, S1⟩
theorem ePt {b b' : Bool} {r r' : aK} (hb : b = true → b' = true) (h : SimR gg r r') : SimR gg (cnd b r) (cnd b' r') := by
 cases b with
 | false => exact fun v k e => by cases e
 | true => rw [hb rfl]; exact h
theorem pA (HC : ∀ g args, SimP gg (bO ⟨P, I2⟩ rec2 g args) (bO ⟨P, I1⟩ rec1 g args)) (nt : Nat) (all : Array Oper) {k k' : K} (hk : SimK gg k k') :
  ∀ l : List Oper, SimK gg (gV ⟨P, I2⟩ rec2 nt all l k) (gV ⟨P, I1⟩ rec1 nt all l k')
 | [] => hk
 | o :: l => fun env h h' S => by
  change SimR gg (cnd (cV nt o.dst) (bnd (bJ ⟨P, I2⟩ rec2 all o env h) fun v h1 => gV ⟨P, I2⟩ rec2 nt all l k (bP env o.dst v) h1))
   (cnd (cV nt o.dst) (bnd (bJ ⟨P, I1⟩ rec1 all o env h') fun v h1 => gV ⟨P, I1⟩ rec1 nt all l k' (bP env o.dst v) h1))
  exact ePt id (ePe (kU HC all o env h h' S) fun v => pA HC nt all hk l _)
theorem dVn (o : Oper) (b : Pos) (env : aV) : SimP gg (dO ⟨P, I2⟩ o b env) (dO ⟨P, I1⟩ o b env) := by
 obtain ⟨dst, op, ty, pos, after, guard⟩ := o
 unfold dO
 cases op <;> (try dsimp only) <;> try exact SimP.none _
 case alloc t =>
  cases P.info? t with
  | none => exact SimP.none _
  | some i =>
   dsimp only
   cases i.zero with
   | none => exact SimP.none _
   | some z => exact aBp _ _
 case box t x => exact bJw _ _
 case buildSlice t n ps =>
  cases P.underlying t with
  | none => exact SimP.none _
  | some d =>
   cases d <;> (try dsimp only) <;> try exact SimP.none _
   rename_i e
   cases P.info? e with
   | none => exact SimP.none _
   | some i =>
    dsimp only
    cases i.zero with
    | none => exact SimP.none _
    | some z =>
     dsimp only
     split
     ·exact rG _ _ _ _
     ·exact SimP.none _
theorem SimR.same {r r' : aK} (h : SimR gg r r') {v : DV} (hs : aW r v = true) : aW r' v = true := by
 unfold aW at hs ⊢
 split at hs
 ·rename_i x k
  obtain ⟨k', e, _⟩ := h x k rfl
  rw [e]; exact hs
 ·cases hs
inductive SimHs (gg : Bool) : List (Option Nat × Hp) → List (Option Nat × Hp) → Prop
 | nil : SimHs gg [] []
 | cons {j : Option Nat} {h h' : Hp} {l l' : List (Option Nat × Hp)} (S : Sim gg h h') (T : SimHs gg l l') : SimHs gg ((j, h) :: l) ((j, h') :: l')
theorem sM (m : Array Nat) (i : Nat) (v : DV) {look look' : Hp → aK} (hl : SimP gg look look') : ∀ (dirty : Bool) {hs hs' : List (Option Nat × Hp)}, SimHs gg hs hs' →
  eH m i v look dirty hs = true → eH m i v look' dirty hs' = true
 | dirty, _, _, .nil, h => h
 | dirty, _, _, .cons (j := j) S T, h => by
  unfold eH at h ⊢
  rw [Bool.and_eq_true] at h ⊢
  refine ⟨?_, ?_⟩
  ·have h1 := h.1
   cases dirty with
   | true => exact SimR.same (hl _ _ S) h1
   | false => exact h1
  ·have h2 := h.2
   cases j with
   | none => exact h2
   | some j =>
    dsimp only at h2 ⊢
    cases ho : gR m j i with
    | true => rfl
    | false =>
     rw [ho] at h2
     exact sM m i v hl true T h2
inductive SimSeen (gg : Bool) : List Seen → List Seen → Prop
 | nil : SimSeen gg [] []
 | cons {i : Nat} {look look' : Hp → aK} {v : DV} {l l' : List Seen} (S : SimP gg look look') (T : SimSeen gg l l') : SimSeen gg (⟨i, look, v⟩ :: l) (⟨i, look', v⟩ :: l')
theorem SimSeen.all {m : Array Nat} {i : Nat} {h h' : Hp} (S : Sim gg h h') : ∀ {l l' : List Seen}, SimSeen gg l l' →
  l.all (fun q => gR m q.at_ i || aW (q.look h) q.v) = true → l'.all (fun q => gR m q.at_ i || aW (q.look h') q.v) = true
 | _, _, .nil, e => e
 | _, _, .cons (i := i0) (v := v) S1 T, e => by
  rw [List.all_cons, Bool.and_eq_true] at e ⊢
  refine ⟨?_, SimSeen.all S T e.2⟩
  have h1 := e.1
  rw [Bool.or_eq_true] at h1 ⊢
  exact h1.imp id fun hs => SimR.same (S1 _ _ S) hs
theorem mA (HC : ∀ g args, SimP gg (bO ⟨P, I2⟩ rec2 g args) (bO ⟨P, I1⟩ rec1 g args)) (nt : Nat) (all : Array Oper) (m : Array Nat) (p0 : Pos) {k k' : K} (hk : SimK gg k k') :
  ∀ (l : List Oper) (i c : Nat) (dirty : Bool) {rd rd' : List Seen} {hs hs' : List (Option Nat × Hp)}, SimSeen gg rd rd' → SimHs gg hs hs' →
   SimK gg (eE ⟨P, I2⟩ rec2 nt all m p0 l k i c dirty rd hs) (eE ⟨P, I1⟩ rec1 nt all m p0 l k' i c dirty rd' hs')
 | [], i, c, dirty, rd, rd', hs, hs', R, T => hk
 | o :: l, i, c, dirty, rd, rd', hs, hs', R, T => fun env h h' S => by
  change SimR gg (cnd (cV nt o.dst) (
   match bU P o.op with
   | .pure => bnd (bJ ⟨P, I2⟩ rec2 all o env h) fun v h' => eE ⟨P, I2⟩ rec2 nt all m p0 l k (i + 1) c dirty rd hs (bP env o.dst v) h'
   | .reads => bnd (bJ ⟨P, I2⟩ rec2 all o env h) fun v h' =>
     cnd (eH m i v (bJ ⟨P, I2⟩ rec2 all o env) dirty hs) (eE ⟨P, I2⟩ rec2 nt all m p0 l k (i + 1) c dirty (⟨i, bJ ⟨P, I2⟩ rec2 all o env, v⟩ :: rd) hs (bP env o.dst v) h')
   | .makes => bnd (dO ⟨P, I2⟩ o (bD c p0) env h) fun v h' => eE ⟨P, I2⟩ rec2 nt all m p0 l k (i + 1) (c + 1) true rd hs (bP env o.dst v) h'
   | .acts => bnd (bJ ⟨P, I2⟩ rec2 all o env h) fun v h' =>
     cnd (rd.all (fun q => gR m q.at_ i || aW (q.look h') q.v)) (eE ⟨P, I2⟩ rec2 nt all m p0 l k (i + 1) c false rd ((some i, h') :: hs) (bP env o.dst v) h')))
   (cnd (cV nt o.dst) (
   match bU P o.op with
   | .pure => bnd (bJ ⟨P, I1⟩ rec1 all o env h') fun v h' => eE ⟨P, I1⟩ rec1 nt all m p0 l k' (i + 1) c dirty rd' hs' (bP env o.dst v) h'
   | .reads => bnd (bJ ⟨P, I1⟩ rec1 all o env h') fun v h' =>
     cnd (eH m i v (bJ ⟨P, I1⟩ rec1 all o env) dirty hs') (eE ⟨P, I1⟩ rec1 nt all m p0 l k' (i + 1) c dirty (⟨i, bJ ⟨P, I1⟩ rec1 all o env, v⟩ :: rd') hs' (bP env o.dst v) h')
   | .makes => bnd (dO ⟨P, I1⟩ o (bD c p0) env h') fun v h' => eE ⟨P, I1⟩ rec1 nt all m p0 l k' (i + 1) (c + 1) true rd' hs' (bP env o.dst v) h'
   | .acts => bnd (bJ ⟨P, I1⟩ rec1 all o env h') fun v h' =>
     cnd (rd'.all (fun q => gR m q.at_ i || aW (q.look h') q.v)) (eE ⟨P, I1⟩ rec1 nt all m p0 l k' (i + 1) c false rd' ((some i, h') :: hs') (bP env o.dst v) h')))
  refine ePt id ?_
  cases bU P o.op with
  | pure => exact ePe (kU HC all o env h h' S) fun v => mA HC nt all m p0 hk l _ _ _ R T _
  | reads =>
   exact ePe (kU HC all o env h h' S) fun v h1 h1' S1 => ePt (sM m i v (kU HC all o env) dirty T)
    (mA HC nt all m p0 hk l _ _ _ (.cons (kU HC all o env) R) T _ _ _ S1)
  | makes => exact ePe (dVn o _ env h h' S) fun v => mA HC nt all m p0 hk l _ _ _ R T _
  | acts =>
   exact ePe (kU HC all o env h h' S) fun v h1 h1' S1 => ePt (SimSeen.all S1 R)
    (mA HC nt all m p0 hk l _ _ _ R (.cons S1 T) _ _ _ S1)
theorem Sim.resv {gg : Bool} {h h' : Hp} (S : Sim gg h h') (k : Nat) : Sim gg (resv k h) (resv k h') := by
 cases k with
 | zero => exact S
 | succ k => exact ⟨by show bD (k + 1) h'.next = bD (k + 1) h.next; rw [S.next], S.get⟩
theorem cHm (HC : ∀ g args, SimP gg (bO ⟨P, I2⟩ rec2 g args) (bO ⟨P, I1⟩ rec1 g args)) (nt : Nat) (ops : Array Oper) {k k' : K} (hk : SimK gg k k') :
  SimK gg (iE ⟨P, I2⟩ rec2 nt ops k) (iE ⟨P, I1⟩ rec1 nt ops k') := fun env h h' S => by
 unfold iE
 rw [S.next]
 exact mA HC nt ops _ _ hk _ _ _ _ .nil (.cons (S.resv _) .nil) env _ _ (S.resv _)
theorem aIx {c : DV} {a b a' b' : aK} (ha : SimR gg a a') (hb : SimR gg b b') : SimR gg (aU c a b) (aU c a' b') := by
 unfold aU
 cases c <;> try exact SimR.none _
 rename_i x
 cases x
 ·exact hb
 ·exact ha
theorem pF {b b' : K → K} (hb : ∀ k k', SimK gg k k' → SimK gg (b k) (b' k')) : ∀ (n d : Nat), SimK gg (aL b n) (aL b' (n + d))
 | 0, d => fun env h h' S v k e => by cases e
 | n + 1, d => by
  rw [show n + 1 + d = (n + d) + 1 from by omega]
  exact hb _ _ (pF hb n d)
theorem gI (HC : ∀ g args, SimP gg (bO ⟨P, I2⟩ rec2 g args) (bO ⟨P, I1⟩ rec1 g args)) (nt n d : Nat) : ∀ (c : Code) (X X' : Nat → K) (kr kr' k k' : K), (∀ j, SimK gg (X j) (X' j)) → SimK gg kr kr' → SimK gg k k' →
  SimK gg (aM ⟨P, I2⟩ rec2 nt n c X kr k) (aM ⟨P, I1⟩ rec1 nt (n + d) c X' kr' k') := by
 intro c
 have hfail : ∀ k', SimK gg cJ k' := fun k' env h h' S v k e => by cases e
 induction c with
 | skip => intro X X' kr kr' k k' hX hr hk; exact hk
 | region id ops dr =>
  intro X X' kr kr' k k' hX hr hk
  change SimK gg (Bool.rec (motive := fun _ => K) (gV ⟨P, I2⟩ rec2 nt ops ops.toList k) (Bool.rec (motive := fun _ => K) cJ (iE ⟨P, I2⟩ rec2 nt ops k) (eJ P ops)) dr)
   (Bool.rec (motive := fun _ => K) (gV ⟨P, I1⟩ rec1 nt ops ops.toList k') (Bool.rec (motive := fun _ => K) cJ (iE ⟨P, I1⟩ rec1 nt ops k') (eJ P ops)) dr)
  cases dr with
  | false => exact pA HC nt ops hk _
  | true =>
   cases eJ P ops with
   | false => exact hfail _
   | true => exact cHm HC nt ops hk
 | seq x y ihx ihy => intro X X' kr kr' k k' hX hr hk; exact ihx _ _ _ _ _ _ hX hr (ihy _ _ _ _ _ _ hX hr hk)
 | cond c x y ihx ihy =>
  intro X X' kr kr' k k' hX hr hk env h h' S
  exact aIx (ihx _ _ _ _ _ _ hX hr hk env h h' S) (ihy _ _ _ _ _ _ hX hr hk env h h' S)
 | block id x ih =>
  intro X X' kr kr' k k' hX hr hk
  refine ih _ _ _ _ _ _ (fun j => ?_) hr hk
  cases hj : Nat.beq j id with
  | true => exact hk
  | false => exact hX j
 | loop x ih =>
  intro X X' kr kr' k k' hX hr hk
  exact pF (fun k k' hk => ih _ _ _ _ _ _ hX hr hk) n d
 | rangeFunc f ps x y ihx ihy => intro X X' kr kr' k k' hX hr hk; exact hfail _
 | exit id => intro X X' kr kr' k k' hX hr hk; exact hX id
 | scope x ih => intro X X' kr kr' k k' hX hr hk; exact ih _ _ _ _ _ _ hX hr hk
 | label l => intro X X' kr kr' k k' hX hr hk; exact hk
 | goto l => intro X X' kr kr' k k' hX hr hk; exact hfail _
 | ret => intro X X' kr kr' k k' hX hr hk; exact hr
 | refuse why => intro X X' kr kr' k k' hX hr hk; exact hfail _
theorem bMf {h h' : Hp} (S : Sim gg h h') (t : TypeId) (x : DV) {k k' : DV → aK} (hk : ∀ v, SimR gg (k v) (k' v)) : SimR gg (aBx ⟨P, I2⟩ t x h k) (aBx ⟨P, I1⟩ t x h' k') := by
 unfold aBx
 dsimp only
 cases P.underlying t with
 | none => exact SimR.none _
 | some d =>
  cases P.info? t with
  | none => exact SimR.none _
  | some i =>
   dsimp only
   refine ePe ?_ fun v _ _ _ => hk v
   cases jA d with
   | true => exact kQ _ _ h h' S
   | false => exact kM _ h h' S
theorem rT {h h' : Hp} (S : Sim gg h h') (env : aV) : ∀ (l : List ResultVar) (k k' : List DV → aK), (∀ vs, SimR gg (k vs) (k' vs)) → SimR gg (bEr ⟨P, I2⟩ env h l k) (bEr ⟨P, I1⟩ env h' l k')
 | [], k, k', hk => hk []
 | .tmp t :: l, k, k', hk => rT S env l _ _ fun vs => hk _
 | .cell a t :: l, k, k', hk => bMf S t (env a) fun v => rT S env l _ _ fun vs => hk _
theorem pU (fn : Func) : SimK gg (aR ⟨P, I2⟩ fn) (aR ⟨P, I1⟩ fn) := fun env h h' S => by
 unfold aR
 refine rT S env _ _ _ fun vs => ?_
 unfold bWo
 match vs with
 | [v] => exact SimR.some S _
 | [] => exact SimR.some S _
 | _ :: _ :: _ => exact SimR.some S _
theorem mB (HC : ∀ g args, SimP gg (bO ⟨P, I2⟩ rec2 g args) (bO ⟨P, I1⟩ rec1 g args)) (n d : Nat) (f : FuncId) (args : List DV) :
  SimP gg (aE ⟨P, I2⟩ rec2 n f args) (aE ⟨P, I1⟩ rec1 (n + d) f args) := by
 intro h h' S
 unfold aE
 dsimp only
 cases P.funcs[f]? with
 | none => exact SimR.none _
 | some fn =>
  dsimp only
  cases fn.body with
  | none => exact SimR.none _
  | some c => exact gI HC fn.ntmps n d c _ _ _ _ _ _ (fun _ _ _ _ _ _ _ e => by cases e) (pU fn) (pU fn) _ h h' S
end
theorem bTg {gg : Bool} {P : Program} {I2 I1 : FuncId → Option (List DV → Hp → aK)} (d : Nat) (h0 : ∀ g, I2 g = none → I1 g = none)
  (hI : ∀ g F, I2 g = some F → ∀ n args, SimP gg (F args) (bO ⟨P, I1⟩ (fnD ⟨P, I1⟩ (n + d)) g args)) : ∀ (n : Nat) (f : FuncId) (args : List DV), SimP gg (fnD ⟨P, I2⟩ n f args) (fnD ⟨P, I1⟩ (n + d) f args)
 | 0, f, args => fun h h' S v k e => by cases e
 | n + 1, f, args => by
  rw [show n + 1 + d = (n + d) + 1 from by omega]
  refine mB (fun g az => ?_) n d f args
  unfold bO
  dsimp only
  cases hg : I2 g with
  | none =>
   rw [h0 g hg]
   exact bTg d h0 hI n g az
  | some F =>
   have := hI g F hg n az
   unfold bO at this
   exact this
end Go.Dd

namespace Go.Dd
section
variable {gg : Bool} {P : Program} {I2 I1 : FuncId → Option (List DV → Hp → aK)} {rec2 rec1 : FuncId → List DV → Hp → aK}
theorem nD {c : Bool} {q q' : aK} (h : SimR gg q q') : SimR gg (cnd c q) (cnd c q') := by
 cases c with
 | false => exact SimR.none _
 | true => exact h
theorem ePc (k' : K) : SimK gg cJ k' := fun env h h' S v k e => by cases e
theorem xB (HC : ∀ g args, SimP gg (bO ⟨P, I2⟩ rec2 g args) (bO ⟨P, I1⟩ rec1 g args)) (n d : Nat) (I : ItC) (b : Bool) {kr kr' k k' : K} (hr : SimK gg kr kr') (hk : SimK gg k k') (e1 : aV) :
  SimP gg (pB ⟨P, I2⟩ rec2 n I b kr k e1) (pB ⟨P, I1⟩ rec1 (n + d) I b kr' k' e1) := fun h h' S =>
 nD (pA HC I.nt I.ops (gI HC I.nt n d I.after _ _ _ _ _ _ (fun _ => ePc _) hr hk) _ _ h h' S)
theorem bLl (HC : ∀ g args, SimP gg (bO ⟨P, I2⟩ rec2 g args) (bO ⟨P, I1⟩ rec1 g args)) (n d : Nat) (I : ItC) (nt : Nat) (p : Tmp) (x y : Code) (env : aV) {X X' : Nat → K} {kr kr' kk kk' : K} (hX : ∀ j, SimK gg (X j) (X' j)) (hr : SimK gg kr kr') (hk : SimK gg kk kk') :
  SimK gg (aIh ⟨P, I2⟩ rec2 n I nt p x y env X kr kk) (aIh ⟨P, I1⟩ rec1 (n + d) I nt p x y env X' kr' kk') := fun e1 h h' S =>
 nD (gI HC nt n d x _ _ _ _ _ _ (fun _ => ePc _) (ePc _)
  (gI HC nt n d y _ _ _ _ _ _ (fun i _ => xB HC n d I false (fun _ => hX i env) (ePc _) e1) (fun _ => xB HC n d I false (fun _ => hr env) (ePc _) e1)
   (fun _ => xB HC n d I true (ePc _) (gI HC I.nt n d I.post _ _ _ _ _ _ (fun _ => ePc _) (ePc _) (gI HC I.nt n d I.step _ _ _ _ _ _ (fun _ => ePc _) (ePc _) hk)) e1)) _ h h' S)
theorem aVi (HC : ∀ g args, SimP gg (bO ⟨P, I2⟩ rec2 g args) (bO ⟨P, I1⟩ rec1 g args)) (n d : Nat) (I : ItC) (nt : Nat) (g : Operand) (p : Tmp) (x y : Code) {X X' : Nat → K} {kr kr' k k' : K} (hX : ∀ j, SimK gg (X j) (X' j)) (hr : SimK gg kr kr') (hk : SimK gg k k') :
  SimK gg (mQ ⟨P, I2⟩ rec2 n I nt g p x y X kr k) (mQ ⟨P, I1⟩ rec1 (n + d) I nt g p x y X' kr' k') := by
 intro env h h' S
 unfold mQ
 cases opr env g with
 | f gf first cap =>
  cases first with
  | cons _ _ => exact SimR.none _
  | nil =>
   refine nD ?_
   rw [S.next]
   refine gI HC I.nt n d I.pre _ _ _ _ _ _ (fun _ => ePc _) (ePc _) (pF (fun kk kk' hkk => ?_) n d) _ _ _ (S.resv 2)
   refine gI HC I.nt n d I.test _ _ _ _ _ _ (fun j => ?_) (ePc _) (pA HC I.nt I.ops ?_ I.front)
   ·cases Nat.beq j I.b0 with
    | true => exact fun _ => hk env
    | false => exact ePc _
   ·intro e1 h1 h1' S1
    exact nD (c := ylB (e1 I.yt) h.next) (bLl HC n d I nt p x y env hX hr hkk e1 h1 h1' S1)
 | _ => exact SimR.none _
theorem bOm (HC : ∀ g args, SimP gg (bO ⟨P, I2⟩ rec2 g args) (bO ⟨P, I1⟩ rec1 g args)) (nt n d : Nat) (I : ItC) : ∀ (c : Code) (X X' : Nat → K) (kr kr' k k' : K), (∀ j, SimK gg (X j) (X' j)) → SimK gg kr kr' → SimK gg k k' →
  SimK gg (nP ⟨P, I2⟩ rec2 nt n I c X kr k) (nP ⟨P, I1⟩ rec1 nt (n + d) I c X' kr' k') := by
 intro c
 induction c with
 | skip => intro X X' kr kr' k k' hX hr hk; exact hk
 | region id ops dr => intro X X' kr kr' k k' hX hr hk; exact gI HC nt n d (.region id ops dr) _ _ _ _ _ _ hX hr hk
 | seq x y ihx ihy => intro X X' kr kr' k k' hX hr hk; exact ihx _ _ _ _ _ _ hX hr (ihy _ _ _ _ _ _ hX hr hk)
 | cond c x y ihx ihy =>
  intro X X' kr kr' k k' hX hr hk env h h' S
  exact aIx (ihx _ _ _ _ _ _ hX hr hk env h h' S) (ihy _ _ _ _ _ _ hX hr hk env h h' S)
 | block id x ih =>
  intro X X' kr kr' k k' hX hr hk
  refine ih _ _ _ _ _ _ (fun j => ?_) hr hk
  cases hj : Nat.beq j id with
  | true => exact hk
  | false => exact hX j
 | loop x ih =>
  intro X X' kr kr' k k' hX hr hk
  exact pF (fun k k' hk => ih _ _ _ _ _ _ hX hr hk) n d
 | rangeFunc g ps x y ihx ihy =>
  intro X X' kr kr' k k' hX hr hk
  obtain ⟨l⟩ := ps
  match l with
  | [p] => exact aVi HC n d I nt g p x y hX hr hk
  | [] => exact ePc _
  | _ :: _ :: _ => exact ePc _
 | exit id => intro X X' kr kr' k k' hX hr hk; exact hX id
 | ret => intro X X' kr kr' k k' hX hr hk; exact hr
 | _ => intros; exact ePc _
theorem bOf (HC : ∀ g args, SimP gg (bO ⟨P, I2⟩ rec2 g args) (bO ⟨P, I1⟩ rec1 g args)) (n d : Nat) (I : ItC) (f : FuncId) (args : List DV) :
  SimP gg (iY ⟨P, I2⟩ rec2 n I f args) (iY ⟨P, I1⟩ rec1 (n + d) I f args) := by
 intro h h' S
 unfold iY
 dsimp only
 cases P.funcs[f]? with
 | none => exact SimR.none _
 | some fn =>
  dsimp only
  cases fn.body with
  | none => exact SimR.none _
  | some c => exact bOm HC fn.ntmps n d I c _ _ _ _ _ _ (fun _ => ePc _) (pU fn) (pU fn) _ h h' S
end
end Go.Dd

namespace Go.Dd
noncomputable def fnR (C : Cfg) (I : ItC) (q : FuncId → Bool) (n : Nat) : FuncId → List DV → Hp → aK :=
 Nat.rec (motive := fun _ => FuncId → List DV → Hp → aK) (fun _ _ _ => none) (fun m ih f => bif q f then iY C ih m I f else aE C ih m f) n
theorem bPq {C : Cfg} {I : ItC} {q : FuncId → Bool} (hP : POk C.P) (hI : ∀ G g F, C.I g = some F → jQ C.P G g F) (iOk : ItOk C.P I) (hq : ∀ f, q f = true → ∀ fn c, C.P.funcs[f]? = some fn → fn.body = some c → gO c = true) :
  ∀ (n : Nat) (G : Gd) (f : FuncId), jQ C.P G f (fnR C I q n f)
 | 0, G, f => fun args h v h1 hr => by cases hr
 | n + 1, G, f => by
  show jQ C.P G f (bif q f then iY C (fnR C I q n) n I f else aE C (fnR C I q n) n f)
  have K : OkC C (fnR C I q n) := ⟨hI, fun G g => bPq hP hI iOk hq n G g⟩
  cases hf : q f with
  | true => exact bVd K hP iOk n f (hq f hf)
  | false => exact qE K hP n f
theorem aGc {gg : Bool} {P : Program} {I2 I1 : FuncId → Option (List DV → Hp → aK)} {I : ItC} {q : FuncId → Bool} (d : Nat) (h0 : ∀ g, I2 g = none → I1 g = none)
  (hI : ∀ g F, I2 g = some F → ∀ n args, SimP gg (F args) (bO ⟨P, I1⟩ (fnR ⟨P, I1⟩ I q (n + d)) g args)) : ∀ (n : Nat) (f : FuncId) (args : List DV), SimP gg (fnR ⟨P, I2⟩ I q n f args) (fnR ⟨P, I1⟩ I q (n + d) f args)
 | 0, f, args => fun h h' S v k e => by cases e
 | n + 1, f, args => by
  rw [show n + 1 + d = (n + d) + 1 from by omega]
  have HC : ∀ g az, SimP gg (bO ⟨P, I2⟩ (fnR ⟨P, I2⟩ I q n) g az) (bO ⟨P, I1⟩ (fnR ⟨P, I1⟩ I q (n + d)) g az) := fun g az => by
   unfold bO
   dsimp only
   cases hg : I2 g with
   | none =>
    rw [h0 g hg]
    exact aGc d h0 hI n g az
   | some F =>
    have := hI g F hg n az
    unfold bO at this
    exact this
  show SimP gg ((bif q f then iY ⟨P, I2⟩ (fnR ⟨P, I2⟩ I q n) n I f else aE ⟨P, I2⟩ (fnR ⟨P, I2⟩ I q n) n f) args) ((bif q f then iY ⟨P, I1⟩ (fnR ⟨P, I1⟩ I q (n + d)) (n + d) I f else aE ⟨P, I1⟩ (fnR ⟨P, I1⟩ I q (n + d)) (n + d) f) args)
  cases q f with
  | true => exact bOf HC n d I f args
  | false => exact mB HC n d f args
end Go.Dd

namespace Go.Dd
noncomputable section
def jE (w : Int) : Nat :=
 match w with
 | .ofNat w => bif Nat.beq (Nat.mod w 2) 0 && (Nat.ble 6 w && Nat.ble w 262144) then Nat.div w 2 else 0
 | .negSucc _ => 0
def iJ (w : Int) : Bool :=
 match w with
 | .ofNat w => Nat.beq (Nat.mod w 2) 1 && Nat.blt w 2147483648
 | .negSucc w => Nat.beq (Nat.mod w 2) 0 && Nat.blt w 2147483648
def dGg (w : Int) : Int :=
 match w with
 | .ofNat w => .ofNat (Nat.div w 2)
 | .negSucc w => .negSucc (Nat.div w 2)
structure MemV where
 wb : Pos
 n : Nat
 fin : Nat
 made : Nat
 pb : Pos
 t : WT
 pl : WT
def mC (m : Pos) (h : Hp) : Option MemV :=
 match h.bl.get m with
 | some (.row .ex [.l wb 0 n c, .i .i64 (.ofNat fin), .i .i64 (.ofNat made), .m pb]) =>
  match h.bl.get wb, h.bl.get pb with
  | some (.big n' t), some (.mi pl) => bif Nat.beq n n' && Nat.beq n c then (bif Nat.blt n 1000000 && (Nat.ble fin n && Nat.blt made 1000000) then some ⟨wb, n, fin, made, pb, t, pl⟩ else none) else none
  | _, _ => none
 | _ => none
def gP (o : Int) (pl : WT) : Nat :=
 bif Nat.beq (jE o) 0 then 0 else match pl.get (jE o) with
  | .ofNat 0 => 0
  | _ => jE o
def bN (w : Int) (pl : WT) : Bool :=
 match w with
 | .ofNat 0 => true
 | .ofNat 2 => true
 | .ofNat 4 => true
 | w => iJ w || !(Nat.beq (gP w pl) 0)
def aBe (w : Int) (pl : WT) : Bool :=
 match w with
 | .ofNat 0 => true
 | w => !(Nat.beq (gP w pl) 0)
def oC (args : List DV) (h : Hp) (k : MemV → List DV → aK) : aK :=
 match args with
 | .p m 0 :: rest => match mC m h with
  | some M => k M rest
  | none => none
 | _ => none
def err (e : Nat) (h : Hp) : aK := some (.t [.i .i64 (.ofNat 0), .i .i64 (.ofNat e)], h)
def isF (args : List DV) (h : Hp) : aK := oC args h fun M r => match r with
 | [.i .i64 w] => some (.b (!(Nat.beq (gP w M.pl) 0)), h)
 | _ => none
def aBh (args : List DV) (h : Hp) : aK := oC args h fun M r => match r with
 | [.i .i64 w] => some (.b (bN w M.pl), h)
 | _ => none
def aBw (args : List DV) (h : Hp) : aK := oC args h fun M r => match r with
 | [] => some (.i .i64 (.ofNat M.n), h)
 | _ => none
def bJk (args : List DV) (h : Hp) : aK := oC args h fun M r => match r with
 | [] => some (.i .i64 (.ofNat (Nat.sub M.n M.fin)), h)
 | _ => none
def lS (M : MemV) (o : Int) (k : Nat → aK) : aK :=
 bif Nat.blt (Nat.add (gP o M.pl) 1) M.n then (match M.t.get (gP o M.pl) with
  | .ofNat hd => bif Nat.blt hd 1000000000000 then k hd else none
  | .negSucc _ => none) else none
def mR (args : List DV) (h : Hp) : aK := oC args h fun M r => match r with
 | [.i .i64 o] => lS M o fun _ => some (.i .i64 (M.t.get (Nat.add (gP o M.pl) 1)), h)
 | _ => none
def nG (args : List DV) (h : Hp) : aK := oC args h fun M r => match r with
 | [.i .i64 o] => lS M o fun hd => some (.i .i64 (.ofNat (Nat.mod hd 4)), h)
 | _ => none
def jS (args : List DV) (h : Hp) : aK := oC args h fun M r => match r with
 | [.i .i64 o] => lS M o fun hd => some (.i .i64 (.ofNat (Nat.div hd 4)), h)
 | _ => none
def kH (M : MemV) (o i : Int) (bad : Nat → aK) (k : Nat → Nat → aK) : aK :=
 bif Nat.beq (gP o M.pl) 0 then bad 1 else match i with
  | .negSucc _ => bad 5
  | .ofNat i => lS M o fun hd => bif Nat.ble (Nat.div hd 4) i then bad 5 else
    (bif Nat.blt (Nat.add (Nat.add (gP o M.pl) 3) i) M.n then k hd (Nat.add (Nat.add (gP o M.pl) 3) i) else none)
def aQn (args : List DV) (h : Hp) : aK := oC args h fun M r => match r with
 | [.i .i64 o, .i .i64 i] => kH M o i (fun e => err e h) fun _ a => some (.t [.i .i64 (M.t.get a), .i .i64 (.ofNat 0)], h)
 | _ => none
def pJ (M : MemV) (a : Nat) (w : Int) (h : Hp) : aK := some (.i .i64 (.ofNat 0), ⟨h.next, Tr.set (.big M.n (M.t.set a w)) M.wb h.bl⟩)
def aBj (args : List DV) (h : Hp) : aK := oC args h fun M r => match r with
 | [.i .i64 o, .i .i64 i, .i .i64 w] => kH M o i (fun e => some (.i .i64 (.ofNat e), h)) fun hd a =>
   match Nat.mod hd 4 with
   | 0 => bif bN w M.pl then pJ M a w h else some (.i .i64 (.ofNat 6), h)
   | 2 => (match w with
    | .ofNat c => bif Nat.ble c 255 then pJ M a w h else some (.i .i64 (.ofNat 6), h)
    | .negSucc _ => some (.i .i64 (.ofNat 6), h))
   | _ => pJ M a w h
 | _ => none
def kV (args : List DV) (h : Hp) : aK := oC args h fun M r => match r with
 | [.i .i64 o, .i .i64 c] => bif Nat.beq (gP o M.pl) 0 || !(aBe c M.pl) then some (.i .i64 (.ofNat 1), h) else
   (bif Nat.blt (Nat.add (gP o M.pl) 1) M.n then pJ M (Nat.add (gP o M.pl) 1) c h else none)
 | _ => none
def nR (t : WT) (c : Nat) : Nat → WT :=
 Nat.rec (motive := fun _ => Nat → WT) (fun _ => t) (fun _ ih a => (ih (Nat.add a 1)).set a (.ofNat 0)) c
def pK (args : List DV) (h : Hp) : aK :=
 match args with
 | [.p m 0, .i .i64 cls, .i .i64 fmt, .i .i64 cnt] => match mC m h with
  | none => none
  | some M => bif !(aBe cls M.pl) then err 1 h else match fmt, cnt with
   | .ofNat f, .ofNat c => bif Nat.ble f 2 && Nat.ble c 256 then
     (bif Nat.blt (Nat.sub M.n M.fin) (Nat.add c 3) then err 4 h else
      (bif Nat.ble 3 M.fin && Nat.ble M.fin 131072 then
       some (.t [.i .i64 (.ofNat (Nat.mul M.fin 2)), .i .i64 (.ofNat 0)],
        ⟨h.next, Tr.set (.row .ex [.l M.wb 0 M.n M.n, .i .i64 (.ofNat (Nat.add M.fin (Nat.add c 3))), .i .i64 (.ofNat (Nat.succ M.made)), .m M.pb]) m
         (Tr.set (.mi (M.pl.set M.fin (.ofNat 1))) M.pb
          (Tr.set (.big M.n (nR (((M.t.set M.fin (.ofNat (Nat.add (Nat.mul c 4) f))).set (Nat.add M.fin 1) cls).set (Nat.add M.fin 2) (.ofNat (Nat.succ M.made))) c (Nat.add M.fin 3))) M.wb h.bl))⟩)
       else none))
     else err 1 h
   | _, _ => err 1 h
 | _ => none
def aYd (args : List DV) (h : Hp) : aK :=
 match args with
 | [.i .i64 (.ofNat n)] => bif Nat.blt n 16 || Nat.blt 131072 n then some (.p0, h) else
   some (.p (bD 2 h.next) 0, ⟨bD 3 h.next, Tr.set (.row .ex [.l h.next 0 n n, .i .i64 (.ofNat 3), .i .i64 (.ofNat 0), .m (bD 1 h.next)]) (bD 2 h.next)
    (Tr.set (.mi .e) (bD 1 h.next) (Tr.set (.big n .e) h.next h.bl))⟩)
 | [.i .i64 (.negSucc _)] => some (.p0, h)
 | _ => none
def iT (args : List DV) (h : Hp) : aK :=
 match args with
 | [.i .i64 w] => some (.b (iJ w), h)
 | _ => none
def nB (args : List DV) (h : Hp) : aK :=
 match args with
 | [.i .i64 w] => bif iJ w then some (.i .i64 (dGg w), h) else some (.i .i64 (.ofNat 0), h)
 | _ => none
def lY (args : List DV) (h : Hp) : aK :=
 match args with
 | [.i .i64 (.ofNat n)] => bif Nat.blt n 1073741824 then some (.t [.i .i64 (.ofNat (Nat.succ (Nat.mul n 2))), .b true], h) else some (.t [.i .i64 (.ofNat 0), .b false], h)
 | [.i .i64 (.negSucc n)] => bif Nat.blt n 1073741824 then some (.t [.i .i64 (.negSucc (Nat.mul n 2)), .b true], h) else some (.t [.i .i64 (.ofNat 0), .b false], h)
 | _ => none
def aBf (g : Nat) : Option (List DV → Hp → aK) :=
 bif Nat.beq g 18 then some aBh else bif Nat.beq g 46 then some isF else bif Nat.beq g 94 then some aBw else bif Nat.beq g 75 then some bJk else
 bif Nat.beq g 31 then some pK else bif Nat.beq g 30 then some aYd else bif Nat.beq g 35 then some kV else bif Nat.beq g 38 then some aBj else
 bif Nat.beq g 104 then some mR else bif Nat.beq g 90 then some nG else bif Nat.beq g 73 then some jS else bif Nat.beq g 45 then some iT else
 bif Nat.beq g 88 then some lY else bif Nat.beq g 122 then some nB else bif Nat.beq g 52 then some aQn else none
end
end Go.Dd

namespace Go.Dd
open Go.Proofs
def cf (f : Func) : Code := match f.body with
 | some c => c
 | none => .skip
def cL : Code → Code
 | .seq a _ => a
 | .cond _ a _ => a
 | .block _ a => a
 | .loop a => a
 | .scope a => a
 | c => c
def cR : Code → Code
 | .seq _ b => b
 | .cond _ _ b => b
 | c => c
def cC : Code → Operand
 | .cond c _ _ => c
 | _ => .const .nilFunc
def x0 : Nat → K := fun _ => cJ
def xs (X : Nat → K) (i : Nat) (k : K) : Nat → K := fun j => bif Nat.beq j i then k else X j
def aQy (c : Nat) : List Nat → Nat → Int
 | [], _ => .negSucc 0
 | x :: l, i => bif Nat.beq x c then .ofNat i else aQy c l (i + 1)
def lW (args : List DV) (h : Hp) : aK :=
 match args with
 | [.s l, .i .u8 (.ofNat c)] => bif Nat.blt c 256 then some (.i .i64 (aQy c l 0), h) else none
 | _ => none
noncomputable def CF0 : Cfg := ⟨Tryz.prog, fun _ => none⟩
noncomputable def lU (p : Pos) : Pos → Bool := Pos.rec (motive := fun _ => Pos → Bool) (fun q => Pos.rec (motive := fun _ => Bool) true (fun _ _ => false) (fun _ _ => false) q)
 (fun _ ih q => Pos.rec (motive := fun _ => Bool) false (fun q _ => ih q) (fun _ _ => false) q) (fun _ ih q => Pos.rec (motive := fun _ => Bool) false (fun _ _ => false) (fun q _ => ih q) q) p
noncomputable def jF (q : Pos) (l1 : DV) (cs : List DV) (h : Hp) : aK :=
 match l1 with
 | .l0 => some (.l h.next 0 1 1, ⟨h.next.succ, Tr.set (.row (.gr 4) cs) h.next h.bl⟩)
 | .l b o len cap => cnd (Nat.ble cap len && !(lU b q)) (match h.bl.get b, cellsAt b o (len * 4) h with
  | some (.row (.gr es) l), some old => if es = 4 ∧ o + cap * 4 = l.length ∧ (len + 1) * 56 ≤ sY then
    some (.l h.next 0 (len + 1) (len + 1), ⟨h.next.succ, Tr.set (.row (.gr 4) (old ++ cs)) h.next (Tr.set (.row .sp (bV o l)) b h.bl)⟩) else none
  | _, _ => none)
 | _ => none
noncomputable def rL (c q : Pos) (h : Hp) : aK :=
 bnd (aA (.p c 4) h) fun l1 _ =>
 bnd (bK l1 h) fun n _ =>
 bnd (aH 4 (.p q 0) h) fun x _ =>
 match x with
 | .a cs => cnd (!(lU c q)) (
  bnd (jF q l1 cs ⟨h.next.succ.succ, h.bl⟩) fun l2 h3 =>
  bnd (aD 1 (.p c 4) l2 h3) fun _ h4 => some (n, h4))
 | _ => none
noncomputable def lB (args : List DV) (h : Hp) : aK :=
 match args with
 | [.p c 0, .a lit] =>
  bnd (bA lit h) fun _ h1 =>
  bnd (aA (.p c 4) h1) fun ls h2 =>
  bnd (fnD CF0 60 163 [ls, .f 240 [] [.p h.next 0]] h2) fun i h3 =>
  bnd (aF .lss i (.i .i64 (Int.ofNat 0)) h3) fun t h4 =>
  aU t (rL c h.next h4) (some (i, h4))
 | _ => none
noncomputable def CF1 : Cfg := ⟨Tryz.prog, fun g => bif Nat.beq g 229 then some lW else bif Nat.beq g 214 then some lB else none⟩
noncomputable def CF : Cfg := ⟨Tryz.prog, fun g => bif Nat.beq g 229 then some lW else bif Nat.beq g 214 then some lB else aBf g⟩
def fQ : Code → Array Oper
 | .region _ ops _ => ops
 | _ => #[]
noncomputable def itL : Code := cL (cL (cR (cf Tryz.f162)))
noncomputable def itB : Code := cL (cL (cR itL))
def eHj : List Oper → Nat → Oper
 | [], _ => ⟨none, .move (.const .nilFunc), 0, "", #[], none⟩
 | o :: _, 0 => o
 | _ :: l, n + 1 => eHj l n
noncomputable def itm : ItC := { gf := 162, nt := 31, pre := cL (cf Tryz.f162), b0 := 0, test := cL itL, b1 := 1, rid := 3, front := (fQ (cL (cL itB))).toList.take 4, y := eHj (fQ (cL (cL itB))).toList 4, back := (fQ (cL (cL itB))).toList.drop 5, after := cR (cL itB), post := cR itB, step := cR (cR itL), yd := 26, yt := 22, yx := 25 }
def rgB (g : FuncId) : Bool := Nat.beq g 95 || Nat.beq g 287
noncomputable abbrev fO (C : Cfg) (n : Nat) : FuncId → List DV → Hp → aK := fnR C itm rgB n
theorem cB (f : FuncId) (hf : rgB f = false) (C : Cfg) (n : Nat) (args : List DV) (h : Hp) : fO C (n + 1) f args h = aE C (fO C n) n f args h := by
 show (bif rgB f then iY C (fO C n) n itm f else aE C (fO C n) n f) args h = _
 rw [hf]
 rfl
theorem dXm (f : FuncId) (hf : rgB f = true) (C : Cfg) (n : Nat) (args : List DV) (h : Hp) : fO C (n + 1) f args h = iY C (fO C n) n itm f args h := by
 show (bif rgB f then iY C (fO C n) n itm f else aE C (fO C n) n f) args h = _
 rw [hf]
 rfl
abbrev RT := FuncId → List DV → Hp → aK
abbrev TT0 := Hp → aK
abbrev TT1 := DV → Hp → aK
abbrev eN := DV → DV → Hp → aK
abbrev dH := DV → DV → DV → Hp → aK
abbrev dB := DV → DV → DV → DV → Hp → aK
abbrev cA := DV → DV → DV → DV → DV → Hp → aK
abbrev dA := DV → DV → DV → DV → DV → DV → Hp → aK
abbrev TT7 := DV → DV → DV → DV → DV → DV → DV → Hp → aK
abbrev TT8 := DV → DV → DV → DV → DV → DV → DV → DV → Hp → aK
abbrev TT9 := DV → DV → DV → DV → DV → DV → DV → DV → DV → Hp → aK
abbrev aSq := DV → DV → DV → DV → DV → DV → DV → DV → DV → DV → Hp → aK
abbrev eCv := DV → DV → DV → DV → DV → DV → DV → DV → DV → DV → DV → Hp → aK
abbrev eOp := DV → DV → DV → DV → DV → DV → DV → DV → DV → DV → DV → DV → Hp → aK
abbrev eNe := DV → DV → DV → DV → DV → DV → DV → DV → DV → DV → DV → DV → DV → Hp → aK
abbrev eMv := DV → DV → DV → DV → DV → DV → DV → DV → DV → DV → DV → DV → DV → DV → Hp → aK
abbrev eNr := DV → DV → DV → DV → DV → DV → DV → DV → DV → DV → DV → DV → DV → DV → DV → Hp → aK
abbrev eLo := DV → DV → DV → DV → DV → DV → DV → DV → DV → DV → DV → DV → DV → DV → DV → DV → Hp → aK
abbrev eOm := DV → DV → DV → DV → DV → DV → DV → DV → DV → DV → DV → DV → DV → DV → DV → DV → DV → Hp → aK
abbrev eJm := DV → DV → DV → DV → DV → DV → DV → DV → DV → DV → DV → DV → DV → DV → DV → DV → DV → DV → Hp → aK
abbrev eOu := DV → DV → DV → DV → DV → DV → DV → DV → DV → DV → DV → DV → DV → DV → DV → DV → DV → DV → DV → Hp → aK
abbrev eJv := DV → DV → DV → DV → DV → DV → DV → DV → DV → DV → DV → DV → DV → DV → DV → DV → DV → DV → DV → DV → Hp → aK
abbrev K0 (f : TT0) : K := fun env h => f h
abbrev K1 (f : TT1) (a0 : Nat) : K := fun env h => f (env a0) h
abbrev K2 (f : eN) (a0 a1 : Nat) : K := fun env h => f (env a0) (env a1) h
abbrev K3 (f : dH) (a0 a1 a2 : Nat) : K := fun env h => f (env a0) (env a1) (env a2) h
abbrev K4 (f : dB) (a0 a1 a2 a3 : Nat) : K := fun env h => f (env a0) (env a1) (env a2) (env a3) h
abbrev K5 (f : cA) (a0 a1 a2 a3 a4 : Nat) : K := fun env h => f (env a0) (env a1) (env a2) (env a3) (env a4) h
abbrev K6 (f : dA) (a0 a1 a2 a3 a4 a5 : Nat) : K := fun env h => f (env a0) (env a1) (env a2) (env a3) (env a4) (env a5) h
abbrev K7 (f : TT7) (a0 a1 a2 a3 a4 a5 a6 : Nat) : K := fun env h => f (env a0) (env a1) (env a2) (env a3) (env a4) (env a5) (env a6) h
abbrev K8 (f : TT8) (a0 a1 a2 a3 a4 a5 a6 a7 : Nat) : K := fun env h => f (env a0) (env a1) (env a2) (env a3) (env a4) (env a5) (env a6) (env a7) h
abbrev K9 (f : TT9) (a0 a1 a2 a3 a4 a5 a6 a7 a8 : Nat) : K := fun env h => f (env a0) (env a1) (env a2) (env a3) (env a4) (env a5) (env a6) (env a7) (env a8) h
abbrev K10 (f : aSq) (a0 a1 a2 a3 a4 a5 a6 a7 a8 a9 : Nat) : K := fun env h => f (env a0) (env a1) (env a2) (env a3) (env a4) (env a5) (env a6) (env a7) (env a8) (env a9) h
abbrev K11 (f : eCv) (a0 a1 a2 a3 a4 a5 a6 a7 a8 a9 a10 : Nat) : K := fun env h => f (env a0) (env a1) (env a2) (env a3) (env a4) (env a5) (env a6) (env a7) (env a8) (env a9) (env a10) h
abbrev K12 (f : eOp) (a0 a1 a2 a3 a4 a5 a6 a7 a8 a9 a10 a11 : Nat) : K := fun env h => f (env a0) (env a1) (env a2) (env a3) (env a4) (env a5) (env a6) (env a7) (env a8) (env a9) (env a10) (env a11) h
abbrev K13 (f : eNe) (a0 a1 a2 a3 a4 a5 a6 a7 a8 a9 a10 a11 a12 : Nat) : K := fun env h => f (env a0) (env a1) (env a2) (env a3) (env a4) (env a5) (env a6) (env a7) (env a8) (env a9) (env a10) (env a11) (env a12) h
abbrev K14 (f : eMv) (a0 a1 a2 a3 a4 a5 a6 a7 a8 a9 a10 a11 a12 a13 : Nat) : K := fun env h => f (env a0) (env a1) (env a2) (env a3) (env a4) (env a5) (env a6) (env a7) (env a8) (env a9) (env a10) (env a11) (env a12) (env a13) h
abbrev K15 (f : eNr) (a0 a1 a2 a3 a4 a5 a6 a7 a8 a9 a10 a11 a12 a13 a14 : Nat) : K := fun env h => f (env a0) (env a1) (env a2) (env a3) (env a4) (env a5) (env a6) (env a7) (env a8) (env a9) (env a10) (env a11) (env a12) (env a13) (env a14) h
abbrev K16 (f : eLo) (a0 a1 a2 a3 a4 a5 a6 a7 a8 a9 a10 a11 a12 a13 a14 a15 : Nat) : K := fun env h => f (env a0) (env a1) (env a2) (env a3) (env a4) (env a5) (env a6) (env a7) (env a8) (env a9) (env a10) (env a11) (env a12) (env a13) (env a14) (env a15) h
abbrev K17 (f : eOm) (a0 a1 a2 a3 a4 a5 a6 a7 a8 a9 a10 a11 a12 a13 a14 a15 a16 : Nat) : K := fun env h => f (env a0) (env a1) (env a2) (env a3) (env a4) (env a5) (env a6) (env a7) (env a8) (env a9) (env a10) (env a11) (env a12) (env a13) (env a14) (env a15) (env a16) h
abbrev K18 (f : eJm) (a0 a1 a2 a3 a4 a5 a6 a7 a8 a9 a10 a11 a12 a13 a14 a15 a16 a17 : Nat) : K := fun env h => f (env a0) (env a1) (env a2) (env a3) (env a4) (env a5) (env a6) (env a7) (env a8) (env a9) (env a10) (env a11) (env a12) (env a13) (env a14) (env a15) (env a16) (env a17) h
abbrev K19 (f : eOu) (a0 a1 a2 a3 a4 a5 a6 a7 a8 a9 a10 a11 a12 a13 a14 a15 a16 a17 a18 : Nat) : K := fun env h => f (env a0) (env a1) (env a2) (env a3) (env a4) (env a5) (env a6) (env a7) (env a8) (env a9) (env a10) (env a11) (env a12) (env a13) (env a14) (env a15) (env a16) (env a17) (env a18) h
abbrev K20 (f : eJv) (a0 a1 a2 a3 a4 a5 a6 a7 a8 a9 a10 a11 a12 a13 a14 a15 a16 a17 a18 a19 : Nat) : K := fun env h => f (env a0) (env a1) (env a2) (env a3) (env a4) (env a5) (env a6) (env a7) (env a8) (env a9) (env a10) (env a11) (env a12) (env a13) (env a14) (env a15) (env a16) (env a17) (env a18) (env a19) h
theorem okG {d s : K} (m : d = s) (args : List DV) (h : Hp) {a b : aK} (e1 : a = d (aJ args) h) (e2 : s (aJ args) h = b) : a = b :=
 e1.trans ((congrFun (congrFun m (aJ args)) h).trans e2)
abbrev aC (n : Nat) : DV := .i .i64 (Int.ofNat n)
abbrev cQ : List DV := [(.i .i64 (Int.ofNat 0)), (.s []), (.i .i64 (Int.ofNat 0)), .l0, .l0, .l0]
abbrev aP (args : List DV) (i : Nat) : DV := args.getD i bB
end Go.Dd

namespace Go.Dd
open Go.Proofs
noncomputable def lI (rec : FuncId → List DV → Hp → aK) (n : Nat) (x5 : DV) (h0 : Hp) : aK :=
 bnd (aO x5 h0) fun v1 h1 =>
 bnd (aB 1 v1 h1) fun v2 h2 =>
 bnd (aA v2 h2) fun v3 h3 =>
 bnd (aT [(.i .i64 (Int.ofNat 0)), (.i .i64 (Int.ofNat 0)), (.i .i64 (Int.ofNat 0)), (.i .i64 (Int.ofNat 0)), (.i .i64 (Int.ofNat 0)), .l0, .l0, (.b false), (.i .i64 (Int.ofNat 0)), (.i .i64 (Int.ofNat 0))] [] h3) fun v4 h4 =>
 bnd (rec 19 [v3, v4] h4) fun v5 h5 =>
 bnd (aF .eql v5 (.i .i64 (Int.ofNat 22)) h5) fun v6 h6 =>
 bnd (gD v6 true (some (x5, h6)) h6) fun v7 h7 =>
 bnd (gD v6 true (aO v7 h7) h7) fun v8 h8 =>
 bnd (gD v6 true (aB 1 v8 h8) h8) fun v9 h9 =>
 bnd (gD v6 true (aA v9 h9) h9) fun v10 h10 =>
 bnd (gD v6 true (rec 22 [v10] h10) h10) fun v11 h11 =>
 bnd (gD v6 true (qR (.pointer 51) false v11 .p0 h11) h11) fun v12 h12 =>
 bnd (aQ v6 v12 (.b false) h12) fun v13 h13 =>
 bnd (gD v13 true (rec 23 [] h13) h13) fun v14 h14 =>
 bnd (aQ v13 v14 (.b false) h14) fun v15 h15 =>
 some (v15, h15)
noncomputable def aVg (rec : FuncId → List DV → Hp → aK) (n : Nat) (kk10 : DV → Hp → aK) (x5 : DV) (h0 : Hp) : aK :=
  bnd (aO x5 h0) fun v31 h31 =>
  bnd (aB 1 v31 h31) fun v32 h32 =>
  bnd (aA v32 h32) fun v33 h33 =>
  bnd (rec 21 [v33] h33) fun v34 h34 =>
  bnd (aF .lss v34 (.i .i64 (Int.ofNat 60)) h34) fun v35 h35 =>
  aU v35 (
   bnd (aO x5 h35) fun v36 h36 =>
   bnd (aB 1 v36 h36) fun v37 h37 =>
   bnd (aA v37 h37) fun v38 h38 =>
   bnd (aT [(.i .i64 (Int.ofNat 0)), (.i .i64 (Int.ofNat 0)), (.i .i64 (Int.ofNat 0)), (.i .i64 (Int.ofNat 0)), (.i .i64 (Int.ofNat 0)), .l0, .l0, (.b false), (.i .i64 (Int.ofNat 0)), (.i .i64 (Int.ofNat 0))] [] h38) fun v39 h39 =>
   bnd (rec 19 [v38, v39] h39) fun v40 h40 =>
   bnd (aF .neq v40 (.i .i64 (Int.ofNat 0)) h40) fun v41 h41 =>
   aU v41 (
    some ((.b false), h41)) (
    kk10 x5 h41)) (
   lI rec n x5 h35)
noncomputable def aEd (rec : FuncId → List DV → Hp → aK) (n : Nat) (m : Nat) : DV → Hp → aK :=
 Nat.rec (motive := fun _ => DV → Hp → aK) (fun _ _ => none) (fun _ ih => aVg rec n ih) m
noncomputable def dHx (rec : FuncId → List DV → Hp → aK) (n : Nat) : DV → Hp → aK := aEd rec n n
noncomputable def cJs (rec : FuncId → List DV → Hp → aK) (n : Nat) (x5 : DV) (h0 : Hp) : aK :=
 dHx rec n x5 h0
noncomputable def jR (rec : FuncId → List DV → Hp → aK) (n : Nat) (x5 x7 : DV) (h0 : Hp) : aK :=
 bnd (aO x5 h0) fun v75 h75 =>
 bnd (aB 1 v75 h75) fun v76 h76 =>
 bnd (aA v76 h76) fun v77 h77 =>
 bnd (aT [(.i .i64 (Int.ofNat 0)), (.i .i64 (Int.ofNat 0)), (.i .i64 (Int.ofNat 0)), (.i .i64 (Int.ofNat 0)), (.i .i64 (Int.ofNat 0)), .l0, .l0, (.b false), (.i .i64 (Int.ofNat 0)), (.i .i64 (Int.ofNat 0))] [(5, 1, x7)] h77) fun v78 h78 =>
 bnd (rec 19 [v77, v78] h78) fun v79 h79 =>
 bnd (aF .eql v79 (.i .i64 (Int.ofNat 0)) h79) fun v80 h80 =>
 bnd (bK x7 h80) fun v81 h81 =>
 bnd (aF .leq v81 (.i .i64 (Int.ofNat 24)) h81) fun v82 h82 =>
 bnd (qR .bool false v80 v82 h82) fun v83 h83 =>
 bnd (gD v83 false (some (x5, h83)) h83) fun v84 h84 =>
 bnd (gD v83 false (aO v84 h84) h84) fun v85 h85 =>
 bnd (gD v83 false (aB 1 v85 h85) h85) fun v86 h86 =>
 bnd (gD v83 false (aA v86 h86) h86) fun v87 h87 =>
 bnd (gD v83 false (aT [(.i .i64 (Int.ofNat 0)), (.i .i64 (Int.ofNat 0)), (.i .i64 (Int.ofNat 0)), (.i .i64 (Int.ofNat 0)), (.i .i64 (Int.ofNat 0)), .l0, .l0, (.b false), (.i .i64 (Int.ofNat 0)), (.i .i64 (Int.ofNat 0))] [(4, 1, (.i .i64 (Int.ofNat 6)))] h87) h87) fun v88 h88 =>
 bnd (gD v83 false (rec 19 [v87, v88] h88) h88) fun v89 h89 =>
 bnd (gD v83 false (aF .neq v89 (.i .i64 (Int.ofNat 1)) h89) h89) fun v90 h90 =>
 bnd (aQ v83 (.b true) v90 h90) fun v91 h91 =>
 aU v91 (
  some ((.b false), h91)) (
  cJs rec n x5 h91)
noncomputable def rX (rec : FuncId → List DV → Hp → aK) (n : Nat) (kk12 : DV → DV → DV → DV → Hp → aK) (x1 x5 x7 x8 : DV) (h0 : Hp) : aK :=
  bnd (rec 20 [x1, (.i .i64 (Int.ofNat 40))] h0) fun v143 h143 =>
  bnd (aF .lss x8 v143 h143) fun v144 h144 =>
  aU v144 (
   bnd (aN [(.i .i64 (Int.ofNat 0))] 1 [(0, 1, (.i .i64 (Int.ofNat 1)))] h144) fun v145 h145 =>
   bnd (aX 1 8 x7 v145 h145) fun v146 h146 =>
   bnd (aF .add x8 (.i .i64 (Int.ofNat 1)) h146) fun v147 h147 =>
   kk12 x1 x5 v146 v147 h147) (
   jR rec n x5 x7 h144)
noncomputable def mO (rec : FuncId → List DV → Hp → aK) (n : Nat) (m : Nat) : DV → DV → DV → DV → Hp → aK :=
 Nat.rec (motive := fun _ => DV → DV → DV → DV → Hp → aK) (fun _ _ _ _ _ => none) (fun _ ih => rX rec n ih) m
noncomputable def dHb (rec : FuncId → List DV → Hp → aK) (n : Nat) : DV → DV → DV → DV → Hp → aK := mO rec n n
noncomputable def bTo (rec : FuncId → List DV → Hp → aK) (n : Nat) (x1 x5 x7 x8 : DV) (h0 : Hp) : aK :=
 dHb rec n x1 x5 x7 x8 h0
noncomputable def dRu (rec : FuncId → List DV → Hp → aK) (n : Nat) (x1 x5 x7 : DV) (h0 : Hp) : aK :=
 bTo rec n x1 x5 x7 (.i .i64 (Int.ofNat 0)) h0
noncomputable def tF (rec : FuncId → List DV → Hp → aK) (n : Nat) (x1 x5 : DV) (h0 : Hp) : aK :=
 dRu rec n x1 x5 .l0 h0
noncomputable def bOv (rec : FuncId → List DV → Hp → aK) (n : Nat) (x0 x1 x5 x6 : DV) (h0 : Hp) : aK :=
 bnd (aO x5 h0) fun v163 h163 =>
 bnd (aB 1 v163 h163) fun v164 h164 =>
 bnd (aA v164 h164) fun v165 h165 =>
 bnd (aT [(.i .i64 (Int.ofNat 0)), (.i .i64 (Int.ofNat 0)), (.i .i64 (Int.ofNat 0)), (.i .i64 (Int.ofNat 0)), (.i .i64 (Int.ofNat 0)), .l0, .l0, (.b false), (.i .i64 (Int.ofNat 0)), (.i .i64 (Int.ofNat 0))] [(1, 1, x0)] h165) fun v166 h166 =>
 bnd (rec 19 [v165, v166] h166) fun v167 h167 =>
 bnd (aF .eql v167 (.i .i64 (Int.ofNat 0)) h167) fun v168 h168 =>
 bnd (qR .bool false v168 x6 h168) fun v169 h169 =>
 bnd (gD v169 false (some (x5, h169)) h169) fun v170 h170 =>
 bnd (gD v169 false (aO v170 h170) h170) fun v171 h171 =>
 bnd (gD v169 false (aB 1 v171 h171) h171) fun v172 h172 =>
 bnd (gD v169 false (aA v172 h172) h172) fun v173 h173 =>
 bnd (gD v169 false (some (x0, h173)) h173) fun v174 h174 =>
 bnd (gD v169 false (aN [(.i .i64 (Int.ofNat 0))] 1 [(0, 1, v174)] h174) h174) fun v175 h175 =>
 bnd (gD v169 false (aT [(.i .i64 (Int.ofNat 0)), (.i .i64 (Int.ofNat 0)), (.i .i64 (Int.ofNat 0)), (.i .i64 (Int.ofNat 0)), (.i .i64 (Int.ofNat 0)), .l0, .l0, (.b false), (.i .i64 (Int.ofNat 0)), (.i .i64 (Int.ofNat 0))] [(6, 1, v175)] h175) h175) fun v176 h176 =>
 bnd (gD v169 false (rec 19 [v173, v176] h176) h176) fun v177 h177 =>
 bnd (gD v169 false (aF .eql v177 (.i .i64 (Int.ofNat 0)) h177) h177) fun v178 h178 =>
 bnd (gD v169 false (some (x6, h178)) h178) fun v179 h179 =>
 bnd (gD v169 false (qR .bool false v178 v179 h179) h179) fun v180 h180 =>
 bnd (aQ v169 (.b true) v180 h180) fun v181 h181 =>
 aU v181 (
  some ((.b false), h181)) (
  tF rec n x1 x5 h181)
noncomputable def dKl (rec : FuncId → List DV → Hp → aK) (n : Nat) (x0 x1 x5 : DV) (h0 : Hp) : aK :=
 bnd (aO x5 h0) fun v239 h239 =>
 bnd (aB 0 v239 h239) fun v240 h240 =>
 bnd (aA v240 h240) fun v241 h241 =>
 bnd (rec 17 [v241] h241) fun v242 h242 =>
 bnd (aBh [v242, x0] h242) fun v243 h243 =>
 bOv rec n x0 x1 x5 v243 h243
noncomputable def dUb (rec : FuncId → List DV → Hp → aK) (n : Nat) (x0 x1 x5 : DV) (h0 : Hp) : aK :=
 bnd (qR (.pointer 43) true x5 .p0 h0) fun v249 h249 =>
 bnd (gD v249 false (some (x5, h249)) h249) fun v250 h250 =>
 bnd (gD v249 false (aO v250 h250) h250) fun v251 h251 =>
 bnd (gD v249 false (aB 1 v251 h251) h251) fun v252 h252 =>
 bnd (gD v249 false (aA v252 h252) h252) fun v253 h253 =>
 bnd (gD v249 false (qR (.pointer 111) true v253 .p0 h253) h253) fun v254 h254 =>
 bnd (aQ v249 (.b true) v254 h254) fun v255 h255 =>
 aU v255 (
  some ((.b false), h255)) (
  dKl rec n x0 x1 x5 h255)
noncomputable def dMo (rec : FuncId → List DV → Hp → aK) (n : Nat) (x0 x1 : DV) (h0 : Hp) : aK :=
 bnd (rec 16 [] h0) fun v263 h263 =>
 dUb rec n x0 x1 v263 h263
noncomputable def s4 (rec : FuncId → List DV → Hp → aK) (n : Nat) (x0 x1 : DV) (h0 : Hp) : aK :=
 dMo rec n x0 x1 h0
noncomputable def D4 (rec : FuncId → List DV → Hp → aK) (n : Nat) (c : Code) (X : Nat → K) (k : K) : K := aM CF rec 110 n c X (aR CF Tryz.f4) k
theorem dXq (rec : FuncId → List DV → Hp → aK) (n : Nat) : D4 rec n (cR (cR (cR (cR (cR (cR (cR (cR (cR (cf Tryz.f4)))))))))) x0 (aR CF Tryz.f4) = (fun (env : aV) (h : Hp) => lI rec n (env 5) h) :=
 (by kernel_rfl)
theorem cYn (rec : FuncId → List DV → Hp → aK) (n : Nat) (kk10 : DV → Hp → aK) (q0 : DV → Hp → aK) : D4 rec n (cL (cL (cL (cR (cR (cR (cR (cR (cR (cR (cR (cf Tryz.f4)))))))))))) (xs x0 2 (fun (env : aV) (h : Hp) => q0 (env 5) h)) (fun (env : aV) (h : Hp) => kk10 (env 5) h) = fun (env : aV) (h : Hp) =>
  bnd (aO (env 5) h) fun v53 h53 =>
  bnd (aB 1 v53 h53) fun v54 h54 =>
  bnd (aA v54 h54) fun v55 h55 =>
  bnd (rec 21 [v55] h55) fun v56 h56 =>
  bnd (aF .lss v56 (.i .i64 (Int.ofNat 60)) h56) fun v57 h57 =>
  aU v57 (
   bnd (aO (env 5) h57) fun v58 h58 =>
   bnd (aB 1 v58 h58) fun v59 h59 =>
   bnd (aA v59 h59) fun v60 h60 =>
   bnd (aT [(.i .i64 (Int.ofNat 0)), (.i .i64 (Int.ofNat 0)), (.i .i64 (Int.ofNat 0)), (.i .i64 (Int.ofNat 0)), (.i .i64 (Int.ofNat 0)), .l0, .l0, (.b false), (.i .i64 (Int.ofNat 0)), (.i .i64 (Int.ofNat 0))] [] h60) fun v61 h61 =>
   bnd (rec 19 [v60, v61] h61) fun v62 h62 =>
   bnd (aF .neq v62 (.i .i64 (Int.ofNat 0)) h62) fun v63 h63 =>
   aU v63 (
    some ((.b false), h63)) (
    kk10 (env 5) h63)) (
   q0 (env 5) h57) := by kernel_rfl
theorem cBp (rec : FuncId → List DV → Hp → aK) (n : Nat) (kk10 : DV → Hp → aK) : (fun (env : aV) (h : Hp) =>
  bnd (aO (env 5) h) fun v64 h64 =>
  bnd (aB 1 v64 h64) fun v65 h65 =>
  bnd (aA v65 h65) fun v66 h66 =>
  bnd (rec 21 [v66] h66) fun v67 h67 =>
  bnd (aF .lss v67 (.i .i64 (Int.ofNat 60)) h67) fun v68 h68 =>
  aU v68 (
   bnd (aO (env 5) h68) fun v69 h69 =>
   bnd (aB 1 v69 h69) fun v70 h70 =>
   bnd (aA v70 h70) fun v71 h71 =>
   bnd (aT [(.i .i64 (Int.ofNat 0)), (.i .i64 (Int.ofNat 0)), (.i .i64 (Int.ofNat 0)), (.i .i64 (Int.ofNat 0)), (.i .i64 (Int.ofNat 0)), .l0, .l0, (.b false), (.i .i64 (Int.ofNat 0)), (.i .i64 (Int.ofNat 0))] [] h71) fun v72 h72 =>
   bnd (rec 19 [v71, v72] h72) fun v73 h73 =>
   bnd (aF .neq v73 (.i .i64 (Int.ofNat 0)) h73) fun v74 h74 =>
   aU v74 (
    some ((.b false), h74)) (
    kk10 (env 5) h74)) (
   lI rec n (env 5) h68)) = (fun (env : aV) (h : Hp) => aVg rec n kk10 (env 5) h) := by kernel_rfl
theorem cUq (rec : FuncId → List DV → Hp → aK) (n : Nat) (kk10 : DV → Hp → aK) : D4 rec n (cL (cL (cL (cR (cR (cR (cR (cR (cR (cR (cR (cf Tryz.f4)))))))))))) (xs x0 2 (fun (env : aV) (h : Hp) => lI rec n (env 5) h)) (fun (env : aV) (h : Hp) => kk10 (env 5) h) = (fun (env : aV) (h : Hp) => aVg rec n kk10 (env 5) h) :=
 (cYn rec n kk10 (lI rec n)).trans (cBp rec n kk10)
theorem cRa (rec : FuncId → List DV → Hp → aK) (n : Nat) (m : Nat) : aL (fun kk => D4 rec n (cL (cL (cL (cR (cR (cR (cR (cR (cR (cR (cR (cf Tryz.f4)))))))))))) (xs x0 2 (fun (env : aV) (h : Hp) => lI rec n (env 5) h)) kk) m = (fun (env : aV) (h : Hp) => aEd rec n m (env 5) h) := by
 induction m with
 | zero => exact (by kernel_rfl : aL (fun kk => D4 rec n (cL (cL (cL (cR (cR (cR (cR (cR (cR (cR (cR (cf Tryz.f4)))))))))))) (xs x0 2 (fun (env : aV) (h : Hp) => lI rec n (env 5) h)) kk) 0 = (fun (env : aV) (h : Hp) => aEd rec n 0 (env 5) h))
 | succ m ih =>
  refine (by kernel_rfl : aL (fun kk => D4 rec n (cL (cL (cL (cR (cR (cR (cR (cR (cR (cR (cR (cf Tryz.f4)))))))))))) (xs x0 2 (fun (env : aV) (h : Hp) => lI rec n (env 5) h)) kk) (m + 1) = D4 rec n (cL (cL (cL (cR (cR (cR (cR (cR (cR (cR (cR (cf Tryz.f4)))))))))))) (xs x0 2 (fun (env : aV) (h : Hp) => lI rec n (env 5) h)) (aL (fun kk => D4 rec n (cL (cL (cL (cR (cR (cR (cR (cR (cR (cR (cR (cf Tryz.f4)))))))))))) (xs x0 2 (fun (env : aV) (h : Hp) => lI rec n (env 5) h)) kk) m)).trans ?_
  rw [ih]
  exact (cUq rec n (aEd rec n m)).trans (by kernel_rfl)
theorem dPc (rec : FuncId → List DV → Hp → aK) (n : Nat) : D4 rec n (cL (cL (cR (cR (cR (cR (cR (cR (cR (cR (cf Tryz.f4))))))))))) (xs x0 2 (fun (env : aV) (h : Hp) => lI rec n (env 5) h)) (fun (env : aV) (h : Hp) => lI rec n (env 5) h) = (fun (env : aV) (h : Hp) => dHx rec n (env 5) h) :=
 (by kernel_rfl : D4 rec n (cL (cL (cR (cR (cR (cR (cR (cR (cR (cR (cf Tryz.f4))))))))))) (xs x0 2 (fun (env : aV) (h : Hp) => lI rec n (env 5) h)) (fun (env : aV) (h : Hp) => lI rec n (env 5) h) = aL (fun kk => D4 rec n (cL (cL (cL (cR (cR (cR (cR (cR (cR (cR (cR (cf Tryz.f4)))))))))))) (xs x0 2 (fun (env : aV) (h : Hp) => lI rec n (env 5) h)) kk) n).trans ((cRa rec n n).trans (by kernel_rfl))
theorem dJt (rec : FuncId → List DV → Hp → aK) (n : Nat) : D4 rec n (cR (cR (cR (cR (cR (cR (cR (cR (cf Tryz.f4))))))))) x0 (aR CF Tryz.f4) = D4 rec n (cL (cR (cR (cR (cR (cR (cR (cR (cR (cf Tryz.f4)))))))))) x0 (fun (env : aV) (h : Hp) => lI rec n (env 5) h) :=
 congrArg (fun k => D4 rec n (cL (cR (cR (cR (cR (cR (cR (cR (cR (cf Tryz.f4)))))))))) x0 k) (dXq rec n)
theorem eCc (rec : FuncId → List DV → Hp → aK) (n : Nat) : D4 rec n (cR (cR (cR (cR (cR (cR (cR (cR (cf Tryz.f4))))))))) x0 (aR CF Tryz.f4) = (fun (env : aV) (h : Hp) => cJs rec n (env 5) h) :=
 (dJt rec n).trans
 ((by kernel_rfl : D4 rec n (cL (cR (cR (cR (cR (cR (cR (cR (cR (cf Tryz.f4)))))))))) x0 (fun (env : aV) (h : Hp) => lI rec n (env 5) h) = D4 rec n (cL (cL (cR (cR (cR (cR (cR (cR (cR (cR (cf Tryz.f4))))))))))) (xs x0 2 (fun (env : aV) (h : Hp) => lI rec n (env 5) h)) (fun (env : aV) (h : Hp) => lI rec n (env 5) h)).trans
 ((dPc rec n).trans (by kernel_rfl)))
theorem dMk (rec : FuncId → List DV → Hp → aK) (n : Nat) : D4 rec n (cR (cR (cR (cR (cR (cR (cR (cf Tryz.f4)))))))) x0 (aR CF Tryz.f4) = D4 rec n (cL (cR (cR (cR (cR (cR (cR (cR (cf Tryz.f4))))))))) x0 (fun (env : aV) (h : Hp) => cJs rec n (env 5) h) :=
 congrArg (fun k => D4 rec n (cL (cR (cR (cR (cR (cR (cR (cR (cf Tryz.f4))))))))) x0 k) (eCc rec n)
theorem dVh (rec : FuncId → List DV → Hp → aK) (n : Nat) (q0 : DV → Hp → aK) : D4 rec n (cL (cR (cR (cR (cR (cR (cR (cR (cf Tryz.f4))))))))) x0 (fun (env : aV) (h : Hp) => q0 (env 5) h) = fun (env : aV) (h : Hp) =>
  bnd (aO (env 5) h) fun v109 h109 =>
  bnd (aB 1 v109 h109) fun v110 h110 =>
  bnd (aA v110 h110) fun v111 h111 =>
  bnd (aT [(.i .i64 (Int.ofNat 0)), (.i .i64 (Int.ofNat 0)), (.i .i64 (Int.ofNat 0)), (.i .i64 (Int.ofNat 0)), (.i .i64 (Int.ofNat 0)), .l0, .l0, (.b false), (.i .i64 (Int.ofNat 0)), (.i .i64 (Int.ofNat 0))] [(5, 1, (env 7))] h111) fun v112 h112 =>
  bnd (rec 19 [v111, v112] h112) fun v113 h113 =>
  bnd (aF .eql v113 (.i .i64 (Int.ofNat 0)) h113) fun v114 h114 =>
  bnd (bK (env 7) h114) fun v115 h115 =>
  bnd (aF .leq v115 (.i .i64 (Int.ofNat 24)) h115) fun v116 h116 =>
  bnd (qR .bool false v114 v116 h116) fun v117 h117 =>
  bnd (gD v117 false (some ((env 5), h117)) h117) fun v118 h118 =>
  bnd (gD v117 false (aO v118 h118) h118) fun v119 h119 =>
  bnd (gD v117 false (aB 1 v119 h119) h119) fun v120 h120 =>
  bnd (gD v117 false (aA v120 h120) h120) fun v121 h121 =>
  bnd (gD v117 false (aT [(.i .i64 (Int.ofNat 0)), (.i .i64 (Int.ofNat 0)), (.i .i64 (Int.ofNat 0)), (.i .i64 (Int.ofNat 0)), (.i .i64 (Int.ofNat 0)), .l0, .l0, (.b false), (.i .i64 (Int.ofNat 0)), (.i .i64 (Int.ofNat 0))] [(4, 1, (.i .i64 (Int.ofNat 6)))] h121) h121) fun v122 h122 =>
  bnd (gD v117 false (rec 19 [v121, v122] h122) h122) fun v123 h123 =>
  bnd (gD v117 false (aF .neq v123 (.i .i64 (Int.ofNat 1)) h123) h123) fun v124 h124 =>
  bnd (aQ v117 (.b true) v124 h124) fun v125 h125 =>
  aU v125 (
   some ((.b false), h125)) (
   q0 (env 5) h125) := by kernel_rfl
theorem dCj (rec : FuncId → List DV → Hp → aK) (n : Nat) : (fun (env : aV) (h : Hp) =>
  bnd (aO (env 5) h) fun v126 h126 =>
  bnd (aB 1 v126 h126) fun v127 h127 =>
  bnd (aA v127 h127) fun v128 h128 =>
  bnd (aT [(.i .i64 (Int.ofNat 0)), (.i .i64 (Int.ofNat 0)), (.i .i64 (Int.ofNat 0)), (.i .i64 (Int.ofNat 0)), (.i .i64 (Int.ofNat 0)), .l0, .l0, (.b false), (.i .i64 (Int.ofNat 0)), (.i .i64 (Int.ofNat 0))] [(5, 1, (env 7))] h128) fun v129 h129 =>
  bnd (rec 19 [v128, v129] h129) fun v130 h130 =>
  bnd (aF .eql v130 (.i .i64 (Int.ofNat 0)) h130) fun v131 h131 =>
  bnd (bK (env 7) h131) fun v132 h132 =>
  bnd (aF .leq v132 (.i .i64 (Int.ofNat 24)) h132) fun v133 h133 =>
  bnd (qR .bool false v131 v133 h133) fun v134 h134 =>
  bnd (gD v134 false (some ((env 5), h134)) h134) fun v135 h135 =>
  bnd (gD v134 false (aO v135 h135) h135) fun v136 h136 =>
  bnd (gD v134 false (aB 1 v136 h136) h136) fun v137 h137 =>
  bnd (gD v134 false (aA v137 h137) h137) fun v138 h138 =>
  bnd (gD v134 false (aT [(.i .i64 (Int.ofNat 0)), (.i .i64 (Int.ofNat 0)), (.i .i64 (Int.ofNat 0)), (.i .i64 (Int.ofNat 0)), (.i .i64 (Int.ofNat 0)), .l0, .l0, (.b false), (.i .i64 (Int.ofNat 0)), (.i .i64 (Int.ofNat 0))] [(4, 1, (.i .i64 (Int.ofNat 6)))] h138) h138) fun v139 h139 =>
  bnd (gD v134 false (rec 19 [v138, v139] h139) h139) fun v140 h140 =>
  bnd (gD v134 false (aF .neq v140 (.i .i64 (Int.ofNat 1)) h140) h140) fun v141 h141 =>
  bnd (aQ v134 (.b true) v141 h141) fun v142 h142 =>
  aU v142 (
   some ((.b false), h142)) (
   cJs rec n (env 5) h142)) = (fun (env : aV) (h : Hp) => jR rec n (env 5) (env 7) h) := by kernel_rfl
theorem eEf (rec : FuncId → List DV → Hp → aK) (n : Nat) : D4 rec n (cR (cR (cR (cR (cR (cR (cR (cf Tryz.f4)))))))) x0 (aR CF Tryz.f4) = (fun (env : aV) (h : Hp) => jR rec n (env 5) (env 7) h) :=
 (dMk rec n).trans
 ((dVh rec n (cJs rec n)).trans (dCj rec n))
theorem cWd (rec : FuncId → List DV → Hp → aK) (n : Nat) (kk12 : DV → DV → DV → DV → Hp → aK) (q0 : DV → DV → Hp → aK) : D4 rec n (cL (cL (cR (cL (cR (cR (cR (cR (cR (cR (cf Tryz.f4))))))))))) (xs x0 0 (fun (env : aV) (h : Hp) => q0 (env 5) (env 7) h)) (fun (env : aV) (h : Hp) => kk12 (env 1) (env 5) (env 7) (env 8) h) = fun (env : aV) (h : Hp) =>
  bnd (rec 20 [(env 1), (.i .i64 (Int.ofNat 40))] h) fun v153 h153 =>
  bnd (aF .lss (env 8) v153 h153) fun v154 h154 =>
  aU v154 (
   bnd (aN [(.i .i64 (Int.ofNat 0))] 1 [(0, 1, (.i .i64 (Int.ofNat 1)))] h154) fun v155 h155 =>
   bnd (aX 1 8 (env 7) v155 h155) fun v156 h156 =>
   bnd (aF .add (env 8) (.i .i64 (Int.ofNat 1)) h156) fun v157 h157 =>
   kk12 (env 1) (env 5) v156 v157 h157) (
   q0 (env 5) (env 7) h154) := by kernel_rfl
theorem bUw (rec : FuncId → List DV → Hp → aK) (n : Nat) (kk12 : DV → DV → DV → DV → Hp → aK) : (fun (env : aV) (h : Hp) =>
  bnd (rec 20 [(env 1), (.i .i64 (Int.ofNat 40))] h) fun v158 h158 =>
  bnd (aF .lss (env 8) v158 h158) fun v159 h159 =>
  aU v159 (
   bnd (aN [(.i .i64 (Int.ofNat 0))] 1 [(0, 1, (.i .i64 (Int.ofNat 1)))] h159) fun v160 h160 =>
   bnd (aX 1 8 (env 7) v160 h160) fun v161 h161 =>
   bnd (aF .add (env 8) (.i .i64 (Int.ofNat 1)) h161) fun v162 h162 =>
   kk12 (env 1) (env 5) v161 v162 h162) (
   jR rec n (env 5) (env 7) h159)) = (fun (env : aV) (h : Hp) => rX rec n kk12 (env 1) (env 5) (env 7) (env 8) h) := by kernel_rfl
theorem cOu (rec : FuncId → List DV → Hp → aK) (n : Nat) (kk12 : DV → DV → DV → DV → Hp → aK) : D4 rec n (cL (cL (cR (cL (cR (cR (cR (cR (cR (cR (cf Tryz.f4))))))))))) (xs x0 0 (fun (env : aV) (h : Hp) => jR rec n (env 5) (env 7) h)) (fun (env : aV) (h : Hp) => kk12 (env 1) (env 5) (env 7) (env 8) h) = (fun (env : aV) (h : Hp) => rX rec n kk12 (env 1) (env 5) (env 7) (env 8) h) :=
 (cWd rec n kk12 (jR rec n)).trans (bUw rec n kk12)
theorem dAo (rec : FuncId → List DV → Hp → aK) (n : Nat) (m : Nat) : aL (fun kk => D4 rec n (cL (cL (cR (cL (cR (cR (cR (cR (cR (cR (cf Tryz.f4))))))))))) (xs x0 0 (fun (env : aV) (h : Hp) => jR rec n (env 5) (env 7) h)) kk) m = (fun (env : aV) (h : Hp) => mO rec n m (env 1) (env 5) (env 7) (env 8) h) := by
 induction m with
 | zero => exact (by kernel_rfl : aL (fun kk => D4 rec n (cL (cL (cR (cL (cR (cR (cR (cR (cR (cR (cf Tryz.f4))))))))))) (xs x0 0 (fun (env : aV) (h : Hp) => jR rec n (env 5) (env 7) h)) kk) 0 = (fun (env : aV) (h : Hp) => mO rec n 0 (env 1) (env 5) (env 7) (env 8) h))
 | succ m ih =>
  refine (by kernel_rfl : aL (fun kk => D4 rec n (cL (cL (cR (cL (cR (cR (cR (cR (cR (cR (cf Tryz.f4))))))))))) (xs x0 0 (fun (env : aV) (h : Hp) => jR rec n (env 5) (env 7) h)) kk) (m + 1) = D4 rec n (cL (cL (cR (cL (cR (cR (cR (cR (cR (cR (cf Tryz.f4))))))))))) (xs x0 0 (fun (env : aV) (h : Hp) => jR rec n (env 5) (env 7) h)) (aL (fun kk => D4 rec n (cL (cL (cR (cL (cR (cR (cR (cR (cR (cR (cf Tryz.f4))))))))))) (xs x0 0 (fun (env : aV) (h : Hp) => jR rec n (env 5) (env 7) h)) kk) m)).trans ?_
  rw [ih]
  exact (cOu rec n (mO rec n m)).trans (by kernel_rfl)
theorem dRt (rec : FuncId → List DV → Hp → aK) (n : Nat) : D4 rec n (cL (cR (cL (cR (cR (cR (cR (cR (cR (cf Tryz.f4)))))))))) (xs x0 0 (fun (env : aV) (h : Hp) => jR rec n (env 5) (env 7) h)) (fun (env : aV) (h : Hp) => jR rec n (env 5) (env 7) h) = (fun (env : aV) (h : Hp) => dHb rec n (env 1) (env 5) (env 7) (env 8) h) :=
 (by kernel_rfl : D4 rec n (cL (cR (cL (cR (cR (cR (cR (cR (cR (cf Tryz.f4)))))))))) (xs x0 0 (fun (env : aV) (h : Hp) => jR rec n (env 5) (env 7) h)) (fun (env : aV) (h : Hp) => jR rec n (env 5) (env 7) h) = aL (fun kk => D4 rec n (cL (cL (cR (cL (cR (cR (cR (cR (cR (cR (cf Tryz.f4))))))))))) (xs x0 0 (fun (env : aV) (h : Hp) => jR rec n (env 5) (env 7) h)) kk) n).trans ((dAo rec n n).trans (by kernel_rfl))
theorem dIu (rec : FuncId → List DV → Hp → aK) (n : Nat) : D4 rec n (cR (cL (cR (cR (cR (cR (cR (cR (cf Tryz.f4))))))))) x0 (fun (env : aV) (h : Hp) => jR rec n (env 5) (env 7) h) = (fun (env : aV) (h : Hp) => bTo rec n (env 1) (env 5) (env 7) (env 8) h) :=
 (by kernel_rfl : D4 rec n (cR (cL (cR (cR (cR (cR (cR (cR (cf Tryz.f4))))))))) x0 (fun (env : aV) (h : Hp) => jR rec n (env 5) (env 7) h) = D4 rec n (cL (cR (cL (cR (cR (cR (cR (cR (cR (cf Tryz.f4)))))))))) (xs x0 0 (fun (env : aV) (h : Hp) => jR rec n (env 5) (env 7) h)) (fun (env : aV) (h : Hp) => jR rec n (env 5) (env 7) h)).trans
 ((dRt rec n).trans (by kernel_rfl))
theorem dIx (rec : FuncId → List DV → Hp → aK) (n : Nat) : D4 rec n (cR (cR (cR (cR (cR (cR (cf Tryz.f4))))))) x0 (aR CF Tryz.f4) = D4 rec n (cL (cR (cR (cR (cR (cR (cR (cf Tryz.f4)))))))) x0 (fun (env : aV) (h : Hp) => jR rec n (env 5) (env 7) h) :=
 congrArg (fun k => D4 rec n (cL (cR (cR (cR (cR (cR (cR (cf Tryz.f4)))))))) x0 k) (eEf rec n)
theorem dTb (rec : FuncId → List DV → Hp → aK) (n : Nat) : D4 rec n (cL (cR (cR (cR (cR (cR (cR (cf Tryz.f4)))))))) x0 (fun (env : aV) (h : Hp) => jR rec n (env 5) (env 7) h) = D4 rec n (cL (cL (cR (cR (cR (cR (cR (cR (cf Tryz.f4))))))))) x0 (fun (env : aV) (h : Hp) => bTo rec n (env 1) (env 5) (env 7) (env 8) h) :=
 congrArg (fun k => D4 rec n (cL (cL (cR (cR (cR (cR (cR (cR (cf Tryz.f4))))))))) x0 k) (dIu rec n)
theorem eDc (rec : FuncId → List DV → Hp → aK) (n : Nat) : D4 rec n (cR (cR (cR (cR (cR (cR (cf Tryz.f4))))))) x0 (aR CF Tryz.f4) = (fun (env : aV) (h : Hp) => dRu rec n (env 1) (env 5) (env 7) h) :=
 (dIx rec n).trans
 ((dTb rec n).trans
 ((by kernel_rfl)))
theorem dUa (rec : FuncId → List DV → Hp → aK) (n : Nat) : D4 rec n (cR (cR (cR (cR (cR (cf Tryz.f4)))))) x0 (aR CF Tryz.f4) = D4 rec n (cL (cR (cR (cR (cR (cR (cf Tryz.f4))))))) x0 (fun (env : aV) (h : Hp) => dRu rec n (env 1) (env 5) (env 7) h) :=
 congrArg (fun k => D4 rec n (cL (cR (cR (cR (cR (cR (cf Tryz.f4))))))) x0 k) (eDc rec n)
theorem eAf (rec : FuncId → List DV → Hp → aK) (n : Nat) : D4 rec n (cR (cR (cR (cR (cR (cf Tryz.f4)))))) x0 (aR CF Tryz.f4) = (fun (env : aV) (h : Hp) => tF rec n (env 1) (env 5) h) :=
 (dUa rec n).trans
 ((by kernel_rfl))
theorem dWu (rec : FuncId → List DV → Hp → aK) (n : Nat) : D4 rec n (cR (cR (cR (cR (cf Tryz.f4))))) x0 (aR CF Tryz.f4) = D4 rec n (cL (cR (cR (cR (cR (cf Tryz.f4)))))) x0 (fun (env : aV) (h : Hp) => tF rec n (env 1) (env 5) h) :=
 congrArg (fun k => D4 rec n (cL (cR (cR (cR (cR (cf Tryz.f4)))))) x0 k) (eAf rec n)
theorem cNo (rec : FuncId → List DV → Hp → aK) (n : Nat) (q0 : DV → DV → Hp → aK) : D4 rec n (cL (cR (cR (cR (cR (cf Tryz.f4)))))) x0 (fun (env : aV) (h : Hp) => q0 (env 1) (env 5) h) = fun (env : aV) (h : Hp) =>
  bnd (aO (env 5) h) fun v201 h201 =>
  bnd (aB 1 v201 h201) fun v202 h202 =>
  bnd (aA v202 h202) fun v203 h203 =>
  bnd (aT [(.i .i64 (Int.ofNat 0)), (.i .i64 (Int.ofNat 0)), (.i .i64 (Int.ofNat 0)), (.i .i64 (Int.ofNat 0)), (.i .i64 (Int.ofNat 0)), .l0, .l0, (.b false), (.i .i64 (Int.ofNat 0)), (.i .i64 (Int.ofNat 0))] [(1, 1, (env 0))] h203) fun v204 h204 =>
  bnd (rec 19 [v203, v204] h204) fun v205 h205 =>
  bnd (aF .eql v205 (.i .i64 (Int.ofNat 0)) h205) fun v206 h206 =>
  bnd (qR .bool false v206 (env 6) h206) fun v207 h207 =>
  bnd (gD v207 false (some ((env 5), h207)) h207) fun v208 h208 =>
  bnd (gD v207 false (aO v208 h208) h208) fun v209 h209 =>
  bnd (gD v207 false (aB 1 v209 h209) h209) fun v210 h210 =>
  bnd (gD v207 false (aA v210 h210) h210) fun v211 h211 =>
  bnd (gD v207 false (some ((env 0), h211)) h211) fun v212 h212 =>
  bnd (gD v207 false (aN [(.i .i64 (Int.ofNat 0))] 1 [(0, 1, v212)] h212) h212) fun v213 h213 =>
  bnd (gD v207 false (aT [(.i .i64 (Int.ofNat 0)), (.i .i64 (Int.ofNat 0)), (.i .i64 (Int.ofNat 0)), (.i .i64 (Int.ofNat 0)), (.i .i64 (Int.ofNat 0)), .l0, .l0, (.b false), (.i .i64 (Int.ofNat 0)), (.i .i64 (Int.ofNat 0))] [(6, 1, v213)] h213) h213) fun v214 h214 =>
  bnd (gD v207 false (rec 19 [v211, v214] h214) h214) fun v215 h215 =>
  bnd (gD v207 false (aF .eql v215 (.i .i64 (Int.ofNat 0)) h215) h215) fun v216 h216 =>
  bnd (gD v207 false (some ((env 6), h216)) h216) fun v217 h217 =>
  bnd (gD v207 false (qR .bool false v216 v217 h217) h217) fun v218 h218 =>
  bnd (aQ v207 (.b true) v218 h218) fun v219 h219 =>
  aU v219 (
   some ((.b false), h219)) (
   q0 (env 1) (env 5) h219) := by kernel_rfl
theorem cKw (rec : FuncId → List DV → Hp → aK) (n : Nat) : (fun (env : aV) (h : Hp) =>
  bnd (aO (env 5) h) fun v220 h220 =>
  bnd (aB 1 v220 h220) fun v221 h221 =>
  bnd (aA v221 h221) fun v222 h222 =>
  bnd (aT [(.i .i64 (Int.ofNat 0)), (.i .i64 (Int.ofNat 0)), (.i .i64 (Int.ofNat 0)), (.i .i64 (Int.ofNat 0)), (.i .i64 (Int.ofNat 0)), .l0, .l0, (.b false), (.i .i64 (Int.ofNat 0)), (.i .i64 (Int.ofNat 0))] [(1, 1, (env 0))] h222) fun v223 h223 =>
  bnd (rec 19 [v222, v223] h223) fun v224 h224 =>
  bnd (aF .eql v224 (.i .i64 (Int.ofNat 0)) h224) fun v225 h225 =>
  bnd (qR .bool false v225 (env 6) h225) fun v226 h226 =>
  bnd (gD v226 false (some ((env 5), h226)) h226) fun v227 h227 =>
  bnd (gD v226 false (aO v227 h227) h227) fun v228 h228 =>
  bnd (gD v226 false (aB 1 v228 h228) h228) fun v229 h229 =>
  bnd (gD v226 false (aA v229 h229) h229) fun v230 h230 =>
  bnd (gD v226 false (some ((env 0), h230)) h230) fun v231 h231 =>
  bnd (gD v226 false (aN [(.i .i64 (Int.ofNat 0))] 1 [(0, 1, v231)] h231) h231) fun v232 h232 =>
  bnd (gD v226 false (aT [(.i .i64 (Int.ofNat 0)), (.i .i64 (Int.ofNat 0)), (.i .i64 (Int.ofNat 0)), (.i .i64 (Int.ofNat 0)), (.i .i64 (Int.ofNat 0)), .l0, .l0, (.b false), (.i .i64 (Int.ofNat 0)), (.i .i64 (Int.ofNat 0))] [(6, 1, v232)] h232) h232) fun v233 h233 =>
  bnd (gD v226 false (rec 19 [v230, v233] h233) h233) fun v234 h234 =>
  bnd (gD v226 false (aF .eql v234 (.i .i64 (Int.ofNat 0)) h234) h234) fun v235 h235 =>
  bnd (gD v226 false (some ((env 6), h235)) h235) fun v236 h236 =>
  bnd (gD v226 false (qR .bool false v235 v236 h236) h236) fun v237 h237 =>
  bnd (aQ v226 (.b true) v237 h237) fun v238 h238 =>
  aU v238 (
   some ((.b false), h238)) (
   tF rec n (env 1) (env 5) h238)) = (fun (env : aV) (h : Hp) => bOv rec n (env 0) (env 1) (env 5) (env 6) h) := by kernel_rfl
theorem eDw (rec : FuncId → List DV → Hp → aK) (n : Nat) : D4 rec n (cR (cR (cR (cR (cf Tryz.f4))))) x0 (aR CF Tryz.f4) = (fun (env : aV) (h : Hp) => bOv rec n (env 0) (env 1) (env 5) (env 6) h) :=
 (dWu rec n).trans
 ((cNo rec n (tF rec n)).trans (cKw rec n))
theorem cPs (rec : FuncId → List DV → Hp → aK) (n : Nat) : D4 rec n (cR (cR (cR (cf Tryz.f4)))) x0 (aR CF Tryz.f4) = D4 rec n (cL (cR (cR (cR (cf Tryz.f4))))) x0 (fun (env : aV) (h : Hp) => bOv rec n (env 0) (env 1) (env 5) (env 6) h) :=
 congrArg (fun k => D4 rec n (cL (cR (cR (cR (cf Tryz.f4))))) x0 k) (eDw rec n)
theorem eIf (rec : FuncId → List DV → Hp → aK) (n : Nat) : D4 rec n (cR (cR (cR (cf Tryz.f4)))) x0 (aR CF Tryz.f4) = (fun (env : aV) (h : Hp) => dKl rec n (env 0) (env 1) (env 5) h) :=
 (cPs rec n).trans
 ((by kernel_rfl))
theorem dDl (rec : FuncId → List DV → Hp → aK) (n : Nat) : D4 rec n (cR (cR (cf Tryz.f4))) x0 (aR CF Tryz.f4) = D4 rec n (cL (cR (cR (cf Tryz.f4)))) x0 (fun (env : aV) (h : Hp) => dKl rec n (env 0) (env 1) (env 5) h) :=
 congrArg (fun k => D4 rec n (cL (cR (cR (cf Tryz.f4)))) x0 k) (eIf rec n)
theorem eDf (rec : FuncId → List DV → Hp → aK) (n : Nat) : D4 rec n (cR (cR (cf Tryz.f4))) x0 (aR CF Tryz.f4) = (fun (env : aV) (h : Hp) => dUb rec n (env 0) (env 1) (env 5) h) :=
 (dDl rec n).trans
 ((by kernel_rfl))
theorem cVa (rec : FuncId → List DV → Hp → aK) (n : Nat) : D4 rec n (cR (cf Tryz.f4)) x0 (aR CF Tryz.f4) = D4 rec n (cL (cR (cf Tryz.f4))) x0 (fun (env : aV) (h : Hp) => dUb rec n (env 0) (env 1) (env 5) h) :=
 congrArg (fun k => D4 rec n (cL (cR (cf Tryz.f4))) x0 k) (eDf rec n)
theorem eFc (rec : FuncId → List DV → Hp → aK) (n : Nat) : D4 rec n (cR (cf Tryz.f4)) x0 (aR CF Tryz.f4) = (fun (env : aV) (h : Hp) => dMo rec n (env 0) (env 1) h) :=
 (cVa rec n).trans
 ((by kernel_rfl))
theorem eDp (rec : FuncId → List DV → Hp → aK) (n : Nat) : D4 rec n (cf Tryz.f4) x0 (aR CF Tryz.f4) = D4 rec n (cL (cf Tryz.f4)) x0 (fun (env : aV) (h : Hp) => dMo rec n (env 0) (env 1) h) :=
 congrArg (fun k => D4 rec n (cL (cf Tryz.f4)) x0 k) (eFc rec n)
theorem s4m (rec : FuncId → List DV → Hp → aK) (n : Nat) : D4 rec n (cf Tryz.f4) x0 (aR CF Tryz.f4) = (fun (env : aV) (h : Hp) => s4 rec n (env 0) (env 1) h) :=
 (eDp rec n).trans
 ((by kernel_rfl))
theorem eKh (rec : FuncId → List DV → Hp → aK) (n : Nat) (args : List DV) (h : Hp) : aE CF rec n 4 args h = s4 rec n (args.getD 0 bB) (args.getD 1 bB) h :=
 (by kernel_rfl : aE CF rec n 4 args h = D4 rec n (cf Tryz.f4) x0 (aR CF Tryz.f4) (aJ args) h).trans ((congrFun (congrFun (s4m rec n) (aJ args)) h).trans (by kernel_rfl))
end Go.Dd

namespace Go.Dd
open Go.Proofs
variable (r : RT) (n : Nat) (args : List DV) (h : Hp)
noncomputable def iV (r : RT) (n : Nat) (x5 : DV) (h0 : Hp) : aK :=
 some (.t [x5, (aC 0)], h0)
noncomputable def lT (r : RT) (n : Nat) (kk9 : dB) (x5 x155 x156 x157 : DV) (h0 : Hp) : aK :=
 bnd (aF .lss x157 x156 h0) fun v1 h1 =>
 aU v1 (
 bnd (aI 1 x155 x157 h1) fun v2 h2 =>
 bnd (aA v2 h2) fun v3 h3 =>
 bnd (aI 1 v3 (aC 0) h3) fun v4 h4 =>
 bnd (aA v4 h4) fun v5 h5 =>
 bnd (aI 1 v3 (aC 1) h5) fun v6 h6 =>
 bnd (aA v6 h6) fun v7 h7 =>
 bnd (r 41 [x5, v5, v7] h7) fun v8 h8 =>
 bnd (aG 0 v8 h8) fun v9 h9 =>
 bnd (aG 1 v8 h9) fun v10 h10 =>
 bnd (aG 2 v8 h10) fun v11 h11 =>
 bnd (aG 3 v8 h11) fun v12 h12 =>
 bnd (aF .neq v12 (aC 0) h12) fun v13 h13 =>
 aU v13 (
 some (.t [.p0, v12], h13)) (
 bnd (aF .add x157 (aC 1) h13) fun v14 h14 =>
    kk9 x5 x155 x156 v14 h14)) (
      iV r n x5 h1)
noncomputable def lR (r : RT) (n : Nat) (m : Nat) : dB :=
 Nat.rec (motive := fun _ => dB) (fun _ _ _ _ _ => none) (fun _ ih => lT r n ih) m
noncomputable def cJz (r : RT) (n : Nat) : dB := lR r n n
noncomputable def dWs (r : RT) (n : Nat) (x5 x155 x156 x157 : DV) (h0 : Hp) : aK :=
 cJz r n x5 x155 x156 x157 h0
noncomputable def bW (r : RT) (n : Nat) (x5 : DV) (h0 : Hp) : aK :=
 bnd (r 40 [] h0) fun v1 h1 =>
 bnd (bK v1 h1) fun v2 h2 =>
  dWs r n x5 v1 v2 (aC 0) h2
noncomputable def bL (r : RT) (n : Nat) (kk11 : cA) (x4 x5 x59 x60 x61 : DV) (h0 : Hp) : aK :=
 bnd (aF .add x61 (aC 1) h0) fun v1 h1 =>
  kk11 x4 x5 x59 x60 v1 h1
noncomputable def hC (r : RT) (n : Nat) (kk11 : cA) (x4 x5 x8 x9 x59 x60 x61 : DV) (h0 : Hp) : aK :=
 bnd (aO x5 h0) fun v1 h1 =>
 bnd (aB 1 v1 h1) fun v2 h2 =>
 bnd (aA v2 h2) fun v3 h3 =>
 bnd (aO x5 h3) fun v4 h4 =>
 bnd (aB 1 v4 h4) fun v5 h5 =>
 bnd (aA v5 h5) fun v6 h6 =>
 bnd (aI 1 v6 (aC 1) h6) fun v7 h7 =>
 bnd (aA v7 h7) fun v8 h8 =>
 bnd (r 39 [x5, x9, v8] h8) fun v9 h9 =>
 cnd (aW (aA v2 h9) v3 && true) (
 bnd (aG 0 v9 h9) fun v10 h10 =>
 bnd (aG 1 v9 h10) fun v11 h11 =>
 bnd (aI 1 v3 (aC 1) h11) fun v12 h12 =>
 bnd (aD 1 v12 v10 h12) fun v13 h13 =>
 bnd (aO x5 h13) fun v14 h14 =>
 bnd (aB 3 v14 h14) fun v15 h15 =>
 bnd (aA v15 h15) fun v16 h16 =>
 bnd (aB 0 x8 h16) fun v17 h17 =>
 bnd (aA v17 h17) fun v18 h18 =>
 bnd (gL .string v16 v18 x9 h18) fun v19 h19 =>
  bL r n kk11 x4 x5 x59 x60 x61 h19)
noncomputable def cFz (r : RT) (n : Nat) (kk11 : cA) (kk25 : aSq) (x4 x5 x8 x9 x59 x60 x61 x117 x118 x119 : DV) (h0 : Hp) : aK :=
 bnd (aF .lss x119 x118 h0) fun v1 h1 =>
 aU v1 (
 bnd (aI 1 x117 x119 h1) fun v2 h2 =>
 bnd (aA v2 h2) fun v3 h3 =>
 bnd (aBj [x4, x9, x119, v3] h3) fun v4 h4 =>
 bnd (aF .add x119 (aC 1) h4) fun v5 h5 =>
      kk25 x4 x5 x8 x9 x59 x60 x61 x117 x118 v5 h5) (
      hC r n kk11 x4 x5 x8 x9 x59 x60 x61 h1)
noncomputable def aDu (r : RT) (n : Nat) (kk11 : cA) (m : Nat) : aSq :=
 Nat.rec (motive := fun _ => aSq) (fun _ _ _ _ _ _ _ _ _ _ _ => none) (fun _ ih => cFz r n kk11 ih) m
noncomputable def dGu (r : RT) (n : Nat) (kk11 : cA) : aSq := aDu r n kk11 n
noncomputable def aQd (r : RT) (n : Nat) (kk11 : cA) (x4 x5 x8 x9 x59 x60 x61 x117 x118 x119 : DV) (h0 : Hp) : aK :=
 dGu r n kk11 x4 x5 x8 x9 x59 x60 x61 x117 x118 x119 h0
noncomputable def bCt (r : RT) (n : Nat) (kk11 : cA) (x4 x5 x8 x9 x10 x12 x13 x19 x59 x60 x61 : DV) (h0 : Hp) : aK :=
 bnd (r 37 [x13] (resv 1 h0)) fun v1 h1 =>
 bnd (aB 2 x8 h1) fun v2 h2 =>
 bnd (aA v2 h2) fun v3 h3 =>
 cnd (aW (aA v2 (resv 1 h0)) v3 && true) (
 bnd (r 37 [v3] h3) fun v4 h4 =>
 bnd (aS (bD 0 h0.next) [(aC 0), (aC 0), (aC 0), (aC 0), (aC 0), (aC 0)] 6 [(0, 1, x10), (1, 1, x12), (2, 1, v1), (3, 1, x19), (4, 1, (aC 0)), (5, 1, v4)] h4) fun v5 h5 =>
 bnd (bK v5 h5) fun v6 h6 =>
  aQd r n kk11 x4 x5 x8 x9 x59 x60 x61 v5 v6 (aC 0) h6)
noncomputable def aAz (r : RT) (n : Nat) (kk11 : cA) (x4 x5 x8 x9 x10 x12 x13 x14 x59 x60 x61 : DV) (h0 : Hp) : aK :=
 bnd (r 36 [x5, x14] h0) fun v1 h1 =>
 bnd (aG 0 v1 h1) fun v2 h2 =>
 bnd (aG 1 v1 h2) fun v3 h3 =>
  bCt r n kk11 x4 x5 x8 x9 x10 x12 x13 v2 x59 x60 x61 h3
noncomputable def aQv (r : RT) (n : Nat) (kk11 : cA) (x4 x5 x7 x8 x9 x10 x12 x13 x14 x59 x60 x61 : DV) (h0 : Hp) : aK :=
 bnd (aF .eql x7 (aC 15) h0) fun v1 h1 =>
 aU v1 (
 bnd (r 10 [x5, (.s [115, 101, 108, 101, 99, 116, 111, 114])] h1) fun v2 h2 =>
 bnd (aG 0 v2 h2) fun v3 h3 =>
 bnd (aG 1 v2 h3) fun v4 h4 =>
 bnd (r 10 [x5, (.s [97, 114, 103, 117, 109, 101, 110, 116, 115])] h4) fun v5 h5 =>
 bnd (aG 0 v5 h5) fun v6 h6 =>
 bnd (aG 1 v5 h6) fun v7 h7 =>
 bnd (aN [(aC 0), (aC 0)] 2 [(0, 1, v3), (1, 1, v6)] h7) fun v8 h8 =>
  aAz r n kk11 x4 x5 x8 x9 x10 x12 (aC 2) v8 x59 x60 x61 h8) (
  aAz r n kk11 x4 x5 x8 x9 x10 x12 x13 x14 x59 x60 x61 h1)
noncomputable def cEk (r : RT) (n : Nat) (kk11 : cA) (x4 x5 x7 x8 x9 x10 x12 x13 x14 x59 x60 x61 : DV) (h0 : Hp) : aK :=
 bnd (aB 1 x8 h0) fun v1 h1 =>
 bnd (aA v1 h1) fun v2 h2 =>
 bnd (aF .geq v2 (aC 0) h2) fun v3 h3 =>
 aU v3 (
 bnd (aB 1 x8 h3) fun v4 h4 =>
 bnd (aA v4 h4) fun v5 h5 =>
 bnd (r 34 [x5, v5] h5) fun v6 h6 =>
  aQv r n kk11 x4 x5 x7 x8 x9 x10 v6 x13 x14 x59 x60 x61 h6) (
  aQv r n kk11 x4 x5 x7 x8 x9 x10 x12 x13 x14 x59 x60 x61 h3)
noncomputable def cAh (r : RT) (n : Nat) (kk11 : cA) (x4 x5 x7 x8 x9 x10 x59 x60 x61 : DV) (h0 : Hp) : aK :=
 cEk r n kk11 x4 x5 x7 x8 x9 x10 (aC 0) (aC 0) .l0 x59 x60 x61 h0
noncomputable def cCy (r : RT) (n : Nat) (kk11 : cA) (x4 x5 x7 x8 x9 x59 x60 x61 : DV) (h0 : Hp) : aK :=
 bnd (aB 0 x8 h0) fun v1 h1 =>
 bnd (aA v1 h1) fun v2 h2 =>
 bnd (r 10 [x5, v2] h2) fun v3 h3 =>
 bnd (aG 0 v3 h3) fun v4 h4 =>
 bnd (aG 1 v3 h4) fun v5 h5 =>
  cAh r n kk11 x4 x5 x7 x8 x9 v4 x59 x60 x61 h5
noncomputable def cGu (r : RT) (n : Nat) (kk11 : cA) (x4 x5 x7 x8 x9 x59 x60 x61 : DV) (h0 : Hp) : aK :=
 bnd (r 34 [x5, (aC 1)] h0) fun v1 h1 =>
 bnd (kV [x4, x9, v1] h1) fun v2 h2 =>
  cCy r n kk11 x4 x5 x7 x8 x9 x59 x60 x61 h2
noncomputable def aPu (r : RT) (n : Nat) (kk11 : cA) (x4 x5 x7 x8 x59 x60 x61 : DV) (h0 : Hp) : aK :=
 bnd (r 34 [x5, x7] h0) fun v1 h1 =>
  cGu r n kk11 x4 x5 x7 x8 v1 x59 x60 x61 h1
noncomputable def bGd (r : RT) (n : Nat) (kk11 : cA) (x4 x5 x59 x60 x61 : DV) (h0 : Hp) : aK :=
 bnd (aI 3 x59 x61 h0) fun v1 h1 =>
 bnd (aH 3 v1 h1) fun v2 h2 =>
 bnd (bA [(.s []), (aC 0), (aC 0)] h2) fun v3 h3 =>
 bnd (aD 3 v3 v2 h3) fun _ h4 =>
  aPu r n kk11 x4 x5 x61 v3 x59 x60 x61 h4
noncomputable def cLh (r : RT) (n : Nat) (kk11 : cA) (x4 x5 x59 x60 x61 x62 : DV) (h0 : Hp) : aK :=
 aU x62 (
  bGd r n kk11 x4 x5 x59 x60 x61 h0) (
  bW r n x5 h0)
noncomputable def bUa (r : RT) (n : Nat) (kk11 : cA) (x4 x5 x59 x60 x61 : DV) (h0 : Hp) : aK :=
 bnd (aF .lss x61 x60 h0) fun v1 h1 =>
  cLh r n kk11 x4 x5 x59 x60 x61 v1 h1
noncomputable def aHc (r : RT) (n : Nat) (m : Nat) : cA :=
 Nat.rec (motive := fun _ => cA) (fun _ _ _ _ _ _ => none) (fun _ ih => bUa r n ih) m
noncomputable def dGw (r : RT) (n : Nat) : cA := aHc r n n
noncomputable def bTy (r : RT) (n : Nat) (x4 x5 x59 x60 x61 : DV) (h0 : Hp) : aK :=
 dGw r n x4 x5 x59 x60 x61 h0
noncomputable def lA (r : RT) (n : Nat) (x4 x5 : DV) (h0 : Hp) : aK :=
 bnd (r 33 [] h0) fun v1 h1 =>
 bnd (bK v1 h1) fun v2 h2 =>
  bTy r n x4 x5 v1 v2 (aC 0) h2
noncomputable def bPz (r : RT) (n : Nat) (kk27 : dH) (x4 x5 x43 : DV) (h0 : Hp) : aK :=
 bnd (aF .lss x43 (aC 16) h0) fun v1 h1 =>
 aU v1 (
 bnd (aO x5 h1) fun v2 h2 =>
 bnd (aB 1 v2 h2) fun v3 h3 =>
 bnd (aA v3 h3) fun v4 h4 =>
 bnd (aF .add (aC 2) x43 h4) fun v5 h5 =>
 bnd (pK [x4, (aC 0), (aC 0), (aC 6)] h5) fun v6 h6 =>
 cnd (aW (aA v3 h6) v4 && true) (
 bnd (aG 0 v6 h6) fun v7 h7 =>
 bnd (aG 1 v6 h7) fun v8 h8 =>
 bnd (aI 1 v4 v5 h8) fun v9 h9 =>
 bnd (aD 1 v9 v7 h9) fun v10 h10 =>
 bnd (aF .add x43 (aC 1) h10) fun v11 h11 =>
      kk27 x4 x5 v11 h11)) (
      lA r n x4 x5 h1)
noncomputable def aIm (r : RT) (n : Nat) (m : Nat) : dH :=
 Nat.rec (motive := fun _ => dH) (fun _ _ _ _ => none) (fun _ ih => bPz r n ih) m
noncomputable def dGo (r : RT) (n : Nat) : dH := aIm r n n
noncomputable def cMn (r : RT) (n : Nat) (x4 x5 x43 : DV) (h0 : Hp) : aK :=
 dGo r n x4 x5 x43 h0
noncomputable def bZi (r : RT) (n : Nat) (x4 x5 : DV) (h0 : Hp) : aK :=
 cMn r n x4 x5 (aC 0) h0
noncomputable def dCg (r : RT) (n : Nat) (x4 : DV) (h0 : Hp) : aK :=
 bnd (cI 1 8 [(aC 0)] (aC 18) (aC 18) h0) fun v1 h1 =>
 bnd (dW h1) fun v2 h2 =>
 bnd (dW h2) fun v3 h3 =>
 bnd (aT [.p0, .l0, .m0, .m0] [(0, 1, x4), (1, 1, v1), (2, 1, v2), (3, 1, v3)] h3) fun v4 h4 =>
 bnd (bM v4 h4) fun v5 h5 =>
  bZi r n x4 v5 h5
noncomputable def dTi (r : RT) (n : Nat) (x0 x4 : DV) (h0 : Hp) : aK :=
 bnd (qR (.pointer 135) true x4 .p0 h0) fun v1 h1 =>
 aU v1 (
 some (.t [.p0, (aC 1)], h1)) (
 bnd (aF .lss x0 (aC 16384) h1) fun v2 h2 =>
 aU v2 (
 some (.t [.p0, (aC 4)], h2)) (
   dCg r n x4 h2))
noncomputable def dIn (r : RT) (n : Nat) (x0 : DV) (h0 : Hp) : aK :=
 bnd (aYd [x0] h0) fun v1 h1 =>
  dTi r n x0 v1 h1
noncomputable def s7 (r : RT) (n : Nat) (x0 : DV) (h0 : Hp) : aK :=
 dIn r n x0 h0
noncomputable abbrev c7 : Code := cf Tryz.f7
noncomputable abbrev cOx : Code := cR c7
noncomputable abbrev dBs : Code := cR cOx
noncomputable abbrev dAu : Code := cR dBs
noncomputable abbrev dFp : Code := cR dAu
noncomputable abbrev dCc : Code := cR dFp
noncomputable abbrev cTh : Code := cR dCc
noncomputable abbrev eJa : Code := cR cTh
noncomputable abbrev bSw : Code := cL cTh
noncomputable abbrev dMa : Code := cR bSw
noncomputable abbrev bId : Code := cL dMa
noncomputable abbrev yM : Code := cL bId
noncomputable abbrev dGq : Code := cL bSw
noncomputable abbrev aQe : Code := cL dCc
noncomputable abbrev bZk : Code := cR aQe
noncomputable abbrev bFk : Code := cL bZk
noncomputable abbrev nO : Code := cL bFk
noncomputable abbrev bJi : Code := cR nO
noncomputable abbrev bCq : Code := cR bJi
noncomputable abbrev eGq : Code := cR bCq
noncomputable abbrev bJa : Code := cL bCq
noncomputable abbrev bHu : Code := cL bJa
noncomputable abbrev bGx : Code := cR bHu
noncomputable abbrev bIh : Code := cR bGx
noncomputable abbrev bJf : Code := cR bIh
noncomputable abbrev bHv : Code := cR bJf
noncomputable abbrev bEv : Code := cR bHv
noncomputable abbrev bHs : Code := cR bEv
noncomputable abbrev bIx : Code := cR bHs
noncomputable abbrev bAu : Code := cR bIx
noncomputable abbrev eFr : Code := cR bAu
noncomputable abbrev aRb : Code := cL bAu
noncomputable abbrev bPg : Code := cR aRb
noncomputable abbrev bDl : Code := cL bPg
noncomputable abbrev yO : Code := cL bDl
noncomputable abbrev cMz : Code := cL aRb
noncomputable abbrev dHw : Code := cL bIx
noncomputable abbrev cHr : Code := cL bHs
noncomputable abbrev dGm : Code := cL bEv
noncomputable abbrev dHa : Code := cL bHv
noncomputable abbrev dHp : Code := cL bJf
noncomputable abbrev dHf : Code := cL bIh
noncomputable abbrev dGi : Code := cL bGx
noncomputable abbrev cHi : Code := cL bHu
noncomputable abbrev dHn : Code := cL bJi
noncomputable abbrev dHj : Code := cL nO
noncomputable abbrev dHt : Code := cL aQe
noncomputable abbrev aPw : Code := cL dFp
noncomputable abbrev cGp : Code := cR aPw
noncomputable abbrev bFq : Code := cL cGp
noncomputable abbrev yY : Code := cL bFq
noncomputable abbrev dGv : Code := cL aPw
noncomputable abbrev bVh : Code := cL dAu
noncomputable abbrev dHu : Code := cL dBs
noncomputable abbrev dGp : Code := cL cOx
noncomputable abbrev dHr : Code := cL c7
noncomputable abbrev r7 : K := aR CF Tryz.f7
noncomputable def D7 (r : RT) (n : Nat) (c : Code) (X : Nat → K) (k : K) : K := aM CF r 179 n c X r7 k
theorem dHo : D7 r n eJa x0 r7 = (K1 (iV r n) 5) :=
 (by kernel_rfl)
theorem bZa (kk9 : dB) : D7 r n yM (xs x0 7 (K1 (iV r n) 5)) (K4 kk9 5 155 156 157) = (K4 (lT r n kk9) 5 155 156 157) :=
 (by kernel_rfl)
theorem dPv (m : Nat) : aL (fun kk => D7 r n yM (xs x0 7 (K1 (iV r n) 5)) kk) m = (K4 (lR r n m) 5 155 156 157) := by
 induction m with
 | zero => exact (by kernel_rfl : aL (fun kk => D7 r n yM (xs x0 7 (K1 (iV r n) 5)) kk) 0 = (K4 (lR r n 0) 5 155 156 157))
 | succ m ih =>
  refine (by kernel_rfl : aL (fun kk => D7 r n yM (xs x0 7 (K1 (iV r n) 5)) kk) (m + 1) = D7 r n yM (xs x0 7 (K1 (iV r n) 5)) (aL (fun kk => D7 r n yM (xs x0 7 (K1 (iV r n) 5)) kk) m)).trans ?_
  rw [ih]
  exact (bZa r n (lR r n m)).trans (by kernel_rfl)
theorem dGz : D7 r n bId (xs x0 7 (K1 (iV r n) 5)) (K1 (iV r n) 5) = (K4 (cJz r n) 5 155 156 157) :=
 (by kernel_rfl : D7 r n bId (xs x0 7 (K1 (iV r n) 5)) (K1 (iV r n) 5) = aL (fun kk => D7 r n yM (xs x0 7 (K1 (iV r n) 5)) kk) n).trans ((dPv r n n).trans (by kernel_rfl))
theorem dYy : D7 r n dMa x0 (K1 (iV r n) 5) = (K4 (dWs r n) 5 155 156 157) :=
 (by kernel_rfl : D7 r n dMa x0 (K1 (iV r n) 5) = D7 r n bId (xs x0 7 (K1 (iV r n) 5)) (K1 (iV r n) 5)).trans
 ((dGz r n).trans (by kernel_rfl))
theorem dRe : D7 r n cTh x0 r7 = D7 r n bSw x0 (K1 (iV r n) 5) :=
 congrArg (fun k => D7 r n bSw x0 k) (dHo r n)
theorem dUd : D7 r n bSw x0 (K1 (iV r n) 5) = D7 r n dGq x0 (K4 (dWs r n) 5 155 156 157) :=
 congrArg (fun k => D7 r n dGq x0 k) (dYy r n)
theorem dZq : D7 r n cTh x0 r7 = (K1 (bW r n) 5) :=
 (dRe r n).trans
 ((dUd r n).trans
 ((by kernel_rfl)))
theorem dIo (kk11 : cA) : D7 r n eGq (xs x0 3 (K1 (bW r n) 5)) (K5 kk11 4 5 59 60 61) = (K5 (bL r n kk11) 4 5 59 60 61) :=
 (by kernel_rfl)
theorem dQa (kk11 : cA) : D7 r n eFr (xs (xs x0 3 (K1 (bW r n) 5)) 4 (K5 (bL r n kk11) 4 5 59 60 61)) (K5 (bL r n kk11) 4 5 59 60 61) = (K7 (hC r n kk11) 4 5 8 9 59 60 61) :=
 (by kernel_rfl)
theorem cSy (kk11 : cA) (kk25 : aSq) : D7 r n yO (xs (xs (xs x0 3 (K1 (bW r n) 5)) 4 (K5 (bL r n kk11) 4 5 59 60 61)) 5 (K7 (hC r n kk11) 4 5 8 9 59 60 61)) (K10 kk25 4 5 8 9 59 60 61 117 118 119) = (K10 (cFz r n kk11 kk25) 4 5 8 9 59 60 61 117 118 119) :=
 (by kernel_rfl)
theorem cXs (kk11 : cA) (m : Nat) : aL (fun kk => D7 r n yO (xs (xs (xs x0 3 (K1 (bW r n) 5)) 4 (K5 (bL r n kk11) 4 5 59 60 61)) 5 (K7 (hC r n kk11) 4 5 8 9 59 60 61)) kk) m = (K10 (aDu r n kk11 m) 4 5 8 9 59 60 61 117 118 119) := by
 induction m with
 | zero => exact (by kernel_rfl : aL (fun kk => D7 r n yO (xs (xs (xs x0 3 (K1 (bW r n) 5)) 4 (K5 (bL r n kk11) 4 5 59 60 61)) 5 (K7 (hC r n kk11) 4 5 8 9 59 60 61)) kk) 0 = (K10 (aDu r n kk11 0) 4 5 8 9 59 60 61 117 118 119))
 | succ m ih =>
  refine (by kernel_rfl : aL (fun kk => D7 r n yO (xs (xs (xs x0 3 (K1 (bW r n) 5)) 4 (K5 (bL r n kk11) 4 5 59 60 61)) 5 (K7 (hC r n kk11) 4 5 8 9 59 60 61)) kk) (m + 1) = D7 r n yO (xs (xs (xs x0 3 (K1 (bW r n) 5)) 4 (K5 (bL r n kk11) 4 5 59 60 61)) 5 (K7 (hC r n kk11) 4 5 8 9 59 60 61)) (aL (fun kk => D7 r n yO (xs (xs (xs x0 3 (K1 (bW r n) 5)) 4 (K5 (bL r n kk11) 4 5 59 60 61)) 5 (K7 (hC r n kk11) 4 5 8 9 59 60 61)) kk) m)).trans ?_
  rw [ih]
  exact (cSy r n kk11 (aDu r n kk11 m)).trans (by kernel_rfl)
theorem dOy (kk11 : cA) : D7 r n bDl (xs (xs (xs x0 3 (K1 (bW r n) 5)) 4 (K5 (bL r n kk11) 4 5 59 60 61)) 5 (K7 (hC r n kk11) 4 5 8 9 59 60 61)) (K7 (hC r n kk11) 4 5 8 9 59 60 61) = (K10 (dGu r n kk11) 4 5 8 9 59 60 61 117 118 119) :=
 (by kernel_rfl : D7 r n bDl (xs (xs (xs x0 3 (K1 (bW r n) 5)) 4 (K5 (bL r n kk11) 4 5 59 60 61)) 5 (K7 (hC r n kk11) 4 5 8 9 59 60 61)) (K7 (hC r n kk11) 4 5 8 9 59 60 61) = aL (fun kk => D7 r n yO (xs (xs (xs x0 3 (K1 (bW r n) 5)) 4 (K5 (bL r n kk11) 4 5 59 60 61)) 5 (K7 (hC r n kk11) 4 5 8 9 59 60 61)) kk) n).trans ((cXs r n kk11 n).trans (by kernel_rfl))
theorem dLd (kk11 : cA) : D7 r n bPg (xs (xs x0 3 (K1 (bW r n) 5)) 4 (K5 (bL r n kk11) 4 5 59 60 61)) (K7 (hC r n kk11) 4 5 8 9 59 60 61) = (K10 (aQd r n kk11) 4 5 8 9 59 60 61 117 118 119) :=
 (by kernel_rfl : D7 r n bPg (xs (xs x0 3 (K1 (bW r n) 5)) 4 (K5 (bL r n kk11) 4 5 59 60 61)) (K7 (hC r n kk11) 4 5 8 9 59 60 61) = D7 r n bDl (xs (xs (xs x0 3 (K1 (bW r n) 5)) 4 (K5 (bL r n kk11) 4 5 59 60 61)) 5 (K7 (hC r n kk11) 4 5 8 9 59 60 61)) (K7 (hC r n kk11) 4 5 8 9 59 60 61)).trans
 ((dOy r n kk11).trans (by kernel_rfl))
theorem dEw (kk11 : cA) : D7 r n bAu (xs (xs x0 3 (K1 (bW r n) 5)) 4 (K5 (bL r n kk11) 4 5 59 60 61)) (K5 (bL r n kk11) 4 5 59 60 61) = D7 r n aRb (xs (xs x0 3 (K1 (bW r n) 5)) 4 (K5 (bL r n kk11) 4 5 59 60 61)) (K7 (hC r n kk11) 4 5 8 9 59 60 61) :=
 congrArg (fun k => D7 r n aRb (xs (xs x0 3 (K1 (bW r n) 5)) 4 (K5 (bL r n kk11) 4 5 59 60 61)) k) (dQa r n kk11)
theorem cRf (kk11 : cA) : D7 r n aRb (xs (xs x0 3 (K1 (bW r n) 5)) 4 (K5 (bL r n kk11) 4 5 59 60 61)) (K7 (hC r n kk11) 4 5 8 9 59 60 61) = D7 r n cMz (xs (xs x0 3 (K1 (bW r n) 5)) 4 (K5 (bL r n kk11) 4 5 59 60 61)) (K10 (aQd r n kk11) 4 5 8 9 59 60 61 117 118 119) :=
 congrArg (fun k => D7 r n cMz (xs (xs x0 3 (K1 (bW r n) 5)) 4 (K5 (bL r n kk11) 4 5 59 60 61)) k) (dLd r n kk11)
theorem cYy (kk11 : cA) (q0 : aSq) (q1 : TT1) (q2 : cA) : D7 r n cMz (xs (xs x0 3 (K1 q1 5)) 4 (K5 q2 4 5 59 60 61)) (K10 q0 4 5 8 9 59 60 61 117 118 119) = fun (env : aV) (h : Hp) =>
 bnd (r 37 [(env 13)] (resv 1 h)) fun v1 h1 =>
 bnd (aB 2 (env 8) h1) fun v2 h2 =>
 bnd (aA v2 h2) fun v3 h3 =>
 cnd (aW (aA v2 (resv 1 h)) v3 && true) (
 bnd (r 37 [v3] h3) fun v4 h4 =>
 bnd (aS (bD 0 h.next) [(aC 0), (aC 0), (aC 0), (aC 0), (aC 0), (aC 0)] 6 [(0, 1, (env 10)), (1, 1, (env 12)), (2, 1, v1), (3, 1, (env 19)), (4, 1, (aC 0)), (5, 1, v4)] h4) fun v5 h5 =>
 bnd (bK v5 h5) fun v6 h6 =>
  q0 (env 4) (env 5) (env 8) (env 9) (env 59) (env 60) (env 61) v5 v6 (aC 0) h6) := by kernel_rfl
theorem cKn (kk11 : cA) : (fun (env : aV) (h : Hp) =>
 bnd (r 37 [(env 13)] (resv 1 h)) fun v1 h1 =>
 bnd (aB 2 (env 8) h1) fun v2 h2 =>
 bnd (aA v2 h2) fun v3 h3 =>
 cnd (aW (aA v2 (resv 1 h)) v3 && true) (
 bnd (r 37 [v3] h3) fun v4 h4 =>
 bnd (aS (bD 0 h.next) [(aC 0), (aC 0), (aC 0), (aC 0), (aC 0), (aC 0)] 6 [(0, 1, (env 10)), (1, 1, (env 12)), (2, 1, v1), (3, 1, (env 19)), (4, 1, (aC 0)), (5, 1, v4)] h4) fun v5 h5 =>
 bnd (bK v5 h5) fun v6 h6 =>
  aQd r n kk11 (env 4) (env 5) (env 8) (env 9) (env 59) (env 60) (env 61) v5 v6 (aC 0) h6)) = (K11 (bCt r n kk11) 4 5 8 9 10 12 13 19 59 60 61) := by kernel_rfl
theorem dUn (kk11 : cA) : D7 r n bAu (xs (xs x0 3 (K1 (bW r n) 5)) 4 (K5 (bL r n kk11) 4 5 59 60 61)) (K5 (bL r n kk11) 4 5 59 60 61) = (K11 (bCt r n kk11) 4 5 8 9 10 12 13 19 59 60 61) :=
 (dEw r n kk11).trans
 ((cRf r n kk11).trans
 ((cYy r n kk11 (aQd r n kk11) (bW r n) (bL r n kk11)).trans (cKn r n kk11)))
theorem cQw (kk11 : cA) : D7 r n bIx (xs (xs x0 3 (K1 (bW r n) 5)) 4 (K5 (bL r n kk11) 4 5 59 60 61)) (K5 (bL r n kk11) 4 5 59 60 61) = D7 r n dHw (xs (xs x0 3 (K1 (bW r n) 5)) 4 (K5 (bL r n kk11) 4 5 59 60 61)) (K11 (bCt r n kk11) 4 5 8 9 10 12 13 19 59 60 61) :=
 congrArg (fun k => D7 r n dHw (xs (xs x0 3 (K1 (bW r n) 5)) 4 (K5 (bL r n kk11) 4 5 59 60 61)) k) (dUn r n kk11)
theorem dQf (kk11 : cA) : D7 r n bIx (xs (xs x0 3 (K1 (bW r n) 5)) 4 (K5 (bL r n kk11) 4 5 59 60 61)) (K5 (bL r n kk11) 4 5 59 60 61) = (K11 (aAz r n kk11) 4 5 8 9 10 12 13 14 59 60 61) :=
 (cQw r n kk11).trans
 ((by kernel_rfl))
theorem dAg (kk11 : cA) : D7 r n bHs (xs (xs x0 3 (K1 (bW r n) 5)) 4 (K5 (bL r n kk11) 4 5 59 60 61)) (K5 (bL r n kk11) 4 5 59 60 61) = D7 r n cHr (xs (xs x0 3 (K1 (bW r n) 5)) 4 (K5 (bL r n kk11) 4 5 59 60 61)) (K11 (aAz r n kk11) 4 5 8 9 10 12 13 14 59 60 61) :=
 congrArg (fun k => D7 r n cHr (xs (xs x0 3 (K1 (bW r n) 5)) 4 (K5 (bL r n kk11) 4 5 59 60 61)) k) (dQf r n kk11)
theorem cYb (kk11 : cA) (q0 : eCv) (q1 : TT1) (q2 : cA) : D7 r n cHr (xs (xs x0 3 (K1 q1 5)) 4 (K5 q2 4 5 59 60 61)) (K11 q0 4 5 8 9 10 12 13 14 59 60 61) = fun (env : aV) (h : Hp) =>
 bnd (aF .eql (env 7) (aC 15) h) fun v1 h1 =>
 aU v1 (
 bnd (r 10 [(env 5), (.s [115, 101, 108, 101, 99, 116, 111, 114])] h1) fun v2 h2 =>
 bnd (aG 0 v2 h2) fun v3 h3 =>
 bnd (aG 1 v2 h3) fun v4 h4 =>
 bnd (r 10 [(env 5), (.s [97, 114, 103, 117, 109, 101, 110, 116, 115])] h4) fun v5 h5 =>
 bnd (aG 0 v5 h5) fun v6 h6 =>
 bnd (aG 1 v5 h6) fun v7 h7 =>
 bnd (aN [(aC 0), (aC 0)] 2 [(0, 1, v3), (1, 1, v6)] h7) fun v8 h8 =>
      q0 (env 4) (env 5) (env 8) (env 9) (env 10) (env 12) (aC 2) v8 (env 59) (env 60) (env 61) h8) (
      q0 (env 4) (env 5) (env 8) (env 9) (env 10) (env 12) (env 13) (env 14) (env 59) (env 60) (env 61) h1) := by kernel_rfl
theorem bRr (kk11 : cA) : (fun (env : aV) (h : Hp) =>
 bnd (aF .eql (env 7) (aC 15) h) fun v1 h1 =>
 aU v1 (
 bnd (r 10 [(env 5), (.s [115, 101, 108, 101, 99, 116, 111, 114])] h1) fun v2 h2 =>
 bnd (aG 0 v2 h2) fun v3 h3 =>
 bnd (aG 1 v2 h3) fun v4 h4 =>
 bnd (r 10 [(env 5), (.s [97, 114, 103, 117, 109, 101, 110, 116, 115])] h4) fun v5 h5 =>
 bnd (aG 0 v5 h5) fun v6 h6 =>
 bnd (aG 1 v5 h6) fun v7 h7 =>
 bnd (aN [(aC 0), (aC 0)] 2 [(0, 1, v3), (1, 1, v6)] h7) fun v8 h8 =>
      aAz r n kk11 (env 4) (env 5) (env 8) (env 9) (env 10) (env 12) (aC 2) v8 (env 59) (env 60) (env 61) h8) (
      aAz r n kk11 (env 4) (env 5) (env 8) (env 9) (env 10) (env 12) (env 13) (env 14) (env 59) (env 60) (env 61) h1)) = (K12 (aQv r n kk11) 4 5 7 8 9 10 12 13 14 59 60 61) := by kernel_rfl
theorem dMg (kk11 : cA) : D7 r n bHs (xs (xs x0 3 (K1 (bW r n) 5)) 4 (K5 (bL r n kk11) 4 5 59 60 61)) (K5 (bL r n kk11) 4 5 59 60 61) = (K12 (aQv r n kk11) 4 5 7 8 9 10 12 13 14 59 60 61) :=
 (dAg r n kk11).trans
 ((cYb r n kk11 (aAz r n kk11) (bW r n) (bL r n kk11)).trans (bRr r n kk11))
theorem dAf (kk11 : cA) : D7 r n bEv (xs (xs x0 3 (K1 (bW r n) 5)) 4 (K5 (bL r n kk11) 4 5 59 60 61)) (K5 (bL r n kk11) 4 5 59 60 61) = D7 r n dGm (xs (xs x0 3 (K1 (bW r n) 5)) 4 (K5 (bL r n kk11) 4 5 59 60 61)) (K12 (aQv r n kk11) 4 5 7 8 9 10 12 13 14 59 60 61) :=
 congrArg (fun k => D7 r n dGm (xs (xs x0 3 (K1 (bW r n) 5)) 4 (K5 (bL r n kk11) 4 5 59 60 61)) k) (dMg r n kk11)
theorem dJf (kk11 : cA) : D7 r n bEv (xs (xs x0 3 (K1 (bW r n) 5)) 4 (K5 (bL r n kk11) 4 5 59 60 61)) (K5 (bL r n kk11) 4 5 59 60 61) = (K12 (cEk r n kk11) 4 5 7 8 9 10 12 13 14 59 60 61) :=
 (dAf r n kk11).trans
 ((by kernel_rfl))
theorem bRj (kk11 : cA) : D7 r n bHv (xs (xs x0 3 (K1 (bW r n) 5)) 4 (K5 (bL r n kk11) 4 5 59 60 61)) (K5 (bL r n kk11) 4 5 59 60 61) = D7 r n dHa (xs (xs x0 3 (K1 (bW r n) 5)) 4 (K5 (bL r n kk11) 4 5 59 60 61)) (K12 (cEk r n kk11) 4 5 7 8 9 10 12 13 14 59 60 61) :=
 congrArg (fun k => D7 r n dHa (xs (xs x0 3 (K1 (bW r n) 5)) 4 (K5 (bL r n kk11) 4 5 59 60 61)) k) (dJf r n kk11)
theorem dJj (kk11 : cA) : D7 r n bHv (xs (xs x0 3 (K1 (bW r n) 5)) 4 (K5 (bL r n kk11) 4 5 59 60 61)) (K5 (bL r n kk11) 4 5 59 60 61) = (K9 (cAh r n kk11) 4 5 7 8 9 10 59 60 61) :=
 (bRj r n kk11).trans
 ((by kernel_rfl))
theorem cEo (kk11 : cA) : D7 r n bJf (xs (xs x0 3 (K1 (bW r n) 5)) 4 (K5 (bL r n kk11) 4 5 59 60 61)) (K5 (bL r n kk11) 4 5 59 60 61) = D7 r n dHp (xs (xs x0 3 (K1 (bW r n) 5)) 4 (K5 (bL r n kk11) 4 5 59 60 61)) (K9 (cAh r n kk11) 4 5 7 8 9 10 59 60 61) :=
 congrArg (fun k => D7 r n dHp (xs (xs x0 3 (K1 (bW r n) 5)) 4 (K5 (bL r n kk11) 4 5 59 60 61)) k) (dJj r n kk11)
theorem dPx (kk11 : cA) : D7 r n bJf (xs (xs x0 3 (K1 (bW r n) 5)) 4 (K5 (bL r n kk11) 4 5 59 60 61)) (K5 (bL r n kk11) 4 5 59 60 61) = (K8 (cCy r n kk11) 4 5 7 8 9 59 60 61) :=
 (cEo r n kk11).trans
 ((by kernel_rfl))
theorem bPj (kk11 : cA) : D7 r n bIh (xs (xs x0 3 (K1 (bW r n) 5)) 4 (K5 (bL r n kk11) 4 5 59 60 61)) (K5 (bL r n kk11) 4 5 59 60 61) = D7 r n dHf (xs (xs x0 3 (K1 (bW r n) 5)) 4 (K5 (bL r n kk11) 4 5 59 60 61)) (K8 (cCy r n kk11) 4 5 7 8 9 59 60 61) :=
 congrArg (fun k => D7 r n dHf (xs (xs x0 3 (K1 (bW r n) 5)) 4 (K5 (bL r n kk11) 4 5 59 60 61)) k) (dPx r n kk11)
theorem dJh (kk11 : cA) : D7 r n bIh (xs (xs x0 3 (K1 (bW r n) 5)) 4 (K5 (bL r n kk11) 4 5 59 60 61)) (K5 (bL r n kk11) 4 5 59 60 61) = (K8 (cGu r n kk11) 4 5 7 8 9 59 60 61) :=
 (bPj r n kk11).trans
 ((by kernel_rfl))
theorem bSz (kk11 : cA) : D7 r n bGx (xs (xs x0 3 (K1 (bW r n) 5)) 4 (K5 (bL r n kk11) 4 5 59 60 61)) (K5 (bL r n kk11) 4 5 59 60 61) = D7 r n dGi (xs (xs x0 3 (K1 (bW r n) 5)) 4 (K5 (bL r n kk11) 4 5 59 60 61)) (K8 (cGu r n kk11) 4 5 7 8 9 59 60 61) :=
 congrArg (fun k => D7 r n dGi (xs (xs x0 3 (K1 (bW r n) 5)) 4 (K5 (bL r n kk11) 4 5 59 60 61)) k) (dJh r n kk11)
theorem dPy (kk11 : cA) : D7 r n bGx (xs (xs x0 3 (K1 (bW r n) 5)) 4 (K5 (bL r n kk11) 4 5 59 60 61)) (K5 (bL r n kk11) 4 5 59 60 61) = (K7 (aPu r n kk11) 4 5 7 8 59 60 61) :=
 (bSz r n kk11).trans
 ((by kernel_rfl))
theorem cGb (kk11 : cA) : D7 r n bCq (xs x0 3 (K1 (bW r n) 5)) (K5 kk11 4 5 59 60 61) = D7 r n bJa (xs x0 3 (K1 (bW r n) 5)) (K5 (bL r n kk11) 4 5 59 60 61) :=
 congrArg (fun k => D7 r n bJa (xs x0 3 (K1 (bW r n) 5)) k) (dIo r n kk11)
theorem cHs (kk11 : cA) : D7 r n bHu (xs (xs x0 3 (K1 (bW r n) 5)) 4 (K5 (bL r n kk11) 4 5 59 60 61)) (K5 (bL r n kk11) 4 5 59 60 61) = D7 r n cHi (xs (xs x0 3 (K1 (bW r n) 5)) 4 (K5 (bL r n kk11) 4 5 59 60 61)) (K7 (aPu r n kk11) 4 5 7 8 59 60 61) :=
 congrArg (fun k => D7 r n cHi (xs (xs x0 3 (K1 (bW r n) 5)) 4 (K5 (bL r n kk11) 4 5 59 60 61)) k) (dPy r n kk11)
theorem cMs (kk11 : cA) (q0 : TT7) (q1 : TT1) (q2 : cA) : D7 r n cHi (xs (xs x0 3 (K1 q1 5)) 4 (K5 q2 4 5 59 60 61)) (K7 q0 4 5 7 8 59 60 61) = fun (env : aV) (h : Hp) =>
 bnd (aI 3 (env 59) (env 61) h) fun v1 h1 =>
 bnd (aH 3 v1 h1) fun v2 h2 =>
 bnd (bA [(.s []), (aC 0), (aC 0)] h2) fun v3 h3 =>
 bnd (aD 3 v3 v2 h3) fun _ h4 =>
  q0 (env 4) (env 5) (env 61) v3 (env 59) (env 60) (env 61) h4 := by kernel_rfl
theorem bMz (kk11 : cA) : (fun (env : aV) (h : Hp) =>
 bnd (aI 3 (env 59) (env 61) h) fun v1 h1 =>
 bnd (aH 3 v1 h1) fun v2 h2 =>
 bnd (bA [(.s []), (aC 0), (aC 0)] h2) fun v3 h3 =>
 bnd (aD 3 v3 v2 h3) fun _ h4 =>
  aPu r n kk11 (env 4) (env 5) (env 61) v3 (env 59) (env 60) (env 61) h4) = (K5 (bGd r n kk11) 4 5 59 60 61) := by kernel_rfl
theorem dOi (kk11 : cA) : D7 r n bCq (xs x0 3 (K1 (bW r n) 5)) (K5 kk11 4 5 59 60 61) = (K5 (bGd r n kk11) 4 5 59 60 61) :=
 (cGb r n kk11).trans
 ((by kernel_rfl : D7 r n bJa (xs x0 3 (K1 (bW r n) 5)) (K5 (bL r n kk11) 4 5 59 60 61) = D7 r n bHu (xs (xs x0 3 (K1 (bW r n) 5)) 4 (K5 (bL r n kk11) 4 5 59 60 61)) (K5 (bL r n kk11) 4 5 59 60 61)).trans
 ((cHs r n kk11).trans
 ((cMs r n kk11 (aPu r n kk11) (bW r n) (bL r n kk11)).trans (bMz r n kk11))))
theorem bRz (kk11 : cA) : D7 r n bJi (xs x0 3 (K1 (bW r n) 5)) (K5 kk11 4 5 59 60 61) = D7 r n dHn (xs x0 3 (K1 (bW r n) 5)) (K5 (bGd r n kk11) 4 5 59 60 61) :=
 congrArg (fun k => D7 r n dHn (xs x0 3 (K1 (bW r n) 5)) k) (dOi r n kk11)
theorem dNj (kk11 : cA) : D7 r n bJi (xs x0 3 (K1 (bW r n) 5)) (K5 kk11 4 5 59 60 61) = (K6 (cLh r n kk11) 4 5 59 60 61 62) :=
 (bRz r n kk11).trans
 ((by kernel_rfl))
theorem cMh (kk11 : cA) : D7 r n nO (xs x0 3 (K1 (bW r n) 5)) (K5 kk11 4 5 59 60 61) = D7 r n dHj (xs x0 3 (K1 (bW r n) 5)) (K6 (cLh r n kk11) 4 5 59 60 61 62) :=
 congrArg (fun k => D7 r n dHj (xs x0 3 (K1 (bW r n) 5)) k) (dNj r n kk11)
theorem cUa (kk11 : cA) : D7 r n nO (xs x0 3 (K1 (bW r n) 5)) (K5 kk11 4 5 59 60 61) = (K5 (bUa r n kk11) 4 5 59 60 61) :=
 (cMh r n kk11).trans
 ((by kernel_rfl))
theorem cRz (m : Nat) : aL (fun kk => D7 r n nO (xs x0 3 (K1 (bW r n) 5)) kk) m = (K5 (aHc r n m) 4 5 59 60 61) := by
 induction m with
 | zero => exact (by kernel_rfl : aL (fun kk => D7 r n nO (xs x0 3 (K1 (bW r n) 5)) kk) 0 = (K5 (aHc r n 0) 4 5 59 60 61))
 | succ m ih =>
  refine (by kernel_rfl : aL (fun kk => D7 r n nO (xs x0 3 (K1 (bW r n) 5)) kk) (m + 1) = D7 r n nO (xs x0 3 (K1 (bW r n) 5)) (aL (fun kk => D7 r n nO (xs x0 3 (K1 (bW r n) 5)) kk) m)).trans ?_
  rw [ih]
  exact (cUa r n (aHc r n m)).trans (by kernel_rfl)
theorem dTe : D7 r n bFk (xs x0 3 (K1 (bW r n) 5)) (K1 (bW r n) 5) = (K5 (dGw r n) 4 5 59 60 61) :=
 (by kernel_rfl : D7 r n bFk (xs x0 3 (K1 (bW r n) 5)) (K1 (bW r n) 5) = aL (fun kk => D7 r n nO (xs x0 3 (K1 (bW r n) 5)) kk) n).trans ((cRz r n n).trans (by kernel_rfl))
theorem dPk : D7 r n bZk x0 (K1 (bW r n) 5) = (K5 (bTy r n) 4 5 59 60 61) :=
 (by kernel_rfl : D7 r n bZk x0 (K1 (bW r n) 5) = D7 r n bFk (xs x0 3 (K1 (bW r n) 5)) (K1 (bW r n) 5)).trans
 ((dTe r n).trans (by kernel_rfl))
theorem cSq : D7 r n dCc x0 r7 = D7 r n aQe x0 (K1 (bW r n) 5) :=
 congrArg (fun k => D7 r n aQe x0 k) (dZq r n)
theorem cTa : D7 r n aQe x0 (K1 (bW r n) 5) = D7 r n dHt x0 (K5 (bTy r n) 4 5 59 60 61) :=
 congrArg (fun k => D7 r n dHt x0 k) (dPk r n)
theorem eGs : D7 r n dCc x0 r7 = (K2 (lA r n) 4 5) :=
 (cSq r n).trans
 ((cTa r n).trans
 ((by kernel_rfl)))
theorem dBm (kk27 : dH) : D7 r n yY (xs x0 1 (K2 (lA r n) 4 5)) (K3 kk27 4 5 43) = (K3 (bPz r n kk27) 4 5 43) :=
 (by kernel_rfl)
theorem cSc (m : Nat) : aL (fun kk => D7 r n yY (xs x0 1 (K2 (lA r n) 4 5)) kk) m = (K3 (aIm r n m) 4 5 43) := by
 induction m with
 | zero => exact (by kernel_rfl : aL (fun kk => D7 r n yY (xs x0 1 (K2 (lA r n) 4 5)) kk) 0 = (K3 (aIm r n 0) 4 5 43))
 | succ m ih =>
  refine (by kernel_rfl : aL (fun kk => D7 r n yY (xs x0 1 (K2 (lA r n) 4 5)) kk) (m + 1) = D7 r n yY (xs x0 1 (K2 (lA r n) 4 5)) (aL (fun kk => D7 r n yY (xs x0 1 (K2 (lA r n) 4 5)) kk) m)).trans ?_
  rw [ih]
  exact (dBm r n (aIm r n m)).trans (by kernel_rfl)
theorem dOb : D7 r n bFq (xs x0 1 (K2 (lA r n) 4 5)) (K2 (lA r n) 4 5) = (K3 (dGo r n) 4 5 43) :=
 (by kernel_rfl : D7 r n bFq (xs x0 1 (K2 (lA r n) 4 5)) (K2 (lA r n) 4 5) = aL (fun kk => D7 r n yY (xs x0 1 (K2 (lA r n) 4 5)) kk) n).trans ((cSc r n n).trans (by kernel_rfl))
theorem dUi : D7 r n cGp x0 (K2 (lA r n) 4 5) = (K3 (cMn r n) 4 5 43) :=
 (by kernel_rfl : D7 r n cGp x0 (K2 (lA r n) 4 5) = D7 r n bFq (xs x0 1 (K2 (lA r n) 4 5)) (K2 (lA r n) 4 5)).trans
 ((dOb r n).trans (by kernel_rfl))
theorem cZv : D7 r n dFp x0 r7 = D7 r n aPw x0 (K2 (lA r n) 4 5) :=
 congrArg (fun k => D7 r n aPw x0 k) (eGs r n)
theorem cUj : D7 r n aPw x0 (K2 (lA r n) 4 5) = D7 r n dGv x0 (K3 (cMn r n) 4 5 43) :=
 congrArg (fun k => D7 r n dGv x0 k) (dUi r n)
theorem eDq : D7 r n dFp x0 r7 = (K2 (bZi r n) 4 5) :=
 (cZv r n).trans
 ((cUj r n).trans
 ((by kernel_rfl)))
theorem cVo : D7 r n dAu x0 r7 = D7 r n bVh x0 (K2 (bZi r n) 4 5) :=
 congrArg (fun k => D7 r n bVh x0 k) (eDq r n)
theorem cSf (q0 : eN) : D7 r n bVh x0 (K2 q0 4 5) = fun (env : aV) (h : Hp) =>
 bnd (cI 1 8 [(aC 0)] (aC 18) (aC 18) h) fun v1 h1 =>
 bnd (dW h1) fun v2 h2 =>
 bnd (dW h2) fun v3 h3 =>
 bnd (aT [.p0, .l0, .m0, .m0] [(0, 1, (env 4)), (1, 1, v1), (2, 1, v2), (3, 1, v3)] h3) fun v4 h4 =>
 bnd (bM v4 h4) fun v5 h5 =>
  q0 (env 4) v5 h5 := by kernel_rfl
theorem bXs : (fun (env : aV) (h : Hp) =>
 bnd (cI 1 8 [(aC 0)] (aC 18) (aC 18) h) fun v1 h1 =>
 bnd (dW h1) fun v2 h2 =>
 bnd (dW h2) fun v3 h3 =>
 bnd (aT [.p0, .l0, .m0, .m0] [(0, 1, (env 4)), (1, 1, v1), (2, 1, v2), (3, 1, v3)] h3) fun v4 h4 =>
 bnd (bM v4 h4) fun v5 h5 =>
  bZi r n (env 4) v5 h5) = (K1 (dCg r n) 4) := by kernel_rfl
theorem eIp : D7 r n dAu x0 r7 = (K1 (dCg r n) 4) :=
 (cVo r n).trans
 ((cSf r n (bZi r n)).trans (bXs r n))
theorem cQg : D7 r n dBs x0 r7 = D7 r n dHu x0 (K1 (dCg r n) 4) :=
 congrArg (fun k => D7 r n dHu x0 k) (eIp r n)
theorem eGl : D7 r n dBs x0 r7 = (K2 (dTi r n) 0 4) :=
 (cQg r n).trans
 ((by kernel_rfl))
theorem cTz : D7 r n cOx x0 r7 = D7 r n dGp x0 (K2 (dTi r n) 0 4) :=
 congrArg (fun k => D7 r n dGp x0 k) (eGl r n)
theorem eDe : D7 r n cOx x0 r7 = (K1 (dIn r n) 0) :=
 (cTz r n).trans
 ((by kernel_rfl))
theorem eEm : D7 r n c7 x0 r7 = D7 r n dHr x0 (K1 (dIn r n) 0) :=
 congrArg (fun k => D7 r n dHr x0 k) (eDe r n)
theorem s7m : D7 r n c7 x0 r7 = (K1 (s7 r n) 0) :=
 (eEm r n).trans
 ((by kernel_rfl))
theorem eKt : aE CF r n 7 args h = s7 r n (aP args 0) h :=
 (by kernel_rfl : aE CF r n 7 args h = D7 r n c7 x0 r7 (aJ args) h).trans ((congrFun (congrFun (s7m r n) (aJ args)) h).trans (by kernel_rfl))
noncomputable def s9 (r : RT) (n : Nat) (h0 : Hp) : aK :=
 bnd (r 7 [(aC 20000)] h0) fun v1 h1 =>
 bnd (aG 0 v1 h1) fun v2 h2 =>
 bnd (aG 1 v1 h2) fun v3 h3 =>
 bnd (r 8 [] h3) fun v4 h4 =>
 bnd (qR (.pointer 77) true v2 .p0 h4) fun v5 h5 =>
 bnd (gD v5 false (some (v4, h5)) h5) fun v6 h6 =>
 bnd (gD v5 false (qR (.pointer 98) true v6 .p0 h6) h6) fun v7 h7 =>
 bnd (aQ v5 (.b true) v7 h7) fun v8 h8 =>
 bnd (gD v8 false (some (v3, h8)) h8) fun v9 h9 =>
 bnd (gD v8 false (aF .neq v9 (aC 0) h9) h9) fun v10 h10 =>
 bnd (aQ v8 (.b true) v10 h10) fun v11 h11 =>
 aU v11 (
 some ((.b false), h11)) (
 bnd (r 10 [v2, (.s [61])] h11) fun v12 h12 =>
 bnd (aG 0 v12 h12) fun v13 h13 =>
 bnd (aG 1 v12 h13) fun v14 h14 =>
 bnd (r 10 [v2, (.s [105, 115, 78, 105, 108])] h14) fun v15 h15 =>
 bnd (aG 0 v15 h15) fun v16 h16 =>
 bnd (aG 1 v15 h16) fun v17 h17 =>
 bnd (r 11 [v2, (.s [83, 109, 97, 108, 108, 73, 110, 116, 101, 103, 101, 114])] h17) fun v18 h18 =>
 bnd (r 42 [v2, v18, v13] h18) fun v19 h19 =>
 bnd (bA [(aC 0), (aC 0)] h19) fun v20 h20 =>
 bnd (aD 2 v20 v19 h20) fun _ h21 =>
 bnd (r 12 [v4, v2, v18, v16] h21) fun v22 h22 =>
 bnd (bA [(aC 0), (aC 0)] h22) fun v23 h23 =>
 bnd (aD 2 v23 v22 h23) fun _ h24 =>
 bnd (r 12 [v4, v2, v18, v16] h24) fun v25 h25 =>
 bnd (bA [(aC 0), (aC 0)] h25) fun v26 h26 =>
 bnd (aD 2 v26 v25 h26) fun _ h27 =>
 bnd (aB 1 v20 h27) fun v28 h28 =>
 bnd (aA v28 h28) fun v29 h29 =>
 bnd (r 11 [v2, (.s [73, 110, 116, 101, 103, 101, 114])] h29) fun v30 h30 =>
 cnd (aW (aA v28 h30) v29 && true) (
 bnd (aF .eql v29 v30 h30) fun v31 h31 =>
 bnd (gD v31 true (aB 1 v23 h31) h31) fun v32 h32 =>
 bnd (gD v31 true (aA v32 h32) h32) fun v33 h33 =>
 bnd (gD v31 true (some (v2, h33)) h33) fun v34 h34 =>
 bnd (gD v31 true (r 11 [v34, (.s [79, 98, 106, 101, 99, 116])] h34) h34) fun v35 h35 =>
 cnd (aW (gD v31 true (aA v32 h35) h35) v33 && true) (
 bnd (gD v31 true (aF .eql v33 v35 h35) h35) fun v36 h36 =>
 bnd (aQ v31 v36 (.b false) h36) fun v37 h37 =>
 bnd (gD v37 true (aH 2 v23 h37) h37) fun v38 h38 =>
 bnd (gD v37 true (aH 2 v26 h38) h38) fun v39 h39 =>
 bnd (gD v37 true (bMd true .eql v38 v39 h39) h39) fun v40 h40 =>
 bnd (aQ v37 v40 (.b false) h40) fun v41 h41 =>
 bnd (gD v41 true (aB 0 v23 h41) h41) fun v42 h42 =>
 bnd (gD v41 true (aA v42 h42) h42) fun v43 h43 =>
 bnd (gD v41 true (aF .neq v43 (aC 0) h43) h43) fun v44 h44 =>
 bnd (aQ v41 v44 (.b false) h44) fun v45 h45 =>
 bnd (gD v45 true (some (v4, h45)) h45) fun v46 h46 =>
 bnd (gD v45 true (r 13 [v46] h46) h46) fun v47 h47 =>
 bnd (gD v45 true (aF .eql v47 (aC 1) h47) h47) fun v48 h48 =>
 bnd (aQ v45 v48 (.b false) h48) fun v49 h49 =>
 bnd (gD v49 true (some (v4, h49)) h49) fun v50 h50 =>
 bnd (gD v49 true (r 15 [v50] h50) h50) fun v51 h51 =>
 bnd (gD v49 true (aF .eql v51 (aC 2) h51) h51) fun v52 h52 =>
 bnd (aQ v49 v52 (.b false) h52) fun v53 h53 =>
 some (v53, h53))))
noncomputable abbrev c9 : Code := cf Tryz.f9
noncomputable abbrev r9 : K := aR CF Tryz.f9
noncomputable def D9 (r : RT) (n : Nat) (c : Code) (X : Nat → K) (k : K) : K := aM CF r 85 n c X r9 k
theorem s9m : D9 r n c9 x0 r9 = (K0 (s9 r n)) :=
 (by kernel_rfl)
theorem eKo : aE CF r n 9 args h = s9 r n h :=
 (by kernel_rfl : aE CF r n 9 args h = D9 r n c9 x0 r9 (aJ args) h).trans ((congrFun (congrFun (s9m r n) (aJ args)) h).trans (by kernel_rfl))
noncomputable def s10 (r : RT) (n : Nat) (x0 x1 : DV) (h0 : Hp) : aK :=
 bnd (gA x1 h0) fun v1 h1 =>
 bnd (aF .lss v1 (aC 1) h1) fun v2 h2 =>
 bnd (gD v2 false (some (x1, h2)) h2) fun v3 h3 =>
 bnd (gD v2 false (gA v3 h3) h3) fun v4 h4 =>
 bnd (gD v2 false (aF .gtr v4 (aC 60) h4) h4) fun v5 h5 =>
 bnd (aQ v2 (.b true) v5 h5) fun v6 h6 =>
 aU v6 (
 some (.t [(aC 0), (aC 1)], h6)) (
 bnd (aO x0 h6) fun v7 h7 =>
 bnd (aB 2 v7 h7) fun v8 h8 =>
 bnd (aA v8 h8) fun v9 h9 =>
 bnd (gM .string (aC 0) false v9 x1 h9) fun v10 h10 =>
 bnd (aF .neq v10 (aC 0) h10) fun v11 h11 =>
 aU v11 (
 some (.t [v10, (aC 0)], h11)) (
 bnd (r 34 [x0, (aC 11)] h11) fun v12 h12 =>
 bnd (r 43 [x0, v12, x1] h12) fun v13 h13 =>
 bnd (aG 0 v13 h13) fun v14 h14 =>
 bnd (aG 1 v13 h14) fun v15 h15 =>
 bnd (aF .neq v15 (aC 0) h15) fun v16 h16 =>
 aU v16 (
 some (.t [(aC 0), v15], h16)) (
 bnd (aO x0 h16) fun v17 h17 =>
 bnd (aB 1 v17 h17) fun v18 h18 =>
 bnd (aA v18 h18) fun v19 h19 =>
 bnd (aI 1 v19 (aC 0) h19) fun v20 h20 =>
 bnd (aA v20 h20) fun v21 h21 =>
 bnd (r 39 [x0, v14, v21] h21) fun v22 h22 =>
 bnd (aG 0 v22 h22) fun v23 h23 =>
 bnd (aG 1 v22 h23) fun v24 h24 =>
 bnd (aF .neq v24 (aC 0) h24) fun v25 h25 =>
 aU v25 (
 some (.t [(aC 0), v24], h25)) (
 bnd (aO x0 h25) fun v26 h26 =>
 bnd (aB 1 v26 h26) fun v27 h27 =>
 bnd (aA v27 h27) fun v28 h28 =>
 bnd (aO x0 h28) fun v29 h29 =>
 bnd (aB 2 v29 h29) fun v30 h30 =>
 bnd (aA v30 h30) fun v31 h31 =>
 bnd (aI 1 v28 (aC 0) h31) fun v32 h32 =>
 bnd (aD 1 v32 v23 h32) fun v33 h33 =>
 bnd (iI .string (aC 0) v31 x1 h33) fun v34 h34 =>
 bnd (aG 1 v34 h34) fun v35 h35 =>
 bnd (fS v31 v35 v14 h35) fun v36 h36 =>
 some (.t [v14, (aC 0)], h36)))))
noncomputable abbrev c10 : Code := cf Tryz.f10
noncomputable abbrev r10 : K := aR CF Tryz.f10
noncomputable def D10 (r : RT) (n : Nat) (c : Code) (X : Nat → K) (k : K) : K := aM CF r 68 n c X r10 k
theorem eKa : D10 r n c10 x0 r10 = (K2 (s10 r n) 0 1) :=
 (by kernel_rfl)
theorem eEg : aE CF r n 10 args h = s10 r n (aP args 0) (aP args 1) h :=
 (by kernel_rfl : aE CF r n 10 args h = D10 r n c10 x0 r10 (aJ args) h).trans ((congrFun (congrFun (eKa r n) (aJ args)) h).trans (by kernel_rfl))
noncomputable def s11 (r : RT) (n : Nat) (x0 x1 : DV) (h0 : Hp) : aK :=
 bnd (aO x0 h0) fun v1 h1 =>
 bnd (aB 3 v1 h1) fun v2 h2 =>
 bnd (aA v2 h2) fun v3 h3 =>
 bnd (gM .string (aC 0) false v3 x1 h3) fun v4 h4 =>
 some (v4, h4)
noncomputable abbrev c11 : Code := cf Tryz.f11
noncomputable abbrev r11 : K := aR CF Tryz.f11
noncomputable def D11 (r : RT) (n : Nat) (c : Code) (X : Nat → K) (k : K) : K := aM CF r 11 n c X r11 k
theorem eKs : D11 r n c11 x0 r11 = (K2 (s11 r n) 0 1) :=
 (by kernel_rfl)
theorem eAa : aE CF r n 11 args h = s11 r n (aP args 0) (aP args 1) h :=
 (by kernel_rfl : aE CF r n 11 args h = D11 r n c11 x0 r11 (aJ args) h).trans ((congrFun (congrFun (eKs r n) (aJ args)) h).trans (by kernel_rfl))
noncomputable def s16 (r : RT) (n : Nat) (h0 : Hp) : aK :=
 bnd (r 7 [(.i .i64 (Int.ofNat 40000))] h0) fun v1 h1 =>
 bnd (aG 0 v1 h1) fun v2 h2 =>
 bnd (aG 1 v1 h2) fun v3 h3 =>
 bnd (qR (.pointer 77) true v2 .p0 h3) fun v4 h4 =>
 bnd (gD v4 false (some (v3, h4)) h4) fun v5 h5 =>
 bnd (gD v4 false (aF .neq v5 (.i .i64 (Int.ofNat 0)) h5) h5) fun v6 h6 =>
 bnd (aQ v4 (.b true) v6 h6) fun v7 h7 =>
 aU v7 (
 some (.p0, h7)) (
 bnd (r 44 [v2] h7) fun v8 h8 =>
 bnd (aT [.l0, .l0] [] h8) fun v9 h9 =>
 bnd (bM v9 h9) fun v10 h10 =>
 bnd (aT [.p0, .p0, .p0, .l0] [(0, 1, v2), (1, 1, v8), (2, 1, v10)] h10) fun v11 h11 =>
 bnd (bM v11 h11) fun v12 h12 =>
 some (v12, h12))
noncomputable abbrev c16 : Code := cf Tryz.f16
noncomputable abbrev r16 : K := aR CF Tryz.f16
noncomputable def D16 (r : RT) (n : Nat) (c : Code) (X : Nat → K) (k : K) : K := aM CF r 20 n c X r16 k
theorem eOs : D16 r n c16 x0 r16 = (K0 (s16 r n)) :=
 (by kernel_rfl)
theorem dHv : aE CF r n 16 args h = s16 r n h :=
 (by kernel_rfl : aE CF r n 16 args h = D16 r n c16 x0 r16 (aJ args) h).trans ((congrFun (congrFun (eOs r n) (aJ args)) h).trans (by kernel_rfl))
noncomputable def s17 (r : RT) (n : Nat) (x0 : DV) (h0 : Hp) : aK :=
 bnd (aO x0 h0) fun v1 h1 =>
 bnd (aB 0 v1 h1) fun v2 h2 =>
 bnd (aA v2 h2) fun v3 h3 =>
 some (v3, h3)
noncomputable abbrev c17 : Code := cf Tryz.f17
noncomputable abbrev r17 : K := aR CF Tryz.f17
noncomputable def D17 (r : RT) (n : Nat) (c : Code) (X : Nat → K) (k : K) : K := aM CF r 7 n c X r17 k
theorem eNi : D17 r n c17 x0 r17 = (K1 (s17 r n) 0) :=
 (by kernel_rfl)
theorem dHd : aE CF r n 17 args h = s17 r n (aP args 0) h :=
 (by kernel_rfl : aE CF r n 17 args h = D17 r n c17 x0 r17 (aJ args) h).trans ((congrFun (congrFun (eNi r n) (aJ args)) h).trans (by kernel_rfl))
noncomputable def s19 (r : RT) (n : Nat) (x0 x1 : DV) (h0 : Hp) : aK :=
 bnd (bM x0 h0) fun v1 h1 =>
 bnd (bM x1 h1) fun v2 h2 =>
 bnd (aB 4 v2 h2) fun v3 h3 =>
 bnd (aA v3 h3) fun v4 h4 =>
 bnd (aF .eql v4 (.i .i64 (Int.ofNat 0)) h4) fun v5 h5 =>
 bnd (gD v5 true (aB 5 v2 h5) h5) fun v6 h6 =>
 bnd (gD v5 true (aA v6 h6) h6) fun v7 h7 =>
 bnd (gD v5 true (bK v7 h7) h7) fun v8 h8 =>
 bnd (gD v5 true (aF .leq v8 (.i .i64 (Int.ofNat 24)) h8) h8) fun v9 h9 =>
 bnd (aQ v5 v9 (.b false) h9) fun v10 h10 =>
 bnd (bA [(.b false)] h10) fun v11 h11 =>
 bnd (aD 1 v11 v10 h11) fun _ h12 =>
 bnd (r 47 [v2, (.f 48 [] [v11, v1])] h12) fun v13 h13 =>
 bnd (aA v1 h13) fun v14 h14 =>
 bnd (aO v14 h14) fun v15 h15 =>
 bnd (aB 1 v15 h15) fun v16 h16 =>
 bnd (aA v16 h16) fun v17 h17 =>
 bnd (bK v17 h17) fun v18 h18 =>
 bnd (aF .geq v18 (.i .i64 (Int.ofNat 60)) h18) fun v19 h19 =>
 aU v19 (
 some ((.i .i64 (Int.ofNat 22)), h19)) (
 bnd (aA v11 h19) fun v20 h20 =>
 bnd (eO .not v20 h20) fun v21 h21 =>
 aU v21 (
 some ((.i .i64 (Int.ofNat 1)), h21)) (
 bnd (aA v1 (resv 1 h21)) fun v22 h22 =>
 bnd (aA v1 h22) fun v23 h23 =>
 bnd (aO v23 h23) fun v24 h24 =>
 bnd (aB 1 v24 h24) fun v25 h25 =>
 bnd (aA v25 h25) fun v26 h26 =>
 bnd (aH 10 v2 h26) fun v27 h27 =>
 bnd (r 49 [v27] h27) fun v28 h28 =>
 cnd (aW (aA v25 h28) v26 && (aW (aA v1 h28) v23 && (aW (aA v1 h28) v22 && true))) (
 bnd (aS (bD 0 h21.next) [(.i .i64 (Int.ofNat 0)), (.i .i64 (Int.ofNat 0)), (.i .i64 (Int.ofNat 0)), (.i .i64 (Int.ofNat 0)), (.i .i64 (Int.ofNat 0)), .l0, .l0, (.b false), (.i .i64 (Int.ofNat 0)), (.i .i64 (Int.ofNat 0))] 1 [(0, 10, v28)] h28) fun v29 h29 =>
 bnd (aX 10 112 v26 v29 h29) fun v30 h30 =>
 cnd (aW (aA v1 h30) v22 && true) (
 bnd (aO v22 h30) fun v31 h31 =>
 bnd (aB 1 v31 h31) fun v32 h32 =>
 bnd (aD 1 v32 v30 h32) fun v33 h33 =>
 some ((.i .i64 (Int.ofNat 0)), h33)))))
noncomputable abbrev c19 : Code := cf Tryz.f19
noncomputable abbrev r19 : K := aR CF Tryz.f19
noncomputable def D19 (r : RT) (n : Nat) (c : Code) (X : Nat → K) (k : K) : K := aM CF r 38 n c X r19 k
theorem eKu : D19 r n c19 x0 r19 = (K2 (s19 r n) 0 1) :=
 (by kernel_rfl)
theorem bRn : aE CF r n 19 args h = s19 r n (aP args 0) (aP args 1) h :=
 (by kernel_rfl : aE CF r n 19 args h = D19 r n c19 x0 r19 (aJ args) h).trans ((congrFun (congrFun (eKu r n) (aJ args)) h).trans (by kernel_rfl))
noncomputable def aBu (r : RT) (n : Nat) (x0 x1 : DV) (h0 : Hp) : aK :=
 bnd (aF .rem x0 x1 h0) fun v1 h1 =>
 some (v1, h1)
noncomputable def aRd (r : RT) (n : Nat) (x0 x1 : DV) (h0 : Hp) : aK :=
 bnd (aF .lss x0 (.i .i64 (Int.ofNat 0)) h0) fun v1 h1 =>
 aU v1 (
 bnd (aF .add x0 (.i .i64 (Int.ofNat 1)) h1) fun v2 h2 =>
 bnd (eO .neg v2 h2) fun v3 h3 =>
  aBu r n v3 x1 h3) (
  aBu r n x0 x1 h1)
noncomputable def s20 (r : RT) (n : Nat) (x0 x1 : DV) (h0 : Hp) : aK :=
 aRd r n x0 x1 h0
noncomputable abbrev c20 : Code := cf Tryz.f20
noncomputable abbrev bGa : Code := cR c20
noncomputable abbrev eCn : Code := cR bGa
noncomputable abbrev dGr : Code := cL bGa
noncomputable abbrev dHc : Code := cL c20
noncomputable abbrev r20 : K := aR CF Tryz.f20
noncomputable def D20 (r : RT) (n : Nat) (c : Code) (X : Nat → K) (k : K) : K := aM CF r 13 n c X r20 k
theorem dQl : D20 r n eCn x0 r20 = (K2 (aBu r n) 0 1) :=
 (by kernel_rfl)
theorem cZj : D20 r n bGa x0 r20 = D20 r n dGr x0 (K2 (aBu r n) 0 1) :=
 congrArg (fun k => D20 r n dGr x0 k) (dQl r n)
theorem dMp : D20 r n bGa x0 r20 = (K2 (aRd r n) 0 1) :=
 (cZj r n).trans
 ((by kernel_rfl))
theorem eCx : D20 r n c20 x0 r20 = D20 r n dHc x0 (K2 (aRd r n) 0 1) :=
 congrArg (fun k => D20 r n dHc x0 k) (dMp r n)
theorem eJj : D20 r n c20 x0 r20 = (K2 (s20 r n) 0 1) :=
 (eCx r n).trans
 ((by kernel_rfl))
theorem dHl : aE CF r n 20 args h = s20 r n (aP args 0) (aP args 1) h :=
 (by kernel_rfl : aE CF r n 20 args h = D20 r n c20 x0 r20 (aJ args) h).trans ((congrFun (congrFun (eJj r n) (aJ args)) h).trans (by kernel_rfl))
noncomputable def s21 (r : RT) (n : Nat) (x0 : DV) (h0 : Hp) : aK :=
 bnd (aO x0 h0) fun v1 h1 =>
 bnd (aB 1 v1 h1) fun v2 h2 =>
 bnd (aA v2 h2) fun v3 h3 =>
 bnd (bK v3 h3) fun v4 h4 =>
 some (v4, h4)
noncomputable abbrev c21 : Code := cf Tryz.f21
noncomputable abbrev r21 : K := aR CF Tryz.f21
noncomputable def D21 (r : RT) (n : Nat) (c : Code) (X : Nat → K) (k : K) : K := aM CF r 8 n c X r21 k
theorem eOi : D21 r n c21 x0 r21 = (K1 (s21 r n) 0) :=
 (by kernel_rfl)
theorem eDi : aE CF r n 21 args h = s21 r n (aP args 0) h :=
 (by kernel_rfl : aE CF r n 21 args h = D21 r n c21 x0 r21 (aJ args) h).trans ((congrFun (congrFun (eOi r n) (aJ args)) h).trans (by kernel_rfl))
noncomputable def s22 (r : RT) (n : Nat) (x0 : DV) (h0 : Hp) : aK :=
 bnd (aO x0 h0) fun v1 h1 =>
 bnd (aB 1 v1 h1) fun v2 h2 =>
 bnd (aA v2 h2) fun v3 h3 =>
 bnd (bK v3 h3) fun v4 h4 =>
 bnd (aF .eql v4 (aC 0) h4) fun v5 h5 =>
 aU v5 (
 some (.p0, h5)) (
 bnd (aO x0 h5) fun v6 h6 =>
 bnd (aB 1 v6 h6) fun v7 h7 =>
 bnd (aA v7 h7) fun v8 h8 =>
 bnd (aO x0 h8) fun v9 h9 =>
 bnd (aB 1 v9 h9) fun v10 h10 =>
 bnd (aA v10 h10) fun v11 h11 =>
 bnd (bK v11 h11) fun v12 h12 =>
 bnd (aF .sub v12 (aC 1) h12) fun v13 h13 =>
 bnd (aI 10 v8 v13 h13) fun v14 h14 =>
 some (v14, h14))
noncomputable abbrev c22 : Code := cf Tryz.f22
noncomputable abbrev r22 : K := aR CF Tryz.f22
noncomputable def D22 (r : RT) (n : Nat) (c : Code) (X : Nat → K) (k : K) : K := aM CF r 20 n c X r22 k
theorem eLq : D22 r n c22 x0 r22 = (K1 (s22 r n) 0) :=
 (by kernel_rfl)
theorem dZm : aE CF r n 22 args h = s22 r n (aP args 0) h :=
 (by kernel_rfl : aE CF r n 22 args h = D22 r n c22 x0 r22 (aJ args) h).trans ((congrFun (congrFun (eLq r n) (aJ args)) h).trans (by kernel_rfl))
noncomputable def s23 (r : RT) (n : Nat) (h0 : Hp) : aK :=
 bnd (r 7 [(.i .i64 (Int.ofNat 20000))] h0) fun v1 h1 =>
 bnd (aG 0 v1 h1) fun v2 h2 =>
 bnd (aG 1 v1 h2) fun v3 h3 =>
 bnd (qR (.pointer 77) true v2 .p0 h3) fun v4 h4 =>
 bnd (gD v4 false (some (v3, h4)) h4) fun v5 h5 =>
 bnd (gD v4 false (aF .neq v5 (.i .i64 (Int.ofNat 0)) h5) h5) fun v6 h6 =>
 bnd (aQ v4 (.b true) v6 h6) fun v7 h7 =>
 aU v7 (
 some ((.b false), h7)) (
 bnd (r 44 [v2] h7) fun v8 h8 =>
 bnd (qR (.pointer 111) true v8 .p0 h8) fun v9 h9 =>
 aU v9 (
 some ((.b false), h9)) (
 bnd (aN [(.i .i64 (Int.ofNat 0)), (.i .i64 (Int.ofNat 0))] 2 [(0, 1, (.i .i64 (Int.ofNat 7))), (1, 1, (.i .i64 (Int.ofNat 11)))] h9) fun v10 h10 =>
 bnd (aT [(.i .i64 (Int.ofNat 0)), (.i .i64 (Int.ofNat 0)), (.i .i64 (Int.ofNat 0)), (.i .i64 (Int.ofNat 0)), (.i .i64 (Int.ofNat 0)), .l0, .l0, (.b false), (.i .i64 (Int.ofNat 0)), (.i .i64 (Int.ofNat 0))] [(5, 1, v10)] h10) fun v11 h11 =>
 bnd (r 19 [v8, v11] h11) fun v12 h12 =>
 bnd (r 50 [v8, (.i .i64 (Int.ofNat 0))] h12) fun v13 h13 =>
 bnd (aG 0 v13 h13) fun v14 h14 =>
 bnd (aG 1 v13 h14) fun v15 h15 =>
 bnd (r 51 [v8, (.i .i64 (Int.ofNat 0)), (.i .i64 (Int.ofNat 1)), (.i .i64 (Int.ofNat 15))] h15) fun v16 h16 =>
 bnd (r 17 [v2] h16) fun v17 h17 =>
 bnd (aQn [v17, v14, (.i .i64 (Int.ofNat 6))] h17) fun v18 h18 =>
 bnd (aG 0 v18 h18) fun v19 h19 =>
 bnd (aG 1 v18 h19) fun v20 h20 =>
 bnd (r 53 [v8, (.i .i64 (Int.ofNat 0)), (.i .i64 (Int.ofNat 1))] h20) fun v21 h21 =>
 bnd (r 54 [v8, v14] h21) fun v22 h22 =>
 bnd (r 55 [v8] h22) fun v23 h23 =>
 bnd (aG 0 v23 h23) fun v24 h24 =>
 bnd (aG 1 v23 h24) fun v25 h25 =>
 bnd (bA [(.i .i64 (Int.ofNat 0)), (.i .i64 (Int.ofNat 0)), (.i .i64 (Int.ofNat 0)), (.i .i64 (Int.ofNat 0)), (.i .i64 (Int.ofNat 0)), .l0, .l0, (.b false), (.i .i64 (Int.ofNat 0)), (.i .i64 (Int.ofNat 0))] h25) fun v26 h26 =>
 bnd (aD 10 v26 v24 h26) fun _ h27 =>
 bnd (r 17 [v2] h27) fun v28 h28 =>
 bnd (aQn [v28, v14, (.i .i64 (Int.ofNat 6))] h28) fun v29 h29 =>
 bnd (aG 0 v29 h29) fun v30 h30 =>
 bnd (aG 1 v29 h30) fun v31 h31 =>
 bnd (aF .eql v12 (.i .i64 (Int.ofNat 0)) h31) fun v32 h32 =>
 bnd (gD v32 true (some (v15, h32)) h32) fun v33 h33 =>
 bnd (gD v32 true (aF .eql v33 (.i .i64 (Int.ofNat 0)) h33) h33) fun v34 h34 =>
 bnd (aQ v32 v34 (.b false) h34) fun v35 h35 =>
 bnd (gD v35 true (some (v16, h35)) h35) fun v36 h36 =>
 bnd (aQ v35 v36 (.b false) h36) fun v37 h37 =>
 bnd (gD v37 true (some (v19, h37)) h37) fun v38 h38 =>
 bnd (gD v37 true (aF .eql v38 (.i .i64 (Int.ofNat 15)) h38) h38) fun v39 h39 =>
 bnd (aQ v37 v39 (.b false) h39) fun v40 h40 =>
 bnd (gD v40 true (some (v21, h40)) h40) fun v41 h41 =>
 bnd (gD v40 true (aF .eql v41 (.i .i64 (Int.ofNat 15)) h41) h41) fun v42 h42 =>
 bnd (aQ v40 v42 (.b false) h42) fun v43 h43 =>
 bnd (gD v43 true (some (v22, h43)) h43) fun v44 h44 =>
 bnd (gD v43 true (aF .eql v44 (.i .i64 (Int.ofNat 0)) h44) h44) fun v45 h45 =>
 bnd (aQ v43 v45 (.b false) h45) fun v46 h46 =>
 bnd (gD v46 true (some (v25, h46)) h46) fun v47 h47 =>
 bnd (aQ v46 v47 (.b false) h47) fun v48 h48 =>
 bnd (gD v48 true (some (v8, h48)) h48) fun v49 h49 =>
 bnd (gD v48 true (some (v14, h49)) h49) fun v50 h50 =>
 bnd (gD v48 true (r 54 [v49, v50] h50) h50) fun v51 h51 =>
 bnd (gD v48 true (aF .eql v51 (.i .i64 (Int.negSucc 0)) h51) h51) fun v52 h52 =>
 bnd (aQ v48 v52 (.b false) h52) fun v53 h53 =>
 bnd (gD v53 true (some (v30, h53)) h53) fun v54 h54 =>
 bnd (gD v53 true (aF .eql v54 (.i .i64 (Int.ofNat 15)) h54) h54) fun v55 h55 =>
 bnd (aQ v53 v55 (.b false) h55) fun v56 h56 =>
 bnd (gD v56 true (some (v8, h56)) h56) fun v57 h57 =>
 bnd (gD v56 true (r 21 [v57] h57) h57) fun v58 h58 =>
 bnd (gD v56 true (aF .eql v58 (.i .i64 (Int.ofNat 0)) h58) h58) fun v59 h59 =>
 bnd (aQ v56 v59 (.b false) h59) fun v60 h60 =>
 bnd (gD v60 true (some (v2, h60)) h60) fun v61 h61 =>
 bnd (gD v60 true (some (v14, h61)) h61) fun v62 h62 =>
 bnd (gD v60 true (r 56 [v61, v62] h62) h62) fun v63 h63 =>
 bnd (gD v60 true (some (v2, h63)) h63) fun v64 h64 =>
 bnd (gD v60 true (r 34 [v64, (.i .i64 (Int.ofNat 13))] h64) h64) fun v65 h65 =>
 bnd (gD v60 true (aF .eql v63 v65 h65) h65) fun v66 h66 =>
 bnd (aQ v60 v66 (.b false) h66) fun v67 h67 =>
 some (v67, h67)))
noncomputable abbrev c23 : Code := cf Tryz.f23
noncomputable abbrev r23 : K := aR CF Tryz.f23
noncomputable def D23 (r : RT) (n : Nat) (c : Code) (X : Nat → K) (k : K) : K := aM CF r 112 n c X r23 k
theorem eLk : D23 r n c23 x0 r23 = (K0 (s23 r n)) :=
 (by kernel_rfl)
theorem dGs : aE CF r n 23 args h = s23 r n h :=
 (by kernel_rfl : aE CF r n 23 args h = D23 r n c23 x0 r23 (aJ args) h).trans ((congrFun (congrFun (eLk r n) (aJ args)) h).trans (by kernel_rfl))
end Go.Dd

namespace Go.Dd
open Go.Proofs
variable (r : RT) (n : Nat) (args : List DV) (h : Hp)
end Go.Dd

